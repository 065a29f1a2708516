/- FCTwins: what its proof needs, part 5. -/
import Derived.Test.YtkaooejeljdbnaaHTwins4
set_option linter.unusedVariables false
set_option linter.unusedSimpArgs false
namespace Go.Proofs.Ytkaooejeljdbnaa
open Go
set_option linter.unusedVariables false
set_option linter.unusedSimpArgs false
set_option maxRecDepth 10000
def zgen : List AV := [.p (.int .i64 0), .p (.int .i64 0), .p (.int .i64 0), .p (.sl false 3 []), .p (.sl false 3 []), .p (.sl false 3 []), .p (.sl false 3 [])]
def gcells (k N r : Nat) : List AV := [.p (.int .i64 k), .p (.int .i64 N), .p (.int .i64 r), .vec 2 3 (0 + 0) (cntA k N - 0), .vec 2 3 (0 + cntA k N) (cntA k N + cntB k N - cntA k N),
  .vec 2 3 (0 + (cntA k N + cntB k N)) (cntA k N + cntB k N + cntH k N r - (cntA k N + cntB k N)), .vec 2 3 (0 + (cntA k N + cntB k N + cntH k N r)) (cntA k N + cntB k N + 2 * cntH k N r - (cntA k N + cntB k N + cntH k N r))]
theorem frzS {H : Hp} {h : Hd} {T : TypeId} {N off len l : Nat} {F g : Nat → Rat} (hB : look H h = .vec T 3 (rats (lst N F))) (hl : off + len ≤ N) (hlen : len = l) (hg : ∀ t, t < l → F (off + t) = g t) : Conv [] H (.vec h 3 off len) (.p (ratsM false (lst l g))) := by
  subst hlen
  refine .frz hB (by simp) (by simpa [lst] using hl) (pers_rats _) ?_
  apply List.ext_getElem
  · simp [lst]; omega
  · intro i h1 h2
    have hi : i < len := by simpa [lst] using h2
    simp [lst, rats, hg i hi]
theorem lmake5_ok (m : Bool) (kind n most : Int) (ns : List Int) (hkind : I64 kind) (hn : I64 n) (hns : I64s ns) (hm1 : 1 ≤ most) (hm8 : most ≤ 8) :
    CallP Try.prog 64 [.int .i64 kind, .int .i64 n, .sl m 1 (intsP ns), .int .i64 most] (.p (genP noF (mkG (gmK kind) (gmN n most) (gmR (gmK kind) n) (rowG ns)))) [] := by
  have hkz : ((gmK kind : Nat) : Int) = 1 + kind % 7 := by unfold gmK; omega
  have hmz := Int.emod_nonneg n (show most ≠ 0 by omega)
  have hmz2 := Int.emod_lt_of_pos n (show (0 : Int) < most by omega)
  have hnz : ((gmN n most : Nat) : Int) = 1 + n % most := by unfold gmN; omega
  obtain ⟨k, hk⟩ : ∃ k, k = gmK kind := ⟨_, rfl⟩
  obtain ⟨N, hN⟩ : ∃ N, N = gmN n most := ⟨_, rfl⟩
  obtain ⟨r, hr⟩ : ∃ r, r = gmR k n := ⟨_, rfl⟩
  rw [← hk] at hkz ⊢
  rw [← hN] at hnz ⊢
  rw [← hr]
  have k1 : 1 ≤ k := by omega
  have k7 : k ≤ 7 := by omega
  have n1 : 1 ≤ N := by omega
  have n8 : N ≤ 8 := by omega
  have hr3 : r ≤ 3 := by rw [hr]; unfold gmR; split <;> omega
  obtain ⟨ca, cb, ch, cbn⟩ := cnt_le (k := k) (r := r) n1 n8 hr3
  have hf : ∀ i, -20 ≤ rowG ns i ∧ rowG ns i ≤ 20 := fun i => smallQ_range _
  have hfb : ∀ i, Bz (rowG ns i) 5 := rowG_bz ns
  refine callG_of_vc (wr := wr0) Γok mixed Try.func64 (by kernel_rfl) rfl (by kernel_rfl) (le_of_ble rfl) (by simp) ?_
  refine SCall.pure (within5_ok kind 7 (by omega) (by omega)) ?_
  refine SWrap.i64z (k : Int) (by omega) (by omega) ?_
  refine SCall.pure (within5_ok n most (by omega) (by omega)) ?_
  refine SWrap.i64z (N : Int) (by omega) (by omega) ?_
  refine SCall.pure (rlike_ok k k1 k7) ?_
  by_cases hl : k = 6 ∨ k = 7
  · rw [decide_eq_true hl]
    refine SCond.mk (fun _ => ?_) (fun h => by cases h)
    have hq : -9223372036854775808 ≤ n.tdiv 8 ∧ n.tdiv 8 < 9223372036854775808 := by
      unfold I64 at hn
      rw [Int.tdiv_eq_ediv, show Int.sign 8 = 1 from rfl]; split <;> omega
    refine SNe.mk (by omega) ?_
    refine SWrap.i64z (n.tdiv 8) rfl hq ?_
    refine SCall.pure (within5_ok (n.tdiv 8) 2 (by omega) (by omega)) ?_
    have hrz : 1 + n.tdiv 8 % 2 = (r : Int) := by rw [hr]; unfold gmR; rw [if_pos hl]; omega
    refine SWrap.i64z (r : Int) hrz (by omega) ?_
    have hc := rcounts_ok k N r k1 k7 n1 n8 hr3 false false false false [] [] [] []
    refine SCall.pureT (hc) (fun _ => rfl) ?_
    refine SWrap.i64z ((cntA k N + cntB k N : Nat) : Int) (by omega) (by omega) ?_
    refine SWrap.i64z ((2 * cntH k N r : Nat) : Int) (by omega) (by omega) ?_
    refine SWrap.i64z ((cntA k N + cntB k N + 2 * cntH k N r : Nat) : Int) (by omega) (by omega) ?_
    refine SCall.fresh (pvs := [.sl m 1 (intsP ns), .int .i64 ((cntA k N + cntB k N + 2 * cntH k N r : Nat) : Int)]) (row2v_ok m ns hns (cntA k N + cntB k N + 2 * cntH k N r) (by omega)) ?_
    refine SDraw.mkX (by kernel_rfl) ?_
    repeat refine SOp.mk _ _ (And.intro rfl rfl) rfl ?_
    refine SOp.mk _ _ (SZ.mk (cntA k N : Int) rfl <| SLt.mk (by simp) <| SCut.mk (0) (cntA k N) rfl rfl (by omega) (by omega) (And.intro rfl rfl)) rfl ?_
    repeat refine SOp.mk _ _ (And.intro rfl rfl) rfl ?_
    refine SOp.mk _ _ (SWrap.i64z ((cntA k N + cntB k N : Nat) : Int) (by omega) (by omega) (And.intro rfl rfl)) rfl ?_
    repeat refine SOp.mk _ _ (And.intro rfl rfl) rfl ?_
    refine SOp.mk _ _ (SWrap.i64z ((cntA k N + cntB k N : Nat) : Int) (by omega) (by omega) (And.intro rfl rfl)) rfl ?_
    refine SOp.mk _ _ (SZ.mk ((cntA k N + cntB k N : Nat) : Int) rfl <| SLt.mk (by simp) <| SCut.mk (cntA k N) (cntA k N + cntB k N) rfl rfl (by omega) (by omega) (And.intro rfl rfl)) rfl ?_
    repeat refine SOp.mk _ _ (And.intro rfl rfl) rfl ?_
    refine SOp.mk _ _ (SWrap.i64z ((cntA k N + cntB k N : Nat) : Int) (by omega) (by omega) (And.intro rfl rfl)) rfl ?_
    repeat refine SOp.mk _ _ (And.intro rfl rfl) rfl ?_
    refine SOp.mk _ _ (SWrap.i64z ((cntA k N + cntB k N : Nat) : Int) (by omega) (by omega) (And.intro rfl rfl)) rfl ?_
    repeat refine SOp.mk _ _ (And.intro rfl rfl) rfl ?_
    refine SOp.mk _ _ (SWrap.i64z ((cntA k N + cntB k N + cntH k N r : Nat) : Int) (by omega) (by omega) (And.intro rfl rfl)) rfl ?_
    repeat refine SOp.mk _ _ (And.intro rfl rfl) rfl ?_
    refine SOp.mk _ _ (SWrap.i64z ((cntA k N + cntB k N : Nat) : Int) (by omega) (by omega) (And.intro rfl rfl)) rfl ?_
    repeat refine SOp.mk _ _ (And.intro rfl rfl) rfl ?_
    refine SOp.mk _ _ (SWrap.i64z ((cntA k N + cntB k N + cntH k N r : Nat) : Int) (by omega) (by omega) (And.intro rfl rfl)) rfl ?_
    refine SOp.mk _ _ (SZ.mk ((cntA k N + cntB k N + cntH k N r : Nat) : Int) rfl <| SLt.mk (by simp) <| SCut.mk (cntA k N + cntB k N) (cntA k N + cntB k N + cntH k N r) rfl rfl (by omega) (by omega) (And.intro rfl rfl)) rfl ?_
    repeat refine SOp.mk _ _ (And.intro rfl rfl) rfl ?_
    refine SOp.mk _ _ (SWrap.i64z ((cntA k N + cntB k N : Nat) : Int) (by omega) (by omega) (And.intro rfl rfl)) rfl ?_
    repeat refine SOp.mk _ _ (And.intro rfl rfl) rfl ?_
    refine SOp.mk _ _ (SWrap.i64z ((cntA k N + cntB k N + cntH k N r : Nat) : Int) (by omega) (by omega) (And.intro rfl rfl)) rfl ?_
    refine SOp.mk _ _ (SCut.mk (cntA k N + cntB k N + cntH k N r) (cntA k N + cntB k N + 2 * cntH k N r) rfl rfl (by omega) (by omega) (And.intro rfl rfl)) rfl ?_
    repeat refine SOp.mk _ _ (And.intro rfl rfl) rfl ?_
    refine SFin.mk (by kernel_rfl) ?_
    refine SLoop.mk (Nat × (Nat → Rat)) (fun (j, F) => ([(8, .bptr 0 0), (9, .bptr 1 0), (10, .p (.int .i64 (cntA k N))), (11, .p (.int .i64 (cntB k N))), (14, .p (.int .i64 j))],
        [.box 59 zgen, .box 59 (gcells k N r), .vec 37 3 (rats (lst (cntA k N + cntB k N + 2 * cntH k N r) F))]))
      (fun (j, F) => j ≤ cntB k N ∧ ∀ t, t < cntA k N + cntB k N + 2 * cntH k N r → F t = if cntA k N ≤ t ∧ t < cntA k N + j then bfix (rowG ns) (t - cntA k N) (rowG ns t) (cntA k N) else rowG ns t) (fun x => cntB k N - x.1) (0, rowG ns) [0, 1, 2]
      ⟨Nat.zero_le _, fun t _ => by rw [if_neg (by omega)]⟩ ⟨rfl, by simp, rfl, rfl, rfl, ⟨rfl, rfl, rfl, rfl, rfl, trivial⟩, ⟨rfl, rfl, rfl, trivial⟩⟩ ?_
    intro ⟨j, F⟩ ⟨j1, j2⟩
    by_cases hj : j < cntB k N
    · refine SCmp.yes (decide_eq_true (by omega)) ?_
      refine SLoop.mk (Nat × (Nat → Rat)) (fun (i, F) => ([(8, .bptr 0 0), (9, .bptr 1 0), (10, .p (.int .i64 (cntA k N))), (11, .p (.int .i64 (cntB k N))), (14, .p (.int .i64 j)), (15, .p (.int .i64 i))],
          [.box 59 zgen, .box 59 (gcells k N r), .vec 37 3 (rats (lst (cntA k N + cntB k N + 2 * cntH k N r) F))]))
        (fun (i, F') => i ≤ cntA k N ∧ ∀ t, t < cntA k N + cntB k N + 2 * cntH k N r → F' t = if t = cntA k N + j then bfix (rowG ns) j (rowG ns (cntA k N + j)) i else F t) (fun x => cntA k N - x.1) (0, F) [0, 1, 2]
        ⟨Nat.zero_le _, fun t ht => by
          split
          · rename_i e; rw [j2 t ht, if_neg (by omega), e]; rfl
          · rfl⟩ ⟨rfl, by simp, rfl, rfl, rfl, ⟨rfl, rfl, rfl, rfl, rfl, rfl, trivial⟩, ⟨rfl, rfl, rfl, trivial⟩⟩ ?_
      intro ⟨i, F'⟩ ⟨i1, i2⟩
      by_cases hi : i < cntA k N
      · refine SCmp.yes (decide_eq_true (by omega)) ?_
        have eA : F' i = rowG ns i := by rw [i2 i (by omega), if_neg (by omega), j2 i (by omega), if_neg (by omega)]
        have eB : F' (cntA k N + j) = bfix (rowG ns) j (rowG ns (cntA k N + j)) i := by rw [i2 _ (by omega), if_pos rfl]
        have zA : Bz (rowG ns i) 13 := (hfb i).mono (by omega)
        have zB := bfix_bz hf (j := j) (by omega) (hf (cntA k N + j)) (hfb _) i
        refine SDraw.mk (by kernel_rfl) ?_
        repeat refine SOp.mk _ _ (And.intro rfl rfl) rfl ?_
        refine SOp.mk _ _ (SPos.mk i rfl (by omega) (And.intro rfl rfl)) rfl ?_
        refine SOp.mk _ _ (SIdx.rv (i + (0 + 0)) (rowG ns i) rfl (by omega) eA (And.intro rfl rfl)) rfl ?_
        repeat refine SOp.mk _ _ (And.intro rfl rfl) rfl ?_
        refine SOp.mk _ _ (SPos.mk j rfl (by omega) (And.intro rfl rfl)) rfl ?_
        refine SOp.mk _ _ (SIdx.rv (j + (0 + cntA k N)) (bfix (rowG ns) j (rowG ns (cntA k N + j)) i) rfl (by omega) (by rw [← eB]; congr 1; omega) (And.intro rfl rfl)) rfl ?_
        repeat refine SOp.mk _ _ (And.intro rfl rfl) rfl ?_
        refine SOp.mk _ _ (SCall.pure (rsame_ok _ _ zA zB (by omega)) (And.intro rfl rfl)) rfl ?_
        repeat refine SOp.mk _ _ (And.intro rfl rfl) rfl ?_
        by_cases heq : rowG ns i = bfix (rowG ns) j (rowG ns (cntA k N + j)) i
        · refine SCond.mk (fun _ => ?_) (fun hb => absurd heq (of_decide_eq_false hb))
          have zO : Bz (((100 + j : Nat) : Int) : Rat) 7 := int_bz (k := 7) (bitLen_le (by rw [Int.natAbs_natCast]; omega)) (by omega)
          refine SDraw.mkX (by kernel_rfl) ?_
          repeat refine SOp.mk _ _ (And.intro rfl rfl) rfl ?_
          refine SOp.mk _ _ (SPos.mk j rfl (by omega) (And.intro rfl rfl)) rfl ?_
          refine SOp.mk _ _ (SIdx.rv (j + (0 + cntA k N)) (bfix (rowG ns) j (rowG ns (cntA k N + j)) i) rfl (by omega) (by rw [← eB]; congr 1; omega) (And.intro rfl rfl)) rfl ?_
          repeat refine SOp.mk _ _ (And.intro rfl rfl) rfl ?_
          refine SOp.mk _ _ (SWrap.i64z ((100 + j : Nat) : Int) (by omega) (by omega) (And.intro rfl rfl)) rfl ?_
          refine SOp.mk _ _ (SCall.pure (rint_ok ((100 + j : Nat) : Int) (by omega)) (And.intro rfl rfl)) rfl ?_
          refine SOp.mk _ _ (SCall.pure (raddq_ok _ _ zB zO (by omega)) (And.intro rfl rfl)) rfl ?_
          refine SOp.mk _ _ (SPos.mk j rfl (by omega) (And.intro rfl rfl)) rfl ?_
          refine SOp.mk _ _ (SLt.rf (by omega) <| SEs.rf (And.intro rfl rfl)) rfl ?_
          refine SFin.mk (by kernel_rfl) ?_
          refine SWrap.i64z ((i + 1 : Nat) : Int) (by omega) (by omega) ?_
          refine ⟨(i + 1, _), [0, 1, 2], ⟨hi, fun t ht => ?_⟩, by show cntA k N - (i + 1) < cntA k N - i; omega, ⟨rfl, by simp, rfl, rfl, rfl, ⟨rfl, rfl, rfl, rfl, rfl, rfl, trivial⟩, ⟨rfl, rfl, rfl, trivial⟩⟩⟩
          by_cases e : t = cntA k N + j
          · have e' : t = j + (0 + cntA k N) := by omega
            rw [if_pos e, e', upd_same]; simp only [bfix]; rw [if_pos heq]
          · rw [if_neg e, upd_other _ _ (by omega), i2 t ht, if_neg e]
        · refine SCond.mk (fun hb => absurd (of_decide_eq_true hb) heq) (fun _ => ?_)
          refine SWrap.i64z ((i + 1 : Nat) : Int) (by omega) (by omega) ?_
          refine ⟨(i + 1, F'), [0, 1, 2], ⟨hi, fun t ht => ?_⟩, by show cntA k N - (i + 1) < cntA k N - i; omega, ⟨rfl, by simp, rfl, rfl, rfl, ⟨rfl, rfl, rfl, rfl, rfl, rfl, trivial⟩, ⟨rfl, rfl, rfl, trivial⟩⟩⟩
          rw [i2 t ht]
          by_cases e : t = cntA k N + j
          · rw [if_pos e, if_pos e]; simp only [bfix]; rw [if_neg heq]
          · rw [if_neg e, if_neg e]
      · refine SCmp.no (decide_eq_false (by omega)) ?_
        obtain rfl : i = cntA k N := by omega
        refine SWrap.i64z ((j + 1 : Nat) : Int) (by omega) (by omega) ?_
        refine ⟨(j + 1, F'), [0, 1, 2], ⟨hj, fun t ht => ?_⟩, by show cntB k N - (j + 1) < cntB k N - j; omega, ⟨rfl, by simp, rfl, rfl, rfl, ⟨rfl, rfl, rfl, rfl, rfl, trivial⟩, ⟨rfl, rfl, rfl, trivial⟩⟩⟩
        rw [i2 t ht]
        by_cases e : t = cntA k N + j
        · rw [if_pos e, if_pos (by omega), e, show cntA k N + j - cntA k N = j by omega]
        · rw [if_neg e, j2 t ht]
          by_cases e2 : cntA k N ≤ t ∧ t < cntA k N + j
          · rw [if_pos e2, if_pos (by omega)]
          · rw [if_neg e2, if_neg (by omega)]
    · refine SCmp.no (decide_eq_false (by omega)) ?_
      obtain rfl : j = cntB k N := by omega
      have hL : look [.box 59 zgen, .box 59 (gcells k N r), .vec 37 3 (rats (lst (cntA k N + cntB k N + 2 * cntH k N r) F))] (2 : Nat) = .vec 37 3 (rats (lst (cntA k N + cntB k N + 2 * cntH k N r) F)) := rfl
      refine SRet.pure (.aggp (ps := genC noF (mkG k N r (rowG ns))) (fun d hd => by simp at hd; rcases hd with rfl | rfl | rfl | rfl | rfl | rfl | rfl <;> rfl) rfl fun i c d e1 e2 => ?_)
      match i, e1, e2 with
      | 0, e1, e2 => cases e1; cases e2; exact .p _ (.int _ _)
      | 1, e1, e2 => cases e1; cases e2; exact .p _ (.int _ _)
      | 2, e1, e2 => cases e1; cases e2; exact .p _ (.int _ _)
      | 3, e1, e2 =>
        cases e1; cases e2
        exact frzS (N := cntA k N + cntB k N + 2 * cntH k N r) (F := F) rfl (by omega) (Nat.sub_zero _) fun t ht => by
          have ht : t < cntA k N := ht
          rw [j2 _ (by omega), if_neg (by omega)]; show rowG ns (0 + 0 + t) = rowG ns t; congr 1; omega
      | 4, e1, e2 =>
        cases e1; cases e2
        exact frzS (N := cntA k N + cntB k N + 2 * cntH k N r) (F := F) rfl (by omega) (by show _ = cntB k N; omega) fun t ht => by
          have ht : t < cntB k N := ht
          rw [j2 _ (by omega), if_pos (by omega)]
          show bfix _ (0 + cntA k N + t - cntA k N) _ _ = bfix _ t (rowG ns (cntA k N + t)) _
          rw [show 0 + cntA k N + t = cntA k N + t by omega, show cntA k N + t - cntA k N = t by omega]
      | 5, e1, e2 =>
        cases e1; cases e2
        exact frzS (N := cntA k N + cntB k N + 2 * cntH k N r) (F := F) rfl (by omega) (by show _ = cntH k N r; omega) fun t ht => by
          have ht : t < cntH k N r := ht
          rw [j2 _ (by omega), if_neg (by omega)]; show rowG ns _ = rowG ns (cntA k N + cntB k N + t); congr 1; omega
      | 6, e1, e2 =>
        cases e1; cases e2
        exact frzS (N := cntA k N + cntB k N + 2 * cntH k N r) (F := F) rfl (by omega) (by show _ = cntH k N r; omega) fun t ht => by
          have ht : t < cntH k N r := ht
          rw [j2 _ (by omega), if_neg (by omega)]; show rowG ns _ = rowG ns (cntA k N + cntB k N + cntH k N r + t); congr 1; omega
  · rw [decide_eq_false hl]
    refine SCond.mk (fun h => by cases h) (fun _ => ?_)
    have hr0 : r = 0 := by rw [hr]; unfold gmR; rw [if_neg hl]
    subst hr0
    have hc := rcounts_ok k N 0 k1 k7 n1 n8 hr3 false false false false [] [] [] []
    refine SCall.pureT (hc) (fun _ => rfl) ?_
    refine SWrap.i64z ((cntA k N + cntB k N : Nat) : Int) (by omega) (by omega) ?_
    refine SWrap.i64z ((2 * cntH k N 0 : Nat) : Int) (by omega) (by omega) ?_
    refine SWrap.i64z ((cntA k N + cntB k N + 2 * cntH k N 0 : Nat) : Int) (by omega) (by omega) ?_
    refine SCall.fresh (pvs := [.sl m 1 (intsP ns), .int .i64 ((cntA k N + cntB k N + 2 * cntH k N 0 : Nat) : Int)]) (row2v_ok m ns hns (cntA k N + cntB k N + 2 * cntH k N 0) (by omega)) ?_
    refine SDraw.mkX (by kernel_rfl) ?_
    repeat refine SOp.mk _ _ (And.intro rfl rfl) rfl ?_
    refine SOp.mk _ _ (SZ.mk (cntA k N : Int) rfl <| SLt.mk (by simp) <| SCut.mk (0) (cntA k N) rfl rfl (by omega) (by omega) (And.intro rfl rfl)) rfl ?_
    repeat refine SOp.mk _ _ (And.intro rfl rfl) rfl ?_
    refine SOp.mk _ _ (SWrap.i64z ((cntA k N + cntB k N : Nat) : Int) (by omega) (by omega) (And.intro rfl rfl)) rfl ?_
    repeat refine SOp.mk _ _ (And.intro rfl rfl) rfl ?_
    refine SOp.mk _ _ (SWrap.i64z ((cntA k N + cntB k N : Nat) : Int) (by omega) (by omega) (And.intro rfl rfl)) rfl ?_
    refine SOp.mk _ _ (SZ.mk ((cntA k N + cntB k N : Nat) : Int) rfl <| SLt.mk (by simp) <| SCut.mk (cntA k N) (cntA k N + cntB k N) rfl rfl (by omega) (by omega) (And.intro rfl rfl)) rfl ?_
    repeat refine SOp.mk _ _ (And.intro rfl rfl) rfl ?_
    refine SOp.mk _ _ (SWrap.i64z ((cntA k N + cntB k N : Nat) : Int) (by omega) (by omega) (And.intro rfl rfl)) rfl ?_
    repeat refine SOp.mk _ _ (And.intro rfl rfl) rfl ?_
    refine SOp.mk _ _ (SWrap.i64z ((cntA k N + cntB k N : Nat) : Int) (by omega) (by omega) (And.intro rfl rfl)) rfl ?_
    repeat refine SOp.mk _ _ (And.intro rfl rfl) rfl ?_
    refine SOp.mk _ _ (SWrap.i64z ((cntA k N + cntB k N + cntH k N 0 : Nat) : Int) (by omega) (by omega) (And.intro rfl rfl)) rfl ?_
    repeat refine SOp.mk _ _ (And.intro rfl rfl) rfl ?_
    refine SOp.mk _ _ (SWrap.i64z ((cntA k N + cntB k N : Nat) : Int) (by omega) (by omega) (And.intro rfl rfl)) rfl ?_
    repeat refine SOp.mk _ _ (And.intro rfl rfl) rfl ?_
    refine SOp.mk _ _ (SWrap.i64z ((cntA k N + cntB k N + cntH k N 0 : Nat) : Int) (by omega) (by omega) (And.intro rfl rfl)) rfl ?_
    refine SOp.mk _ _ (SZ.mk ((cntA k N + cntB k N + cntH k N 0 : Nat) : Int) rfl <| SLt.mk (by simp) <| SCut.mk (cntA k N + cntB k N) (cntA k N + cntB k N + cntH k N 0) rfl rfl (by omega) (by omega) (And.intro rfl rfl)) rfl ?_
    repeat refine SOp.mk _ _ (And.intro rfl rfl) rfl ?_
    refine SOp.mk _ _ (SWrap.i64z ((cntA k N + cntB k N : Nat) : Int) (by omega) (by omega) (And.intro rfl rfl)) rfl ?_
    repeat refine SOp.mk _ _ (And.intro rfl rfl) rfl ?_
    refine SOp.mk _ _ (SWrap.i64z ((cntA k N + cntB k N + cntH k N 0 : Nat) : Int) (by omega) (by omega) (And.intro rfl rfl)) rfl ?_
    refine SOp.mk _ _ (SCut.mk (cntA k N + cntB k N + cntH k N 0) (cntA k N + cntB k N + 2 * cntH k N 0) rfl rfl (by omega) (by omega) (And.intro rfl rfl)) rfl ?_
    repeat refine SOp.mk _ _ (And.intro rfl rfl) rfl ?_
    refine SFin.mk (by kernel_rfl) ?_
    refine SLoop.mk (Nat × (Nat → Rat)) (fun (j, F) => ([(8, .bptr 0 0), (9, .bptr 1 0), (10, .p (.int .i64 (cntA k N))), (11, .p (.int .i64 (cntB k N))), (14, .p (.int .i64 j))],
        [.box 59 zgen, .box 59 (gcells k N 0), .vec 37 3 (rats (lst (cntA k N + cntB k N + 2 * cntH k N 0) F))]))
      (fun (j, F) => j ≤ cntB k N ∧ ∀ t, t < cntA k N + cntB k N + 2 * cntH k N 0 → F t = if cntA k N ≤ t ∧ t < cntA k N + j then bfix (rowG ns) (t - cntA k N) (rowG ns t) (cntA k N) else rowG ns t) (fun x => cntB k N - x.1) (0, rowG ns) [0, 1, 2]
      ⟨Nat.zero_le _, fun t _ => by rw [if_neg (by omega)]⟩ ⟨rfl, by simp, rfl, rfl, rfl, ⟨rfl, rfl, rfl, rfl, rfl, trivial⟩, ⟨rfl, rfl, rfl, trivial⟩⟩ ?_
    intro ⟨j, F⟩ ⟨j1, j2⟩
    by_cases hj : j < cntB k N
    · refine SCmp.yes (decide_eq_true (by omega)) ?_
      refine SLoop.mk (Nat × (Nat → Rat)) (fun (i, F) => ([(8, .bptr 0 0), (9, .bptr 1 0), (10, .p (.int .i64 (cntA k N))), (11, .p (.int .i64 (cntB k N))), (14, .p (.int .i64 j)), (15, .p (.int .i64 i))],
          [.box 59 zgen, .box 59 (gcells k N 0), .vec 37 3 (rats (lst (cntA k N + cntB k N + 2 * cntH k N 0) F))]))
        (fun (i, F') => i ≤ cntA k N ∧ ∀ t, t < cntA k N + cntB k N + 2 * cntH k N 0 → F' t = if t = cntA k N + j then bfix (rowG ns) j (rowG ns (cntA k N + j)) i else F t) (fun x => cntA k N - x.1) (0, F) [0, 1, 2]
        ⟨Nat.zero_le _, fun t ht => by
          split
          · rename_i e; rw [j2 t ht, if_neg (by omega), e]; rfl
          · rfl⟩ ⟨rfl, by simp, rfl, rfl, rfl, ⟨rfl, rfl, rfl, rfl, rfl, rfl, trivial⟩, ⟨rfl, rfl, rfl, trivial⟩⟩ ?_
      intro ⟨i, F'⟩ ⟨i1, i2⟩
      by_cases hi : i < cntA k N
      · refine SCmp.yes (decide_eq_true (by omega)) ?_
        have eA : F' i = rowG ns i := by rw [i2 i (by omega), if_neg (by omega), j2 i (by omega), if_neg (by omega)]
        have eB : F' (cntA k N + j) = bfix (rowG ns) j (rowG ns (cntA k N + j)) i := by rw [i2 _ (by omega), if_pos rfl]
        have zA : Bz (rowG ns i) 13 := (hfb i).mono (by omega)
        have zB := bfix_bz hf (j := j) (by omega) (hf (cntA k N + j)) (hfb _) i
        refine SDraw.mk (by kernel_rfl) ?_
        repeat refine SOp.mk _ _ (And.intro rfl rfl) rfl ?_
        refine SOp.mk _ _ (SPos.mk i rfl (by omega) (And.intro rfl rfl)) rfl ?_
        refine SOp.mk _ _ (SIdx.rv (i + (0 + 0)) (rowG ns i) rfl (by omega) eA (And.intro rfl rfl)) rfl ?_
        repeat refine SOp.mk _ _ (And.intro rfl rfl) rfl ?_
        refine SOp.mk _ _ (SPos.mk j rfl (by omega) (And.intro rfl rfl)) rfl ?_
        refine SOp.mk _ _ (SIdx.rv (j + (0 + cntA k N)) (bfix (rowG ns) j (rowG ns (cntA k N + j)) i) rfl (by omega) (by rw [← eB]; congr 1; omega) (And.intro rfl rfl)) rfl ?_
        repeat refine SOp.mk _ _ (And.intro rfl rfl) rfl ?_
        refine SOp.mk _ _ (SCall.pure (rsame_ok _ _ zA zB (by omega)) (And.intro rfl rfl)) rfl ?_
        repeat refine SOp.mk _ _ (And.intro rfl rfl) rfl ?_
        by_cases heq : rowG ns i = bfix (rowG ns) j (rowG ns (cntA k N + j)) i
        · refine SCond.mk (fun _ => ?_) (fun hb => absurd heq (of_decide_eq_false hb))
          have zO : Bz (((100 + j : Nat) : Int) : Rat) 7 := int_bz (k := 7) (bitLen_le (by rw [Int.natAbs_natCast]; omega)) (by omega)
          refine SDraw.mkX (by kernel_rfl) ?_
          repeat refine SOp.mk _ _ (And.intro rfl rfl) rfl ?_
          refine SOp.mk _ _ (SPos.mk j rfl (by omega) (And.intro rfl rfl)) rfl ?_
          refine SOp.mk _ _ (SIdx.rv (j + (0 + cntA k N)) (bfix (rowG ns) j (rowG ns (cntA k N + j)) i) rfl (by omega) (by rw [← eB]; congr 1; omega) (And.intro rfl rfl)) rfl ?_
          repeat refine SOp.mk _ _ (And.intro rfl rfl) rfl ?_
          refine SOp.mk _ _ (SWrap.i64z ((100 + j : Nat) : Int) (by omega) (by omega) (And.intro rfl rfl)) rfl ?_
          refine SOp.mk _ _ (SCall.pure (rint_ok ((100 + j : Nat) : Int) (by omega)) (And.intro rfl rfl)) rfl ?_
          refine SOp.mk _ _ (SCall.pure (raddq_ok _ _ zB zO (by omega)) (And.intro rfl rfl)) rfl ?_
          refine SOp.mk _ _ (SPos.mk j rfl (by omega) (And.intro rfl rfl)) rfl ?_
          refine SOp.mk _ _ (SLt.rf (by omega) <| SEs.rf (And.intro rfl rfl)) rfl ?_
          refine SFin.mk (by kernel_rfl) ?_
          refine SWrap.i64z ((i + 1 : Nat) : Int) (by omega) (by omega) ?_
          refine ⟨(i + 1, _), [0, 1, 2], ⟨hi, fun t ht => ?_⟩, by show cntA k N - (i + 1) < cntA k N - i; omega, ⟨rfl, by simp, rfl, rfl, rfl, ⟨rfl, rfl, rfl, rfl, rfl, rfl, trivial⟩, ⟨rfl, rfl, rfl, trivial⟩⟩⟩
          by_cases e : t = cntA k N + j
          · have e' : t = j + (0 + cntA k N) := by omega
            rw [if_pos e, e', upd_same]; simp only [bfix]; rw [if_pos heq]
          · rw [if_neg e, upd_other _ _ (by omega), i2 t ht, if_neg e]
        · refine SCond.mk (fun hb => absurd (of_decide_eq_true hb) heq) (fun _ => ?_)
          refine SWrap.i64z ((i + 1 : Nat) : Int) (by omega) (by omega) ?_
          refine ⟨(i + 1, F'), [0, 1, 2], ⟨hi, fun t ht => ?_⟩, by show cntA k N - (i + 1) < cntA k N - i; omega, ⟨rfl, by simp, rfl, rfl, rfl, ⟨rfl, rfl, rfl, rfl, rfl, rfl, trivial⟩, ⟨rfl, rfl, rfl, trivial⟩⟩⟩
          rw [i2 t ht]
          by_cases e : t = cntA k N + j
          · rw [if_pos e, if_pos e]; simp only [bfix]; rw [if_neg heq]
          · rw [if_neg e, if_neg e]
      · refine SCmp.no (decide_eq_false (by omega)) ?_
        obtain rfl : i = cntA k N := by omega
        refine SWrap.i64z ((j + 1 : Nat) : Int) (by omega) (by omega) ?_
        refine ⟨(j + 1, F'), [0, 1, 2], ⟨hj, fun t ht => ?_⟩, by show cntB k N - (j + 1) < cntB k N - j; omega, ⟨rfl, by simp, rfl, rfl, rfl, ⟨rfl, rfl, rfl, rfl, rfl, trivial⟩, ⟨rfl, rfl, rfl, trivial⟩⟩⟩
        rw [i2 t ht]
        by_cases e : t = cntA k N + j
        · rw [if_pos e, if_pos (by omega), e, show cntA k N + j - cntA k N = j by omega]
        · rw [if_neg e, j2 t ht]
          by_cases e2 : cntA k N ≤ t ∧ t < cntA k N + j
          · rw [if_pos e2, if_pos (by omega)]
          · rw [if_neg e2, if_neg (by omega)]
    · refine SCmp.no (decide_eq_false (by omega)) ?_
      obtain rfl : j = cntB k N := by omega
      have hL : look [.box 59 zgen, .box 59 (gcells k N 0), .vec 37 3 (rats (lst (cntA k N + cntB k N + 2 * cntH k N 0) F))] (2 : Nat) = .vec 37 3 (rats (lst (cntA k N + cntB k N + 2 * cntH k N 0) F)) := rfl
      refine SRet.pure (.aggp (ps := genC noF (mkG k N 0 (rowG ns))) (fun d hd => by simp at hd; rcases hd with rfl | rfl | rfl | rfl | rfl | rfl | rfl <;> rfl) rfl fun i c d e1 e2 => ?_)
      match i, e1, e2 with
      | 0, e1, e2 => cases e1; cases e2; exact .p _ (.int _ _)
      | 1, e1, e2 => cases e1; cases e2; exact .p _ (.int _ _)
      | 2, e1, e2 => cases e1; cases e2; exact .p _ (.int _ _)
      | 3, e1, e2 =>
        cases e1; cases e2
        exact frzS (N := cntA k N + cntB k N + 2 * cntH k N 0) (F := F) rfl (by omega) (Nat.sub_zero _) fun t ht => by
          have ht : t < cntA k N := ht
          rw [j2 _ (by omega), if_neg (by omega)]; show rowG ns (0 + 0 + t) = rowG ns t; congr 1; omega
      | 4, e1, e2 =>
        cases e1; cases e2
        exact frzS (N := cntA k N + cntB k N + 2 * cntH k N 0) (F := F) rfl (by omega) (by show _ = cntB k N; omega) fun t ht => by
          have ht : t < cntB k N := ht
          rw [j2 _ (by omega), if_pos (by omega)]
          show bfix _ (0 + cntA k N + t - cntA k N) _ _ = bfix _ t (rowG ns (cntA k N + t)) _
          rw [show 0 + cntA k N + t = cntA k N + t by omega, show cntA k N + t - cntA k N = t by omega]
      | 5, e1, e2 =>
        cases e1; cases e2
        exact frzS (N := cntA k N + cntB k N + 2 * cntH k N 0) (F := F) rfl (by omega) (by show _ = cntH k N 0; omega) fun t ht => by
          have ht : t < cntH k N 0 := ht
          rw [j2 _ (by omega), if_neg (by omega)]; show rowG ns _ = rowG ns (cntA k N + cntB k N + t); congr 1; omega
      | 6, e1, e2 =>
        cases e1; cases e2
        exact frzS (N := cntA k N + cntB k N + 2 * cntH k N 0) (F := F) rfl (by omega) (by show _ = cntH k N 0; omega) fun t ht => by
          have ht : t < cntH k N 0 := ht
          rw [j2 _ (by omega), if_neg (by omega)]; show rowG ns _ = rowG ns (cntA k N + cntB k N + cntH k N 0 + t); congr 1; omega
end Go.Proofs.Ytkaooejeljdbnaa

namespace Go.Proofs.Ytkaooejeljdbnaa
open Go
set_option linter.unusedVariables false
set_option linter.unusedSimpArgs false
set_option maxRecDepth 10000
/-- Are two nodes made the same? -/
def twin13 (N : Nat) (ns : List Int) : Prop := 1 < ns.length ∧ ns.getD 1 0 % 4 = 0 ∧ 1 < N
instance (N : Nat) (ns : List Int) : Decidable (twin13 N ns) := inferInstanceAs (Decidable (_ ∧ _ ∧ _))
def g13 (g : GV) (ns : List Int) : GV := if twin13 g.n ns then { g with A := upd g.A (g.n - 1) (g.A 0) } else g
theorem rcopyq_ok {q : Rat} {k : Nat} (h : Bz q k) (hk : k ≤ 1099511627776) : CallP Try.prog 52 [ratP q] (.p (ratP q)) [] := rcopy_ok q h hk
theorem lmake13_ok (m : Bool) (n most : Int) (ns : List Int) (like : Bool) (hn : I64 n) (hns : I64s ns) (hm1 : 1 ≤ most) (hm8 : most ≤ 8) :
    CallP Try.prog 43 [.int .i64 n, .sl m 1 (intsP ns), .bool like, .int .i64 most] (.p (genP noF (g13 (mkG (if like then 7 else 5) (gmN n most) (gmR (if like then 7 else 5) n) (rowG ns)) ns))) [] := by
  cases like with
  | true =>
    obtain ⟨g, hg⟩ : ∃ g, g = mkG 7 (gmN n most) (gmR 7 n) (rowG ns) := ⟨_, rfl⟩
    have hm := lmake5_ok m 6 n most ns (by unfold I64; omega) hn hns hm1 hm8
    have e13 : gmK 6 = 7 := by decide
    rw [e13, ← hg] at hm
    have gn : g.n = gmN n most := by rw [hg]; rfl
    have gk : g.k = 7 := by rw [hg]; rfl
    have gA : g.A = rowG ns := by rw [hg]; rfl
    have hmz := Int.emod_nonneg n (show most ≠ 0 by omega)
    have hmz2 := Int.emod_lt_of_pos n (show (0 : Int) < most by omega)
    have hnz : ((gmN n most : Nat) : Int) = 1 + n % most := by unfold gmN; omega
    rw [← gn] at hnz
    have n1 : 1 ≤ g.n := by omega
    have n8 : g.n ≤ 8 := by omega
    have hla : g.la = g.n := by unfold GV.la cntA; rw [gk]; rfl
    have bA : ∀ i, Bz (g.A i) 5 := by rw [gA]; exact rowG_bz ns
    show CallP _ _ _ (.p (genP noF (g13 (mkG 7 (gmN n most) (gmR 7 n) (rowG ns)) ns))) []
    rw [← hg]
    have conv : CallP Try.prog 43 [.int .i64 n, .sl m 1 (intsP ns), .bool true, .int .i64 most] (.p (genP noF (g13 g ns))) [] := by
      refine callG_of_vc (wr := wr0) Γok mixed Try.func43 (by kernel_rfl) rfl (by kernel_rfl) (le_of_ble rfl) (by simp) ?_
      refine SCond.mk (fun _ => ?_) (fun h => by cases h)
      refine SCall.pure (hm) ?_
      refine SZ.mk (ns.length : Int) (by simp) ?_
      have fin0 : ¬ twin13 g.n ns → g13 g ns = g := fun h => if_neg h
      by_cases c1 : 1 < ns.length
      · refine SCmp.yes (decide_eq_true (by omega)) ?_
        refine SIdx.ib 1 rfl c1 ?_
        refine SCall.pure (within13_ok (ns.getD 1 0) 4 (by omega) (by omega)) ?_
        by_cases c2 : ns.getD 1 0 % 4 = 0
        · refine SCmp.yes (decide_eq_true c2) ?_
          by_cases c3 : 1 < g.n
          · refine SCmp.yes (decide_eq_true (by omega)) ?_
            have ht : g13 g ns = { g with A := upd g.A (g.n - 1) (g.A 0) } := if_pos ⟨c1, c2, c3⟩
            rw [ht]
            have hlen : (rats (lst g.la g.A)).length = g.la := by simp [lst]
            refine SRoom.mk (by simp [lst]; omega) (by simp [lst]; omega) ?_
            refine SDraw.mkX (by kernel_rfl) ?_
            repeat refine SOp.mk _ _ (And.intro rfl rfl) rfl ?_
            refine SOp.mk _ _ (SWrap.i64z ((g.n - 1 : Nat) : Int) (by omega) (by omega) (And.intro rfl rfl)) rfl ?_
            repeat refine SOp.mk _ _ (And.intro rfl rfl) rfl ?_
            refine SOp.mk _ _ (SPos.mk 0 rfl (by omega) (And.intro rfl rfl)) rfl ?_
            refine SOp.mk _ _ (SIdx.rv (0 + 0) (g.A 0) rfl (by omega) rfl (And.intro rfl rfl)) rfl ?_
            refine SOp.mk _ _ (SCall.pure (rcopyq_ok (bA 0) (by omega)) (And.intro rfl rfl)) rfl ?_
            refine SOp.mk _ _ (SPos.mk (g.n - 1) rfl (by omega) (And.intro rfl rfl)) rfl ?_
            refine SOp.mk _ _ (SLt.rf (by omega) <| SEs.rf (And.intro rfl rfl)) rfl ?_
            repeat refine SOp.mk _ _ (And.intro rfl rfl) rfl ?_
            refine SFin.mk (by kernel_rfl) ?_
            refine SRet.pure (.aggp (ps := genC noF { g with A := upd g.A (g.n - 1) (g.A 0) }) (fun d hd => by simp at hd; rcases hd with rfl | rfl | rfl | rfl | rfl | rfl | rfl <;> rfl) rfl fun i c d e1 e2 => ?_)
            match i, e1, e2 with
            | 0, e1, e2 => cases e1; cases e2; exact .p _ (.int _ _)
            | 1, e1, e2 => cases e1; cases e2; exact .p _ (.int _ _)
            | 2, e1, e2 => cases e1; cases e2; exact .p _ (.int _ _)
            | 3, e1, e2 => cases e1; cases e2; exact frzS (N := g.la) (F := upd g.A (g.n - 1 + 0) (g.A 0)) rfl (by omega) hlen fun t _ => by rw [Nat.zero_add]; rfl
            | 4, e1, e2 => cases e1; cases e2; exact .p _ (.sl _ _ (pers_rats _))
            | 5, e1, e2 => cases e1; cases e2; exact .p _ (.sl _ _ (pers_rats _))
            | 6, e1, e2 => cases e1; cases e2; exact .p _ (.sl _ _ (pers_rats _))
          · refine SCmp.no (decide_eq_false (by omega)) ?_
            rw [fin0 fun h => c3 h.2.2]
            exact SRet.pure (.p _ (pers_gen g))
        · refine SCmp.no (decide_eq_false c2) ?_
          rw [fin0 fun h => c2 h.2.1]
          exact SRet.pure (.p _ (pers_gen g))
      · refine SCmp.no (decide_eq_false (by omega)) ?_
        rw [fin0 fun h => c1 h.1]
        exact SRet.pure (.p _ (pers_gen g))
    exact conv
  | false =>
    obtain ⟨g, hg⟩ : ∃ g, g = mkG 5 (gmN n most) (gmR 5 n) (rowG ns) := ⟨_, rfl⟩
    have hm := lmake5_ok m 4 n most ns (by unfold I64; omega) hn hns hm1 hm8
    have e13 : gmK 4 = 5 := by decide
    rw [e13, ← hg] at hm
    have gn : g.n = gmN n most := by rw [hg]; rfl
    have gk : g.k = 5 := by rw [hg]; rfl
    have gA : g.A = rowG ns := by rw [hg]; rfl
    have hmz := Int.emod_nonneg n (show most ≠ 0 by omega)
    have hmz2 := Int.emod_lt_of_pos n (show (0 : Int) < most by omega)
    have hnz : ((gmN n most : Nat) : Int) = 1 + n % most := by unfold gmN; omega
    rw [← gn] at hnz
    have n1 : 1 ≤ g.n := by omega
    have n8 : g.n ≤ 8 := by omega
    have hla : g.la = g.n := by unfold GV.la cntA; rw [gk]; rfl
    have bA : ∀ i, Bz (g.A i) 5 := by rw [gA]; exact rowG_bz ns
    show CallP _ _ _ (.p (genP noF (g13 (mkG 5 (gmN n most) (gmR 5 n) (rowG ns)) ns))) []
    rw [← hg]
    have conv : CallP Try.prog 43 [.int .i64 n, .sl m 1 (intsP ns), .bool false, .int .i64 most] (.p (genP noF (g13 g ns))) [] := by
      refine callG_of_vc (wr := wr0) Γok mixed Try.func43 (by kernel_rfl) rfl (by kernel_rfl) (le_of_ble rfl) (by simp) ?_
      refine SCond.mk (fun h => by cases h) (fun _ => ?_)
      refine SCall.pure (hm) ?_
      refine SZ.mk (ns.length : Int) (by simp) ?_
      have fin0 : ¬ twin13 g.n ns → g13 g ns = g := fun h => if_neg h
      by_cases c1 : 1 < ns.length
      · refine SCmp.yes (decide_eq_true (by omega)) ?_
        refine SIdx.ib 1 rfl c1 ?_
        refine SCall.pure (within13_ok (ns.getD 1 0) 4 (by omega) (by omega)) ?_
        by_cases c2 : ns.getD 1 0 % 4 = 0
        · refine SCmp.yes (decide_eq_true c2) ?_
          by_cases c3 : 1 < g.n
          · refine SCmp.yes (decide_eq_true (by omega)) ?_
            have ht : g13 g ns = { g with A := upd g.A (g.n - 1) (g.A 0) } := if_pos ⟨c1, c2, c3⟩
            rw [ht]
            have hlen : (rats (lst g.la g.A)).length = g.la := by simp [lst]
            refine SRoom.mk (by simp [lst]; omega) (by simp [lst]; omega) ?_
            refine SDraw.mkX (by kernel_rfl) ?_
            repeat refine SOp.mk _ _ (And.intro rfl rfl) rfl ?_
            refine SOp.mk _ _ (SWrap.i64z ((g.n - 1 : Nat) : Int) (by omega) (by omega) (And.intro rfl rfl)) rfl ?_
            repeat refine SOp.mk _ _ (And.intro rfl rfl) rfl ?_
            refine SOp.mk _ _ (SPos.mk 0 rfl (by omega) (And.intro rfl rfl)) rfl ?_
            refine SOp.mk _ _ (SIdx.rv (0 + 0) (g.A 0) rfl (by omega) rfl (And.intro rfl rfl)) rfl ?_
            refine SOp.mk _ _ (SCall.pure (rcopyq_ok (bA 0) (by omega)) (And.intro rfl rfl)) rfl ?_
            refine SOp.mk _ _ (SPos.mk (g.n - 1) rfl (by omega) (And.intro rfl rfl)) rfl ?_
            refine SOp.mk _ _ (SLt.rf (by omega) <| SEs.rf (And.intro rfl rfl)) rfl ?_
            repeat refine SOp.mk _ _ (And.intro rfl rfl) rfl ?_
            refine SFin.mk (by kernel_rfl) ?_
            refine SRet.pure (.aggp (ps := genC noF { g with A := upd g.A (g.n - 1) (g.A 0) }) (fun d hd => by simp at hd; rcases hd with rfl | rfl | rfl | rfl | rfl | rfl | rfl <;> rfl) rfl fun i c d e1 e2 => ?_)
            match i, e1, e2 with
            | 0, e1, e2 => cases e1; cases e2; exact .p _ (.int _ _)
            | 1, e1, e2 => cases e1; cases e2; exact .p _ (.int _ _)
            | 2, e1, e2 => cases e1; cases e2; exact .p _ (.int _ _)
            | 3, e1, e2 => cases e1; cases e2; exact frzS (N := g.la) (F := upd g.A (g.n - 1 + 0) (g.A 0)) rfl (by omega) hlen fun t _ => by rw [Nat.zero_add]; rfl
            | 4, e1, e2 => cases e1; cases e2; exact .p _ (.sl _ _ (pers_rats _))
            | 5, e1, e2 => cases e1; cases e2; exact .p _ (.sl _ _ (pers_rats _))
            | 6, e1, e2 => cases e1; cases e2; exact .p _ (.sl _ _ (pers_rats _))
          · refine SCmp.no (decide_eq_false (by omega)) ?_
            rw [fin0 fun h => c3 h.2.2]
            exact SRet.pure (.p _ (pers_gen g))
        · refine SCmp.no (decide_eq_false c2) ?_
          rw [fin0 fun h => c2 h.2.1]
          exact SRet.pure (.p _ (pers_gen g))
      · refine SCmp.no (decide_eq_false (by omega)) ?_
        rw [fin0 fun h => c1 h.1]
        exact SRet.pure (.p _ (pers_gen g))
    exact conv
end Go.Proofs.Ytkaooejeljdbnaa

namespace Go.Proofs.Ytkaooejeljdbnaa
open Go
set_option linter.unusedVariables false
set_option linter.unusedSimpArgs false
set_option maxRecDepth 10000
/-- A Gen that may be, of numbers of so many digits. -/
structure Wf (g : GV) (b c : Nat) : Prop where
  k1 : 1 ≤ g.k
  k7 : g.k ≤ 7
  n1 : 1 ≤ g.n
  n6 : g.n ≤ 6
  r2 : g.r ≤ 2
  r1 : g.k = 6 ∨ g.k = 7 → 1 ≤ g.r
  r0 : g.k ≤ 5 → g.r = 0
  bA : ∀ i, i < g.la → Bz (g.A i) b
  bB : ∀ i, i < g.lb → Bz (g.B i) c
  bG : ∀ i, i < g.lh → Bz (g.G i) b
  bH : ∀ i, i < g.lh → Bz (g.H i) b
  ne : ∀ i j, i < g.la → j < g.lb → g.A i ≠ g.B j
  bc : b ≤ c
  c4 : c ≤ 100
theorem Wf.lh {g : GV} {b c : Nat} (h : Wf g b c) (hk : g.k = 6 ∨ g.k = 7) : g.lh = g.n * g.r := if_pos hk
abbrev zratA : List AV := [.p (.bool false), .p (.sl false 1 []), .p (.sl false 1 [])]
end Go.Proofs.Ytkaooejeljdbnaa

namespace Go.Proofs.Ytkaooejeljdbnaa
open Go
set_option linter.unusedVariables false
set_option linter.unusedSimpArgs false
set_option maxRecDepth 10000
theorem ranked_ok (k : Nat) (h1 : 1 ≤ k) (h7 : k ≤ 7) : CallP Try.prog 208 [.int .i64 k] (.p (.bool (decide (k = 6 ∨ k = 7)))) [] := by
  refine callG_of_vc (wr := wr0) Γok mixed Try.func208 (by kernel_rfl) rfl (by kernel_rfl) (le_of_ble rfl) (by simp) ?_
  by_cases e6 : k = 6
  · refine SCmp.yes (decide_eq_true (by omega)) ?_
    rw [decide_eq_true (.inl e6)]
    exact SRet.pure (.tf _)
  · refine SCmp.no (decide_eq_false (by omega)) ?_
    by_cases e7 : k = 7
    · refine SCmp.yes (decide_eq_true (by omega)) ?_
      rw [decide_eq_true (.inr e7)]
      exact SRet.pure (.tf _)
    · refine SCmp.no (decide_eq_false (by omega)) ?_
      rw [decide_eq_false (by omega)]
      exact SRet.pure (.tf _)
theorem sized_ok (m : Nat → Bool) (g : GV) {b c : Nat} (h : Wf g b c) : CallP Try.prog 183 [genP m g] (.p (.bool true)) [] := by
  have h1 := h.k1
  have h7 := h.k7
  have n1 := h.n1
  have n6 := h.n6
  have r2 := h.r2
  refine callG_of_vc (wr := wr0) Γok mixed Try.func183 (by kernel_rfl) rfl (by kernel_rfl) (le_of_ble rfl) (by simp) ?_
  refine SCmp.no (decide_eq_false (by omega)) ?_
  refine SCmp.no (decide_eq_false (by omega)) ?_
  refine SCall.pure (ranked_ok g.k h1 h7) ?_
  by_cases hl : g.k = 6 ∨ g.k = 7
  · have r1 := h.r1 hl
    rw [decide_eq_true hl]
    refine SCond.mk (fun _ => ?_) (fun h => by cases h)
    refine SCmp.yes (decide_eq_true (by omega)) ?_
    refine SCmp.yes (decide_eq_true (by omega)) ?_
    exact SRet.pure (.tf _)
  · have r0 := h.r0 (by omega)
    rw [decide_eq_false hl]
    refine SCond.mk (fun h => by cases h) (fun _ => ?_)
    refine SCmp.yes (decide_eq_true (by omega)) ?_
    exact SRet.pure (.tf _)
theorem genrows_ok (m : Nat → Bool) (g : GV) : CallL Try.prog 184 [genP m g] (.agg [ratsM (m 0) (lst g.la g.A), ratsM (m 1) (lst g.lb g.B), ratsM (m 2) (lst g.lh g.G), ratsM (m 3) (lst g.lh g.H)]) := by
  refine callL_of_vc (wr := wr0) Γok mixed Try.func184 (by kernel_rfl) rfl (by kernel_rfl) (le_of_ble rfl) ?_
  exact rfl
abbrev cntK (k i : Int) : PV := .agg [.int .i64 k, .int .i64 i]
abbrev cntV (a b c : Int) : PV := .agg [.int .i64 a, .int .i64 b, .int .i64 c]
abbrev cntM : List (PV × PV) := [(cntK 1 0, cntV 2 0 (-1)), (cntK 2 0, cntV 2 0 (-1)), (cntK 3 0, cntV 1 0 0), (cntK 4 0, cntV 1 0 0), (cntK 5 0, cntV 1 0 0), (cntK 5 1, cntV 1 0 0), (cntK 6 2, cntV 0 1 0), (cntK 6 3, cntV 0 1 0), (cntK 7 0, cntV 1 0 0), (cntK 7 1, cntV 1 0 0), (cntK 7 2, cntV 0 1 0), (cntK 7 3, cntV 0 1 0)]
theorem counts_ok : CallP Try.prog 185 [] (.p (.mp false cntM)) [] := by
  refine callG_of_vc (wr := wr0) Γok mixed Try.func185 (by kernel_rfl) rfl (by kernel_rfl) (le_of_ble rfl) (by simp) ?_
  refine SDraw.mkX (by kernel_rfl) ?_
  repeat refine SOp.mk _ _ (And.intro rfl rfl) rfl ?_
  refine SOp.mk _ _ (SKeys.all rfl <| SPut.add rfl (And.intro rfl rfl)) rfl ?_
  repeat refine SOp.mk _ _ (And.intro rfl rfl) rfl ?_
  refine SOp.mk _ _ (SKeys.all rfl <| SPut.add rfl (And.intro rfl rfl)) rfl ?_
  repeat refine SOp.mk _ _ (And.intro rfl rfl) rfl ?_
  refine SOp.mk _ _ (SKeys.all rfl <| SPut.add rfl (And.intro rfl rfl)) rfl ?_
  repeat refine SOp.mk _ _ (And.intro rfl rfl) rfl ?_
  refine SOp.mk _ _ (SKeys.all rfl <| SPut.add rfl (And.intro rfl rfl)) rfl ?_
  repeat refine SOp.mk _ _ (And.intro rfl rfl) rfl ?_
  refine SOp.mk _ _ (SKeys.all rfl <| SPut.add rfl (And.intro rfl rfl)) rfl ?_
  repeat refine SOp.mk _ _ (And.intro rfl rfl) rfl ?_
  refine SOp.mk _ _ (SKeys.all rfl <| SPut.add rfl (And.intro rfl rfl)) rfl ?_
  repeat refine SOp.mk _ _ (And.intro rfl rfl) rfl ?_
  refine SOp.mk _ _ (SKeys.all rfl <| SPut.add rfl (And.intro rfl rfl)) rfl ?_
  repeat refine SOp.mk _ _ (And.intro rfl rfl) rfl ?_
  refine SOp.mk _ _ (SKeys.all rfl <| SPut.add rfl (And.intro rfl rfl)) rfl ?_
  repeat refine SOp.mk _ _ (And.intro rfl rfl) rfl ?_
  refine SOp.mk _ _ (SKeys.all rfl <| SPut.add rfl (And.intro rfl rfl)) rfl ?_
  repeat refine SOp.mk _ _ (And.intro rfl rfl) rfl ?_
  refine SOp.mk _ _ (SKeys.all rfl <| SPut.add rfl (And.intro rfl rfl)) rfl ?_
  repeat refine SOp.mk _ _ (And.intro rfl rfl) rfl ?_
  refine SOp.mk _ _ (SKeys.all rfl <| SPut.add rfl (And.intro rfl rfl)) rfl ?_
  repeat refine SOp.mk _ _ (And.intro rfl rfl) rfl ?_
  refine SOp.mk _ _ (SKeys.all rfl <| SPut.add rfl (And.intro rfl rfl)) rfl ?_
  repeat refine SOp.mk _ _ (And.intro rfl rfl) rfl ?_
  refine SFin.mkL (by kernel_rfl) ?_
  refine SLit.mk cntM rfl rfl fun es hp => ?_
  refine SRet.pure (.frzmap (es := es) rfl (by simp) hp fun e he => ?_)
  have : ∀ a b c d f : Int, Pers (cntK a b) ∧ Pers (cntV c d f) := fun a b c d f => ⟨.agg _ fun x hx => by
    simp only [List.mem_cons, List.not_mem_nil, or_false] at hx; rcases hx with rfl | rfl <;> exact .int _ _, .agg _ fun x hx => by
    simp only [List.mem_cons, List.not_mem_nil, or_false] at hx; rcases hx with rfl | rfl | rfl <;> exact .int _ _⟩
  have he := hp.mem_iff.1 he
  simp only [cntM, List.mem_cons, List.not_mem_nil, or_false] at he
  rcases he with rfl | rfl | rfl | rfl | rfl | rfl | rfl | rfl | rfl | rfl | rfl | rfl <;> exact this _ _ _ _ _
theorem bz_nlen {q : Rat} (h : Bz q 100) : nlen q.num.natAbs ≤ 4 ∧ nlen q.den ≤ 4 := by
  have : ∀ {a : Nat}, bitLen a ≤ 100 → nlen a ≤ 4 := fun {a} ha => nlen_le (Nat.lt_of_lt_of_le (bitLen_lt a) (Nat.le_trans (Nat.pow_le_pow_right (by decide) ha) (by decide)))
  exact ⟨this h.1, this h.2⟩
theorem gsmall_ok (q : Rat) (h : Bz q 100) : CallP Try.prog 188 [ratP q] (.p (.bool true)) [] := by
  obtain ⟨h1, h2⟩ := bz_nlen h
  refine callG_of_vc (wr := wr0) Γok mixed Try.func188 (by kernel_rfl) rfl (by kernel_rfl) (le_of_ble rfl) (by simp) ?_
  refine SZ.mk (nlen q.num.natAbs : Int) (by simp) ?_
  refine SCmp.yes (decide_eq_true (by omega)) ?_
  refine SZ.mk (nlen q.den : Int) (by simp) ?_
  refine SCmp.yes (decide_eq_true (by omega)) ?_
  refine SCall.pure (ratright_ok q h.sz (by omega)) ?_
  exact SRet.pure (.p _ (.bool _))
theorem check1_ok (q : Rat) (h : Bz q 100) : CallP Try.prog 187 [ratP q] (.p (.bool false)) [] := by
  refine callG_of_vc (wr := wr0) Γok mixed Try.func187 (by kernel_rfl) rfl (by kernel_rfl) (le_of_ble rfl) (by simp) ?_
  refine SCall.pure (gsmall_ok q h) ?_
  refine SCmp.no (rfl) ?_
  exact SRet.pure (.tf _)
theorem check2_ok (m : Bool) (a b : Rat) {k : Nat} (ha : Bz a k) (hb : Bz b k) (hk : k + k ≤ 1048576) : CallP Try.prog 189 [ratP b, .pel m (ratP a)] (.p (.bool (decide (a = b)))) [] := by
  refine callG_of_vc (wr := wr0) Γok mixed Try.func189 (by kernel_rfl) rfl (by kernel_rfl) (le_of_ble rfl) (by simp) ?_
  refine SCall.pure (ratsame_ok a b ha.sz hb.sz (by omega)) ?_
  exact SRet.pure (.p _ (.bool _))
theorem none1I_ok (m : Bool) (l : List Rat) (hF : ∀ i, i < l.length → CallP Try.prog 187 [ratP (l.getD i 0)] (.p (.bool false)) []) (hn : l.length ≤ 1099511627776) :
    CallP Try.prog 209 [ratsM m l, .fn 187 []] (.p (.int .i64 (-1))) [] := by
  refine callG_of_vc (wr := wr0) Γok mixed Try.func209 (by kernel_rfl) rfl (by kernel_rfl) (le_of_ble rfl) (by simp) ?_
  refine SZ.mk (l.length : Int) (by simp) ?_
  refine SLoop.mk Nat (fun i => ([(0, .p (ratsM m l)), (1, .p (.fn 187 [])), (7, .p (.int .i64 l.length)), (8, .p (.int .i64 i))], []))
    (fun i => i ≤ l.length) (fun i => l.length - i) 0 [] (Nat.zero_le _) ⟨rfl, .nil, rfl, rfl, rfl, ⟨rfl, rfl, rfl, rfl, trivial⟩, trivial⟩ ?_
  intro i h1
  have h1 : i ≤ l.length := h1
  by_cases hi : i < l.length
  · refine SCmp.yes (decide_eq_true (by omega)) ?_
    refine SIdx.rb i rfl hi ?_
    refine SCall.pure (pvs := [ratP (l.getD i 0)]) (hF i hi) ?_
    refine SCond.mk (fun h => by cases h) (fun _ => ?_)
    refine SWrap.i64z ((i + 1 : Nat) : Int) (by omega) (by omega) ?_
    exact ⟨i + 1, [], hi, by show l.length - (i + 1) < l.length - i; omega, ⟨rfl, .nil, rfl, rfl, rfl, ⟨rfl, rfl, rfl, rfl, trivial⟩, trivial⟩⟩
  · refine SCmp.no (decide_eq_false (by omega)) ?_
    exact SRet.pure (.p _ (.int _ _))
theorem none1_ok (m : Bool) (l : List Rat) (hF : ∀ i, i < l.length → CallP Try.prog 187 [ratP (l.getD i 0)] (.p (.bool false)) []) (hn : l.length ≤ 1099511627776) :
    CallP Try.prog 186 [ratsM m l, .fn 187 []] (.p (.bool false)) [] := by
  refine callG_of_vc (wr := wr0) Γok mixed Try.func186 (by kernel_rfl) rfl (by kernel_rfl) (le_of_ble rfl) (by simp) ?_
  refine SCall.pure (pvs := [ratsM m l, .fn 187 []]) (none1I_ok m l hF hn) ?_
  refine SCmp.no (rfl) ?_
  exact SRet.pure (.tf _)
theorem none2I_ok (m : Bool) (m2 : Bool) (a : Rat) (l : List Rat) (hF : ∀ i, i < l.length → CallP Try.prog 189 [ratP (l.getD i 0), .pel m2 (ratP a)] (.p (.bool false)) []) (hn : l.length ≤ 1099511627776) :
    CallP Try.prog 209 [ratsM m l, .fn 189 [.pel m2 (ratP a)]] (.p (.int .i64 (-1))) [] := by
  refine callG_of_vc (wr := wr0) Γok mixed Try.func209 (by kernel_rfl) rfl (by kernel_rfl) (le_of_ble rfl) (by simp) ?_
  refine SZ.mk (l.length : Int) (by simp) ?_
  refine SLoop.mk Nat (fun i => ([(0, .p (ratsM m l)), (1, .p (.fn 189 [.pel m2 (ratP a)])), (7, .p (.int .i64 l.length)), (8, .p (.int .i64 i))], []))
    (fun i => i ≤ l.length) (fun i => l.length - i) 0 [] (Nat.zero_le _) ⟨rfl, .nil, rfl, rfl, rfl, ⟨rfl, rfl, rfl, rfl, trivial⟩, trivial⟩ ?_
  intro i h1
  have h1 : i ≤ l.length := h1
  by_cases hi : i < l.length
  · refine SCmp.yes (decide_eq_true (by omega)) ?_
    refine SIdx.rb i rfl hi ?_
    refine SCall.pure (pvs := [ratP (l.getD i 0), .pel m2 (ratP a)]) (hF i hi) ?_
    refine SCond.mk (fun h => by cases h) (fun _ => ?_)
    refine SWrap.i64z ((i + 1 : Nat) : Int) (by omega) (by omega) ?_
    exact ⟨i + 1, [], hi, by show l.length - (i + 1) < l.length - i; omega, ⟨rfl, .nil, rfl, rfl, rfl, ⟨rfl, rfl, rfl, rfl, trivial⟩, trivial⟩⟩
  · refine SCmp.no (decide_eq_false (by omega)) ?_
    exact SRet.pure (.p _ (.int _ _))
theorem none2_ok (m : Bool) (m2 : Bool) (a : Rat) (l : List Rat) (hF : ∀ i, i < l.length → CallP Try.prog 189 [ratP (l.getD i 0), .pel m2 (ratP a)] (.p (.bool false)) []) (hn : l.length ≤ 1099511627776) :
    CallP Try.prog 186 [ratsM m l, .fn 189 [.pel m2 (ratP a)]] (.p (.bool false)) [] := by
  refine callG_of_vc (wr := wr0) Γok mixed Try.func186 (by kernel_rfl) rfl (by kernel_rfl) (le_of_ble rfl) (by simp) ?_
  refine SCall.pure (pvs := [ratsM m l, .fn 189 [.pel m2 (ratP a)]]) (none2I_ok m m2 a l hF hn) ?_
  refine SCmp.no (rfl) ?_
  exact SRet.pure (.tf _)
end Go.Proofs.Ytkaooejeljdbnaa

namespace Go.Proofs.Ytkaooejeljdbnaa
open Go
set_option linter.unusedVariables false
set_option linter.unusedSimpArgs false
set_option maxRecDepth 10000
abbrev pairP (i k : Nat) : PV := .agg [.int .i64 (i : Int), .int .i64 (k : Int)]
abbrev tabF (n : Nat) (f : Nat → Nat → Rat) (c : Nat) : List (PV × PV) := fl c fun t => (pairP (t / n) (t % n), ratP (f (t / n) (t % n)))
theorem keq_pair (a b c d : Nat) : PV.keq (pairP a b) (pairP c d) = decide (a = c ∧ b = d) := by
  show (decide (IntKind.i64 = IntKind.i64) && (((a : Int) == (c : Int)) && (decide (IntKind.i64 = IntKind.i64) && (((b : Int) == (d : Int)) && true)))) = _
  have hd : decide (IntKind.i64 = IntKind.i64) = true := rfl
  rw [hd, Bool.true_and, Bool.true_and, Bool.and_true]
  by_cases e1 : a = c
  · by_cases e2 : b = d
    · rw [decide_eq_true (show a = c ∧ b = d from ⟨e1, e2⟩), e1, e2]; simp
    · rw [decide_eq_false (show ¬ (a = c ∧ b = d) from fun h => e2 h.2), beq_eq_false_iff_ne.2 (show (b : Int) ≠ d by omega), Bool.and_false]
  · rw [decide_eq_false (show ¬ (a = c ∧ b = d) from fun h => e1 h.1), beq_eq_false_iff_ne.2 (show (a : Int) ≠ c by omega), Bool.false_and]
theorem at_div {i k n : Nat} (hk : k < n) : (i * n + k) / n = i := by
  rw [Nat.add_comm, Nat.add_mul_div_right _ _ (by omega), Nat.div_eq_of_lt hk, Nat.zero_add]
theorem at_mod {i k n : Nat} (hk : k < n) : (i * n + k) % n = k := by
  rw [Nat.add_comm, Nat.add_mul_mod_self_right, Nat.mod_eq_of_lt hk]
theorem at_eq {t n i k : Nat} (hk : k < n) (h1 : t / n = i) (h2 : t % n = k) : t = i * n + k := by
  rw [← h1, ← h2]
  have := Nat.div_add_mod t n
  rw [Nat.mul_comm]; exact this.symm
theorem tabF_key {n : Nat} {f : Nat → Nat → Rat} {c : Nat} {e : PV × PV} (h : e ∈ tabF n f c) : ∃ t, t < c ∧ e = (pairP (t / n) (t % n), ratP (f (t / n) (t % n))) := by
  obtain ⟨t, ht, e⟩ := fl_mem h
  exact ⟨t, ht, e.symm⟩
theorem SKeys.tab {b : PV → Bool} {n : Nat} {f : Nat → Nat → Rat} {c : Nat} {K : Prop} (hb : ∀ i k : Nat, b (pairP i k) = true) (hk : K) : SKeys b (tabF n f c) K :=
  .mk (fun e he => by obtain ⟨t, _, rfl⟩ := tabF_key he; exact hb _ _) hk
theorem tabF_snoc {n i k : Nat} {f : Nat → Nat → Rat} (hk : k < n) : tabF n f (i * n + k + 1) = tabF n f (i * n + k) ++ [(pairP i k, ratP (f i k))] := by
  rw [tabF, fl_snoc, at_div hk, at_mod hk]
theorem SPut.tab {n i k : Nat} {f : Nat → Nat → Rat} {v : PV} {K : List (PV × PV) → Prop} (hk : k < n) (hv : v = ratP (f i k)) (hK : K (tabF n f (i * n + k + 1))) : SPut (tabF n f (i * n + k)) (pairP i k) v K := by
  subst hv
  refine .new _ (fun e he => ?_) (tabF_snoc hk).symm hK
  obtain ⟨t, ht, rfl⟩ := tabF_key he
  rw [keq_pair]
  exact decide_eq_false fun ⟨h1, h2⟩ => by have := at_eq hk h1.symm h2.symm; omega
theorem at_lt {i k m n : Nat} (hi : i < m) (hk : k < n) : i * n + k < m * n := by
  have : (i + 1) * n ≤ m * n := Nat.mul_le_mul_right _ hi
  rw [Nat.succ_mul] at this; omega
theorem SGet.tab {n m i k : Nat} {f : Nat → Nat → Rat} {K : Option PV → Prop} (hi : i < m) (hk : k < n) (hK : K (some (ratP (f i k)))) : SGet (tabF n f (m * n)) (pairP i k) K := by
  refine .yes (i * n + k) (pairP i k, ratP (f i k)) ?_ ?_ (fun j e' hj hj' => ?_) hK
  · rw [tabF, fl_get (at_lt hi hk), at_div hk, at_mod hk]
  · rw [keq_pair]; exact decide_eq_true ⟨rfl, rfl⟩
  · obtain ⟨hjc, rfl⟩ := fl_get_iff.1 hj'
    rw [keq_pair]
    exact decide_eq_false fun ⟨h1, h2⟩ => hj (at_eq hk h1.symm h2.symm)
theorem pers_pair (i k : Nat) : Pers (pairP i k) := .agg _ fun x hx => by
  simp only [List.mem_cons, List.not_mem_nil, or_false] at hx; rcases hx with rfl | rfl <;> exact .int _ _
theorem pers_tab {n : Nat} {f : Nat → Nat → Rat} {c : Nat} : ∀ e ∈ tabF n f c, Pers e.1 ∧ Pers e.2 := fun e he => by
  obtain ⟨t, _, rfl⟩ := tabF_key he
  exact ⟨pers_pair _ _, pers_rat _ _ _⟩
/-- How many places are not yet seen. -/
def unseen (s : List Nat) : Nat → Nat
  | 0 => 0
  | n + 1 => unseen s n + if n ∈ s then 0 else 1
theorem unseen_le {s : List Nat} {i : Nat} : ∀ n, unseen (s ++ [i]) n ≤ unseen s n := by
  intro n
  induction n with
  | zero => exact Nat.le_refl _
  | succ n ih =>
    simp only [unseen]
    by_cases e : n ∈ s
    · rw [if_pos e, if_pos (List.mem_append_left _ e)]; omega
    · rw [if_neg e]; split <;> omega
theorem unseen_lt {s : List Nat} {i : Nat} (hi : i ∉ s) : ∀ {n}, i < n → unseen (s ++ [i]) n < unseen s n := by
  intro n
  induction n with
  | zero => intro h; exact absurd h (Nat.not_lt_zero _)
  | succ n ih =>
    intro h
    simp only [unseen]
    by_cases e : i = n
    · subst e
      rw [if_neg hi, if_pos (List.mem_append_right _ (List.mem_singleton.2 rfl))]
      have := unseen_le (s := s) (i := i) i; omega
    · have := ih (by omega)
      by_cases e2 : n ∈ s
      · rw [if_pos e2, if_pos (List.mem_append_left _ e2)]; omega
      · rw [if_neg e2, if_neg (fun h => by rcases List.mem_append.1 h with h | h; exact e2 h; exact e (List.mem_singleton.1 h).symm)]; omega
end Go.Proofs.Ytkaooejeljdbnaa

namespace Go.Proofs.Ytkaooejeljdbnaa
open Go
set_option linter.unusedVariables false
set_option linter.unusedSimpArgs false
set_option maxRecDepth 10000
/-- How many digits an entry has. -/
def eb (b c : Nat) : Nat := 24 * b + c + 30
theorem Wf.la3 {g : GV} {b c : Nat} (h : Wf g b c) (hk : g.k = 3 ∨ g.k = 4 ∨ g.k = 5 ∨ g.k = 7) : g.la = g.n := by unfold GV.la cntA; rw [if_neg (by omega), if_neg (by omega)]
theorem Wf.lb5 {g : GV} {b c : Nat} (h : Wf g b c) (hk : g.k = 5 ∨ g.k = 7) : g.lb = g.n := by unfold GV.lb cntB; rw [if_pos hk]
end Go.Proofs.Ytkaooejeljdbnaa

namespace Go.Proofs.Ytkaooejeljdbnaa
open Go
set_option linter.unusedVariables false
set_option linter.unusedSimpArgs false
set_option maxRecDepth 10000
theorem gcheck1_ok (m : Nat → Bool) (n r : Nat) (A B G H : Nat → Rat) {b c : Nat} (h : Wf ⟨1, n, r, A, B, G, H⟩ b c) : CallP Try.prog 150 [genP m ⟨1, n, r, A, B, G, H⟩] (.p (.int .i64 0)) [] := by
  have n6 : n ≤ 6 := h.n6
  have n1 : 1 ≤ n := h.n1
  have r2 : r ≤ 2 := h.r2
  have hnr : n * r ≤ 12 := Nat.mul_le_mul n6 r2
  have hc4 := h.c4
  have hbc := h.bc
  have cc := cnt_le (k := 1) (r := r) n1 (show n ≤ 8 by omega) (show r ≤ 3 by omega)
  have cb : ∀ i : Nat, (if i = 0 then cntA 1 n else if i = 1 then cntB 1 n else cntH 1 n r) ≤ 24 := fun i => by split <;> (try split) <;> omega
  show CallP Try.prog 150 [.agg [.int .i64 ((1 : Nat) : Int), .int .i64 (n : Int), .int .i64 (r : Int), ratsM (m 0) (lst (cntA 1 n) A), ratsM (m 1) (lst (cntB 1 n) B), ratsM (m 2) (lst (cntH 1 n r) G), ratsM (m 3) (lst (cntH 1 n r) H)]] (.p (.int .i64 0)) []
  refine callG_of_vc (wr := wr0) Γok mixed Try.func150 (by kernel_rfl) rfl (by kernel_rfl) (le_of_ble rfl) (by simp) ?_
  refine SCmp.no (decide_eq_false (by omega)) ?_
  refine SCmp.no (decide_eq_false (by omega)) ?_
  refine SCall.pure (sized_ok m ⟨1, n, r, A, B, G, H⟩ h) ?_
  refine SCmp.no (rfl) ?_
  refine SCall.lent [genP m ⟨1, n, r, A, B, G, H⟩] _ rfl (genrows_ok m ⟨1, n, r, A, B, G, H⟩) ?_
  refine SCall.pure (counts_ok) ?_
  refine SLoop.mk Nat (fun i => ([(1, .bptr 0 0), (3, .bptr 1 0), (4, .p (.mp false cntM)), (28, .p (.agg [ratsM (m 0) (lst (cntA 1 n) A), ratsM (m 1) (lst (cntB 1 n) B), ratsM (m 2) (lst (cntH 1 n r) G), ratsM (m 3) (lst (cntH 1 n r) H)])), (29, .p (.int .i64 i))], [.box 59 [.p (.int .i64 ((1 : Nat) : Int)), .p (.int .i64 (n : Int)), .p (.int .i64 (r : Int)), .p (ratsM (m 0) (lst (cntA 1 n) A)), .p (ratsM (m 1) (lst (cntB 1 n) B)), .p (ratsM (m 2) (lst (cntH 1 n r) G)), .p (ratsM (m 3) (lst (cntH 1 n r) H))], .box 189 [.p (ratsM (m 0) (lst (cntA 1 n) A)), .p (ratsM (m 1) (lst (cntB 1 n) B)), .p (ratsM (m 2) (lst (cntH 1 n r) G)), .p (ratsM (m 3) (lst (cntH 1 n r) H))]]))
    (fun i => i ≤ 4) (fun i => 4 - i) 0 [0, 1] (Nat.zero_le _) ⟨rfl, by simp, rfl, rfl, rfl, ⟨rfl, rfl, rfl, rfl, rfl, trivial⟩, ⟨rfl, rfl, trivial⟩⟩ ?_
  intro i hi
  have hi : i ≤ 4 := hi
  rcases (show i = 0 ∨ i = 1 ∨ i = 2 ∨ i = 3 ∨ i = 4 by omega) with rfl | rfl | rfl | rfl | rfl
  · refine SCmp.yes (rfl) ?_
    refine SIdx.mk 0 _ rfl rfl ?_
    refine SKeys.all rfl <| SGet.at 0 _ rfl rfl rfl ?_
    refine SZ.mk ((cntA 1 n : Nat) : Int) (by simp [lst]) ?_
    refine SPos.mk 0 rfl (by decide) ?_
    refine SWrap.i64z ((2 * n : Nat) : Int) (by omega) (by omega) ?_
    refine SPos.mk 1 rfl (by decide) ?_
    refine SWrap.i64z ((0 * n : Nat) : Int) (by omega) (by omega) ?_
    refine SWrap.i64z ((0 : Nat) : Int) (by simp) (by omega) ?_
    refine SWrap.i64z ((2 * n + 0 : Nat) : Int) (by omega) (by omega) ?_
    refine SPos.mk 2 rfl (by decide) ?_
    refine SWrap.i64z ((cntA 1 n : Nat) : Int) (by simp [cntA, cntB, cntH] <;> omega) (by have := cnt_le (k := 1) (r := r) n1 (show n ≤ 8 by omega) (show r ≤ 3 by omega); omega) ?_
    refine SCmp.no (neF rfl) ?_
    refine SWrap.i64z ((0 + 1 : Nat) : Int) (by omega) (by omega) ?_
    exact ⟨0 + 1, [0, 1], by decide, by decide, ⟨rfl, by simp, rfl, rfl, rfl, ⟨rfl, rfl, rfl, rfl, rfl, trivial⟩, ⟨rfl, rfl, trivial⟩⟩⟩
  · refine SCmp.yes (rfl) ?_
    refine SIdx.mk 1 _ rfl rfl ?_
    refine SKeys.all rfl <| SGet.none rfl ?_
    refine SZ.mk ((cntB 1 n : Nat) : Int) (by simp [lst]) ?_
    refine SPos.mk 0 rfl (by decide) ?_
    refine SWrap.i64z ((0 * n : Nat) : Int) (by omega) (by omega) ?_
    refine SPos.mk 1 rfl (by decide) ?_
    refine SWrap.i64z ((0 * n : Nat) : Int) (by omega) (by omega) ?_
    refine SWrap.i64z ((0 : Nat) : Int) (by simp) (by omega) ?_
    refine SWrap.i64z ((0 * n + 0 : Nat) : Int) (by omega) (by omega) ?_
    refine SPos.mk 2 rfl (by decide) ?_
    refine SWrap.i64z ((cntB 1 n : Nat) : Int) (by simp [cntA, cntB, cntH] <;> omega) (by have := cnt_le (k := 1) (r := r) n1 (show n ≤ 8 by omega) (show r ≤ 3 by omega); omega) ?_
    refine SCmp.no (neF rfl) ?_
    refine SWrap.i64z ((1 + 1 : Nat) : Int) (by omega) (by omega) ?_
    exact ⟨1 + 1, [0, 1], by decide, by decide, ⟨rfl, by simp, rfl, rfl, rfl, ⟨rfl, rfl, rfl, rfl, rfl, trivial⟩, ⟨rfl, rfl, trivial⟩⟩⟩
  · refine SCmp.yes (rfl) ?_
    refine SIdx.mk 2 _ rfl rfl ?_
    refine SKeys.all rfl <| SGet.none rfl ?_
    refine SZ.mk ((cntH 1 n r : Nat) : Int) (by simp [lst]) ?_
    refine SPos.mk 0 rfl (by decide) ?_
    refine SWrap.i64z ((0 * n : Nat) : Int) (by omega) (by omega) ?_
    refine SPos.mk 1 rfl (by decide) ?_
    refine SWrap.i64z ((0 * n : Nat) : Int) (by omega) (by omega) ?_
    refine SWrap.i64z ((0 : Nat) : Int) (by simp) (by omega) ?_
    refine SWrap.i64z ((0 * n + 0 : Nat) : Int) (by omega) (by omega) ?_
    refine SPos.mk 2 rfl (by decide) ?_
    refine SWrap.i64z ((cntH 1 n r : Nat) : Int) (by simp [cntA, cntB, cntH] <;> omega) (by have := cnt_le (k := 1) (r := r) n1 (show n ≤ 8 by omega) (show r ≤ 3 by omega); omega) ?_
    refine SCmp.no (neF rfl) ?_
    refine SWrap.i64z ((2 + 1 : Nat) : Int) (by omega) (by omega) ?_
    exact ⟨2 + 1, [0, 1], by decide, by decide, ⟨rfl, by simp, rfl, rfl, rfl, ⟨rfl, rfl, rfl, rfl, rfl, trivial⟩, ⟨rfl, rfl, trivial⟩⟩⟩
  · refine SCmp.yes (rfl) ?_
    refine SIdx.mk 3 _ rfl rfl ?_
    refine SKeys.all rfl <| SGet.none rfl ?_
    refine SZ.mk ((cntH 1 n r : Nat) : Int) (by simp [lst]) ?_
    refine SPos.mk 0 rfl (by decide) ?_
    refine SWrap.i64z ((0 * n : Nat) : Int) (by omega) (by omega) ?_
    refine SPos.mk 1 rfl (by decide) ?_
    refine SWrap.i64z ((0 * n : Nat) : Int) (by omega) (by omega) ?_
    refine SWrap.i64z ((0 : Nat) : Int) (by simp) (by omega) ?_
    refine SWrap.i64z ((0 * n + 0 : Nat) : Int) (by omega) (by omega) ?_
    refine SPos.mk 2 rfl (by decide) ?_
    refine SWrap.i64z ((cntH 1 n r : Nat) : Int) (by simp [cntA, cntB, cntH] <;> omega) (by have := cnt_le (k := 1) (r := r) n1 (show n ≤ 8 by omega) (show r ≤ 3 by omega); omega) ?_
    refine SCmp.no (neF rfl) ?_
    refine SWrap.i64z ((3 + 1 : Nat) : Int) (by omega) (by omega) ?_
    exact ⟨3 + 1, [0, 1], by decide, by decide, ⟨rfl, by simp, rfl, rfl, rfl, ⟨rfl, rfl, rfl, rfl, rfl, trivial⟩, ⟨rfl, rfl, trivial⟩⟩⟩
  · refine SCmp.no (rfl) ?_
    refine SLoop.mk Nat (fun i => ([(1, .bptr 0 0), (60, .p (.agg [ratsM (m 0) (lst (cntA 1 n) A), ratsM (m 1) (lst (cntB 1 n) B), ratsM (m 2) (lst (cntH 1 n r) G), ratsM (m 3) (lst (cntH 1 n r) H)])), (61, .p (.int .i64 i))], [.box 59 [.p (.int .i64 ((1 : Nat) : Int)), .p (.int .i64 (n : Int)), .p (.int .i64 (r : Int)), .p (ratsM (m 0) (lst (cntA 1 n) A)), .p (ratsM (m 1) (lst (cntB 1 n) B)), .p (ratsM (m 2) (lst (cntH 1 n r) G)), .p (ratsM (m 3) (lst (cntH 1 n r) H))], .box 189 [.p (ratsM (m 0) (lst (cntA 1 n) A)), .p (ratsM (m 1) (lst (cntB 1 n) B)), .p (ratsM (m 2) (lst (cntH 1 n r) G)), .p (ratsM (m 3) (lst (cntH 1 n r) H))]]))
      (fun i => i ≤ 4) (fun i => 4 - i) 0 [0, 1] (Nat.zero_le _) ⟨rfl, by simp, rfl, rfl, rfl, ⟨rfl, rfl, rfl, trivial⟩, ⟨rfl, rfl, trivial⟩⟩ ?_
    intro i hi
    have hi : i ≤ 4 := hi
    rcases (show i = 0 ∨ i = 1 ∨ i = 2 ∨ i = 3 ∨ i = 4 by omega) with rfl | rfl | rfl | rfl | rfl
    · refine SCmp.yes (rfl) ?_
      refine SIdx.mk 0 _ rfl rfl ?_
      refine SCall.pure (none1_ok (m 0) (lst (cntA 1 n) A) (fun i hi => by rw [lst_length] at hi; rw [lst_getD hi]; exact check1_ok _ ((h.bA i hi).mono (by omega))) (by rw [lst_length]; exact Nat.le_trans (cb 0) (by decide))) ?_
      refine SCond.mk (fun h => by cases h) (fun _ => ?_)
      refine SWrap.i64z ((0 + 1 : Nat) : Int) (by omega) (by omega) ?_
      exact ⟨0 + 1, [0, 1], by decide, by decide, ⟨rfl, by simp, rfl, rfl, rfl, ⟨rfl, rfl, rfl, trivial⟩, ⟨rfl, rfl, trivial⟩⟩⟩
    · refine SCmp.yes (rfl) ?_
      refine SIdx.mk 1 _ rfl rfl ?_
      refine SCall.pure (none1_ok (m 1) (lst (cntB 1 n) B) (fun i hi => by rw [lst_length] at hi; rw [lst_getD hi]; exact check1_ok _ ((h.bB i hi).mono (by omega))) (by rw [lst_length]; exact Nat.le_trans (cb 1) (by decide))) ?_
      refine SCond.mk (fun h => by cases h) (fun _ => ?_)
      refine SWrap.i64z ((1 + 1 : Nat) : Int) (by omega) (by omega) ?_
      exact ⟨1 + 1, [0, 1], by decide, by decide, ⟨rfl, by simp, rfl, rfl, rfl, ⟨rfl, rfl, rfl, trivial⟩, ⟨rfl, rfl, trivial⟩⟩⟩
    · refine SCmp.yes (rfl) ?_
      refine SIdx.mk 2 _ rfl rfl ?_
      refine SCall.pure (none1_ok (m 2) (lst (cntH 1 n r) G) (fun i hi => by rw [lst_length] at hi; rw [lst_getD hi]; exact check1_ok _ ((h.bG i hi).mono (by omega))) (by rw [lst_length]; exact Nat.le_trans (cb 2) (by decide))) ?_
      refine SCond.mk (fun h => by cases h) (fun _ => ?_)
      refine SWrap.i64z ((2 + 1 : Nat) : Int) (by omega) (by omega) ?_
      exact ⟨2 + 1, [0, 1], by decide, by decide, ⟨rfl, by simp, rfl, rfl, rfl, ⟨rfl, rfl, rfl, trivial⟩, ⟨rfl, rfl, trivial⟩⟩⟩
    · refine SCmp.yes (rfl) ?_
      refine SIdx.mk 3 _ rfl rfl ?_
      refine SCall.pure (none1_ok (m 3) (lst (cntH 1 n r) H) (fun i hi => by rw [lst_length] at hi; rw [lst_getD hi]; exact check1_ok _ ((h.bH i hi).mono (by omega))) (by rw [lst_length]; exact Nat.le_trans (cb 3) (by decide))) ?_
      refine SCond.mk (fun h => by cases h) (fun _ => ?_)
      refine SWrap.i64z ((3 + 1 : Nat) : Int) (by omega) (by omega) ?_
      exact ⟨3 + 1, [0, 1], by decide, by decide, ⟨rfl, by simp, rfl, rfl, rfl, ⟨rfl, rfl, rfl, trivial⟩, ⟨rfl, rfl, trivial⟩⟩⟩
    · refine SCmp.no (rfl) ?_
      refine SZ.mk ((cntA 1 n : Nat) : Int) (by simp [lst]) ?_
      refine SLoop.mk Nat (fun i => ([(1, .bptr 0 0), (68, .p (ratsM (m 0) (lst (cntA 1 n) A))), (69, .p (.int .i64 ((cntA 1 n : Nat) : Int))), (70, .p (.int .i64 i))], [.box 59 [.p (.int .i64 ((1 : Nat) : Int)), .p (.int .i64 (n : Int)), .p (.int .i64 (r : Int)), .p (ratsM (m 0) (lst (cntA 1 n) A)), .p (ratsM (m 1) (lst (cntB 1 n) B)), .p (ratsM (m 2) (lst (cntH 1 n r) G)), .p (ratsM (m 3) (lst (cntH 1 n r) H))], .box 189 [.p (ratsM (m 0) (lst (cntA 1 n) A)), .p (ratsM (m 1) (lst (cntB 1 n) B)), .p (ratsM (m 2) (lst (cntH 1 n r) G)), .p (ratsM (m 3) (lst (cntH 1 n r) H))]]))
        (fun i => i ≤ cntA 1 n) (fun i => cntA 1 n - i) 0 [0, 1] (Nat.zero_le _) ⟨rfl, by simp, rfl, rfl, rfl, ⟨rfl, rfl, rfl, rfl, trivial⟩, ⟨rfl, rfl, trivial⟩⟩ ?_
      intro i hi
      have hi : i ≤ cntA 1 n := hi
      have cA := cb 0
      by_cases hia : i < cntA 1 n
      · refine SCmp.yes (decide_eq_true (by omega)) ?_
        refine SIdx.rf i rfl hia ?_
        have hz := (h.bA i hia).mono (show b ≤ c by omega)
        have hc2 := none2_ok (m 1) true (A i) (lst (cntB 1 n) B) (fun j hj => by
          rw [lst_length] at hj; rw [lst_getD hj]
          have := check2_ok true (A i) (B j) hz (h.bB j hj) (by omega)
          rw [decide_eq_false (h.ne i j hia hj)] at this
          exact this) (by rw [lst_length]; exact Nat.le_trans (cb 1) (by decide))
        refine SCall.pure (pvs := [ratsM (m 1) (lst (cntB 1 n) B), .fn 189 [.pel true (ratP (A i))]]) hc2 ?_
        refine SCond.mk (fun h => by cases h) (fun _ => ?_)
        refine SWrap.i64z ((i + 1 : Nat) : Int) (by omega) (by omega) ?_
        exact ⟨i + 1, [0, 1], hia, by show cntA 1 n - (i + 1) < cntA 1 n - i; omega, ⟨rfl, by simp, rfl, rfl, rfl, ⟨rfl, rfl, rfl, rfl, trivial⟩, ⟨rfl, rfl, trivial⟩⟩⟩
      · refine SCmp.no (decide_eq_false (by omega)) ?_
        exact SRet.pure (.p _ (.int _ _))
theorem gcheck2_ok (m : Nat → Bool) (n r : Nat) (A B G H : Nat → Rat) {b c : Nat} (h : Wf ⟨2, n, r, A, B, G, H⟩ b c) : CallP Try.prog 150 [genP m ⟨2, n, r, A, B, G, H⟩] (.p (.int .i64 0)) [] := by
  have n6 : n ≤ 6 := h.n6
  have n1 : 1 ≤ n := h.n1
  have r2 : r ≤ 2 := h.r2
  have hnr : n * r ≤ 12 := Nat.mul_le_mul n6 r2
  have hc4 := h.c4
  have hbc := h.bc
  have cc := cnt_le (k := 2) (r := r) n1 (show n ≤ 8 by omega) (show r ≤ 3 by omega)
  have cb : ∀ i : Nat, (if i = 0 then cntA 2 n else if i = 1 then cntB 2 n else cntH 2 n r) ≤ 24 := fun i => by split <;> (try split) <;> omega
  show CallP Try.prog 150 [.agg [.int .i64 ((2 : Nat) : Int), .int .i64 (n : Int), .int .i64 (r : Int), ratsM (m 0) (lst (cntA 2 n) A), ratsM (m 1) (lst (cntB 2 n) B), ratsM (m 2) (lst (cntH 2 n r) G), ratsM (m 3) (lst (cntH 2 n r) H)]] (.p (.int .i64 0)) []
  refine callG_of_vc (wr := wr0) Γok mixed Try.func150 (by kernel_rfl) rfl (by kernel_rfl) (le_of_ble rfl) (by simp) ?_
  refine SCmp.no (decide_eq_false (by omega)) ?_
  refine SCmp.no (decide_eq_false (by omega)) ?_
  refine SCall.pure (sized_ok m ⟨2, n, r, A, B, G, H⟩ h) ?_
  refine SCmp.no (rfl) ?_
  refine SCall.lent [genP m ⟨2, n, r, A, B, G, H⟩] _ rfl (genrows_ok m ⟨2, n, r, A, B, G, H⟩) ?_
  refine SCall.pure (counts_ok) ?_
  refine SLoop.mk Nat (fun i => ([(1, .bptr 0 0), (3, .bptr 1 0), (4, .p (.mp false cntM)), (28, .p (.agg [ratsM (m 0) (lst (cntA 2 n) A), ratsM (m 1) (lst (cntB 2 n) B), ratsM (m 2) (lst (cntH 2 n r) G), ratsM (m 3) (lst (cntH 2 n r) H)])), (29, .p (.int .i64 i))], [.box 59 [.p (.int .i64 ((2 : Nat) : Int)), .p (.int .i64 (n : Int)), .p (.int .i64 (r : Int)), .p (ratsM (m 0) (lst (cntA 2 n) A)), .p (ratsM (m 1) (lst (cntB 2 n) B)), .p (ratsM (m 2) (lst (cntH 2 n r) G)), .p (ratsM (m 3) (lst (cntH 2 n r) H))], .box 189 [.p (ratsM (m 0) (lst (cntA 2 n) A)), .p (ratsM (m 1) (lst (cntB 2 n) B)), .p (ratsM (m 2) (lst (cntH 2 n r) G)), .p (ratsM (m 3) (lst (cntH 2 n r) H))]]))
    (fun i => i ≤ 4) (fun i => 4 - i) 0 [0, 1] (Nat.zero_le _) ⟨rfl, by simp, rfl, rfl, rfl, ⟨rfl, rfl, rfl, rfl, rfl, trivial⟩, ⟨rfl, rfl, trivial⟩⟩ ?_
  intro i hi
  have hi : i ≤ 4 := hi
  rcases (show i = 0 ∨ i = 1 ∨ i = 2 ∨ i = 3 ∨ i = 4 by omega) with rfl | rfl | rfl | rfl | rfl
  · refine SCmp.yes (rfl) ?_
    refine SIdx.mk 0 _ rfl rfl ?_
    refine SKeys.all rfl <| SGet.at 1 _ rfl rfl rfl ?_
    refine SZ.mk ((cntA 2 n : Nat) : Int) (by simp [lst]) ?_
    refine SPos.mk 0 rfl (by decide) ?_
    refine SWrap.i64z ((2 * n : Nat) : Int) (by omega) (by omega) ?_
    refine SPos.mk 1 rfl (by decide) ?_
    refine SWrap.i64z ((0 * n : Nat) : Int) (by omega) (by omega) ?_
    refine SWrap.i64z ((0 : Nat) : Int) (by simp) (by omega) ?_
    refine SWrap.i64z ((2 * n + 0 : Nat) : Int) (by omega) (by omega) ?_
    refine SPos.mk 2 rfl (by decide) ?_
    refine SWrap.i64z ((cntA 2 n : Nat) : Int) (by simp [cntA, cntB, cntH] <;> omega) (by have := cnt_le (k := 2) (r := r) n1 (show n ≤ 8 by omega) (show r ≤ 3 by omega); omega) ?_
    refine SCmp.no (neF rfl) ?_
    refine SWrap.i64z ((0 + 1 : Nat) : Int) (by omega) (by omega) ?_
    exact ⟨0 + 1, [0, 1], by decide, by decide, ⟨rfl, by simp, rfl, rfl, rfl, ⟨rfl, rfl, rfl, rfl, rfl, trivial⟩, ⟨rfl, rfl, trivial⟩⟩⟩
  · refine SCmp.yes (rfl) ?_
    refine SIdx.mk 1 _ rfl rfl ?_
    refine SKeys.all rfl <| SGet.none rfl ?_
    refine SZ.mk ((cntB 2 n : Nat) : Int) (by simp [lst]) ?_
    refine SPos.mk 0 rfl (by decide) ?_
    refine SWrap.i64z ((0 * n : Nat) : Int) (by omega) (by omega) ?_
    refine SPos.mk 1 rfl (by decide) ?_
    refine SWrap.i64z ((0 * n : Nat) : Int) (by omega) (by omega) ?_
    refine SWrap.i64z ((0 : Nat) : Int) (by simp) (by omega) ?_
    refine SWrap.i64z ((0 * n + 0 : Nat) : Int) (by omega) (by omega) ?_
    refine SPos.mk 2 rfl (by decide) ?_
    refine SWrap.i64z ((cntB 2 n : Nat) : Int) (by simp [cntA, cntB, cntH] <;> omega) (by have := cnt_le (k := 2) (r := r) n1 (show n ≤ 8 by omega) (show r ≤ 3 by omega); omega) ?_
    refine SCmp.no (neF rfl) ?_
    refine SWrap.i64z ((1 + 1 : Nat) : Int) (by omega) (by omega) ?_
    exact ⟨1 + 1, [0, 1], by decide, by decide, ⟨rfl, by simp, rfl, rfl, rfl, ⟨rfl, rfl, rfl, rfl, rfl, trivial⟩, ⟨rfl, rfl, trivial⟩⟩⟩
  · refine SCmp.yes (rfl) ?_
    refine SIdx.mk 2 _ rfl rfl ?_
    refine SKeys.all rfl <| SGet.none rfl ?_
    refine SZ.mk ((cntH 2 n r : Nat) : Int) (by simp [lst]) ?_
    refine SPos.mk 0 rfl (by decide) ?_
    refine SWrap.i64z ((0 * n : Nat) : Int) (by omega) (by omega) ?_
    refine SPos.mk 1 rfl (by decide) ?_
    refine SWrap.i64z ((0 * n : Nat) : Int) (by omega) (by omega) ?_
    refine SWrap.i64z ((0 : Nat) : Int) (by simp) (by omega) ?_
    refine SWrap.i64z ((0 * n + 0 : Nat) : Int) (by omega) (by omega) ?_
    refine SPos.mk 2 rfl (by decide) ?_
    refine SWrap.i64z ((cntH 2 n r : Nat) : Int) (by simp [cntA, cntB, cntH] <;> omega) (by have := cnt_le (k := 2) (r := r) n1 (show n ≤ 8 by omega) (show r ≤ 3 by omega); omega) ?_
    refine SCmp.no (neF rfl) ?_
    refine SWrap.i64z ((2 + 1 : Nat) : Int) (by omega) (by omega) ?_
    exact ⟨2 + 1, [0, 1], by decide, by decide, ⟨rfl, by simp, rfl, rfl, rfl, ⟨rfl, rfl, rfl, rfl, rfl, trivial⟩, ⟨rfl, rfl, trivial⟩⟩⟩
  · refine SCmp.yes (rfl) ?_
    refine SIdx.mk 3 _ rfl rfl ?_
    refine SKeys.all rfl <| SGet.none rfl ?_
    refine SZ.mk ((cntH 2 n r : Nat) : Int) (by simp [lst]) ?_
    refine SPos.mk 0 rfl (by decide) ?_
    refine SWrap.i64z ((0 * n : Nat) : Int) (by omega) (by omega) ?_
    refine SPos.mk 1 rfl (by decide) ?_
    refine SWrap.i64z ((0 * n : Nat) : Int) (by omega) (by omega) ?_
    refine SWrap.i64z ((0 : Nat) : Int) (by simp) (by omega) ?_
    refine SWrap.i64z ((0 * n + 0 : Nat) : Int) (by omega) (by omega) ?_
    refine SPos.mk 2 rfl (by decide) ?_
    refine SWrap.i64z ((cntH 2 n r : Nat) : Int) (by simp [cntA, cntB, cntH] <;> omega) (by have := cnt_le (k := 2) (r := r) n1 (show n ≤ 8 by omega) (show r ≤ 3 by omega); omega) ?_
    refine SCmp.no (neF rfl) ?_
    refine SWrap.i64z ((3 + 1 : Nat) : Int) (by omega) (by omega) ?_
    exact ⟨3 + 1, [0, 1], by decide, by decide, ⟨rfl, by simp, rfl, rfl, rfl, ⟨rfl, rfl, rfl, rfl, rfl, trivial⟩, ⟨rfl, rfl, trivial⟩⟩⟩
  · refine SCmp.no (rfl) ?_
    refine SLoop.mk Nat (fun i => ([(1, .bptr 0 0), (60, .p (.agg [ratsM (m 0) (lst (cntA 2 n) A), ratsM (m 1) (lst (cntB 2 n) B), ratsM (m 2) (lst (cntH 2 n r) G), ratsM (m 3) (lst (cntH 2 n r) H)])), (61, .p (.int .i64 i))], [.box 59 [.p (.int .i64 ((2 : Nat) : Int)), .p (.int .i64 (n : Int)), .p (.int .i64 (r : Int)), .p (ratsM (m 0) (lst (cntA 2 n) A)), .p (ratsM (m 1) (lst (cntB 2 n) B)), .p (ratsM (m 2) (lst (cntH 2 n r) G)), .p (ratsM (m 3) (lst (cntH 2 n r) H))], .box 189 [.p (ratsM (m 0) (lst (cntA 2 n) A)), .p (ratsM (m 1) (lst (cntB 2 n) B)), .p (ratsM (m 2) (lst (cntH 2 n r) G)), .p (ratsM (m 3) (lst (cntH 2 n r) H))]]))
      (fun i => i ≤ 4) (fun i => 4 - i) 0 [0, 1] (Nat.zero_le _) ⟨rfl, by simp, rfl, rfl, rfl, ⟨rfl, rfl, rfl, trivial⟩, ⟨rfl, rfl, trivial⟩⟩ ?_
    intro i hi
    have hi : i ≤ 4 := hi
    rcases (show i = 0 ∨ i = 1 ∨ i = 2 ∨ i = 3 ∨ i = 4 by omega) with rfl | rfl | rfl | rfl | rfl
    · refine SCmp.yes (rfl) ?_
      refine SIdx.mk 0 _ rfl rfl ?_
      refine SCall.pure (none1_ok (m 0) (lst (cntA 2 n) A) (fun i hi => by rw [lst_length] at hi; rw [lst_getD hi]; exact check1_ok _ ((h.bA i hi).mono (by omega))) (by rw [lst_length]; exact Nat.le_trans (cb 0) (by decide))) ?_
      refine SCond.mk (fun h => by cases h) (fun _ => ?_)
      refine SWrap.i64z ((0 + 1 : Nat) : Int) (by omega) (by omega) ?_
      exact ⟨0 + 1, [0, 1], by decide, by decide, ⟨rfl, by simp, rfl, rfl, rfl, ⟨rfl, rfl, rfl, trivial⟩, ⟨rfl, rfl, trivial⟩⟩⟩
    · refine SCmp.yes (rfl) ?_
      refine SIdx.mk 1 _ rfl rfl ?_
      refine SCall.pure (none1_ok (m 1) (lst (cntB 2 n) B) (fun i hi => by rw [lst_length] at hi; rw [lst_getD hi]; exact check1_ok _ ((h.bB i hi).mono (by omega))) (by rw [lst_length]; exact Nat.le_trans (cb 1) (by decide))) ?_
      refine SCond.mk (fun h => by cases h) (fun _ => ?_)
      refine SWrap.i64z ((1 + 1 : Nat) : Int) (by omega) (by omega) ?_
      exact ⟨1 + 1, [0, 1], by decide, by decide, ⟨rfl, by simp, rfl, rfl, rfl, ⟨rfl, rfl, rfl, trivial⟩, ⟨rfl, rfl, trivial⟩⟩⟩
    · refine SCmp.yes (rfl) ?_
      refine SIdx.mk 2 _ rfl rfl ?_
      refine SCall.pure (none1_ok (m 2) (lst (cntH 2 n r) G) (fun i hi => by rw [lst_length] at hi; rw [lst_getD hi]; exact check1_ok _ ((h.bG i hi).mono (by omega))) (by rw [lst_length]; exact Nat.le_trans (cb 2) (by decide))) ?_
      refine SCond.mk (fun h => by cases h) (fun _ => ?_)
      refine SWrap.i64z ((2 + 1 : Nat) : Int) (by omega) (by omega) ?_
      exact ⟨2 + 1, [0, 1], by decide, by decide, ⟨rfl, by simp, rfl, rfl, rfl, ⟨rfl, rfl, rfl, trivial⟩, ⟨rfl, rfl, trivial⟩⟩⟩
    · refine SCmp.yes (rfl) ?_
      refine SIdx.mk 3 _ rfl rfl ?_
      refine SCall.pure (none1_ok (m 3) (lst (cntH 2 n r) H) (fun i hi => by rw [lst_length] at hi; rw [lst_getD hi]; exact check1_ok _ ((h.bH i hi).mono (by omega))) (by rw [lst_length]; exact Nat.le_trans (cb 3) (by decide))) ?_
      refine SCond.mk (fun h => by cases h) (fun _ => ?_)
      refine SWrap.i64z ((3 + 1 : Nat) : Int) (by omega) (by omega) ?_
      exact ⟨3 + 1, [0, 1], by decide, by decide, ⟨rfl, by simp, rfl, rfl, rfl, ⟨rfl, rfl, rfl, trivial⟩, ⟨rfl, rfl, trivial⟩⟩⟩
    · refine SCmp.no (rfl) ?_
      refine SZ.mk ((cntA 2 n : Nat) : Int) (by simp [lst]) ?_
      refine SLoop.mk Nat (fun i => ([(1, .bptr 0 0), (68, .p (ratsM (m 0) (lst (cntA 2 n) A))), (69, .p (.int .i64 ((cntA 2 n : Nat) : Int))), (70, .p (.int .i64 i))], [.box 59 [.p (.int .i64 ((2 : Nat) : Int)), .p (.int .i64 (n : Int)), .p (.int .i64 (r : Int)), .p (ratsM (m 0) (lst (cntA 2 n) A)), .p (ratsM (m 1) (lst (cntB 2 n) B)), .p (ratsM (m 2) (lst (cntH 2 n r) G)), .p (ratsM (m 3) (lst (cntH 2 n r) H))], .box 189 [.p (ratsM (m 0) (lst (cntA 2 n) A)), .p (ratsM (m 1) (lst (cntB 2 n) B)), .p (ratsM (m 2) (lst (cntH 2 n r) G)), .p (ratsM (m 3) (lst (cntH 2 n r) H))]]))
        (fun i => i ≤ cntA 2 n) (fun i => cntA 2 n - i) 0 [0, 1] (Nat.zero_le _) ⟨rfl, by simp, rfl, rfl, rfl, ⟨rfl, rfl, rfl, rfl, trivial⟩, ⟨rfl, rfl, trivial⟩⟩ ?_
      intro i hi
      have hi : i ≤ cntA 2 n := hi
      have cA := cb 0
      by_cases hia : i < cntA 2 n
      · refine SCmp.yes (decide_eq_true (by omega)) ?_
        refine SIdx.rf i rfl hia ?_
        have hz := (h.bA i hia).mono (show b ≤ c by omega)
        have hc2 := none2_ok (m 1) true (A i) (lst (cntB 2 n) B) (fun j hj => by
          rw [lst_length] at hj; rw [lst_getD hj]
          have := check2_ok true (A i) (B j) hz (h.bB j hj) (by omega)
          rw [decide_eq_false (h.ne i j hia hj)] at this
          exact this) (by rw [lst_length]; exact Nat.le_trans (cb 1) (by decide))
        refine SCall.pure (pvs := [ratsM (m 1) (lst (cntB 2 n) B), .fn 189 [.pel true (ratP (A i))]]) hc2 ?_
        refine SCond.mk (fun h => by cases h) (fun _ => ?_)
        refine SWrap.i64z ((i + 1 : Nat) : Int) (by omega) (by omega) ?_
        exact ⟨i + 1, [0, 1], hia, by show cntA 2 n - (i + 1) < cntA 2 n - i; omega, ⟨rfl, by simp, rfl, rfl, rfl, ⟨rfl, rfl, rfl, rfl, trivial⟩, ⟨rfl, rfl, trivial⟩⟩⟩
      · refine SCmp.no (decide_eq_false (by omega)) ?_
        exact SRet.pure (.p _ (.int _ _))
theorem gcheck3_ok (m : Nat → Bool) (n r : Nat) (A B G H : Nat → Rat) {b c : Nat} (h : Wf ⟨3, n, r, A, B, G, H⟩ b c) : CallP Try.prog 150 [genP m ⟨3, n, r, A, B, G, H⟩] (.p (.int .i64 0)) [] := by
  have n6 : n ≤ 6 := h.n6
  have n1 : 1 ≤ n := h.n1
  have r2 : r ≤ 2 := h.r2
  have hnr : n * r ≤ 12 := Nat.mul_le_mul n6 r2
  have hc4 := h.c4
  have hbc := h.bc
  have cc := cnt_le (k := 3) (r := r) n1 (show n ≤ 8 by omega) (show r ≤ 3 by omega)
  have cb : ∀ i : Nat, (if i = 0 then cntA 3 n else if i = 1 then cntB 3 n else cntH 3 n r) ≤ 24 := fun i => by split <;> (try split) <;> omega
  show CallP Try.prog 150 [.agg [.int .i64 ((3 : Nat) : Int), .int .i64 (n : Int), .int .i64 (r : Int), ratsM (m 0) (lst (cntA 3 n) A), ratsM (m 1) (lst (cntB 3 n) B), ratsM (m 2) (lst (cntH 3 n r) G), ratsM (m 3) (lst (cntH 3 n r) H)]] (.p (.int .i64 0)) []
  refine callG_of_vc (wr := wr0) Γok mixed Try.func150 (by kernel_rfl) rfl (by kernel_rfl) (le_of_ble rfl) (by simp) ?_
  refine SCmp.no (decide_eq_false (by omega)) ?_
  refine SCmp.no (decide_eq_false (by omega)) ?_
  refine SCall.pure (sized_ok m ⟨3, n, r, A, B, G, H⟩ h) ?_
  refine SCmp.no (rfl) ?_
  refine SCall.lent [genP m ⟨3, n, r, A, B, G, H⟩] _ rfl (genrows_ok m ⟨3, n, r, A, B, G, H⟩) ?_
  refine SCall.pure (counts_ok) ?_
  refine SLoop.mk Nat (fun i => ([(1, .bptr 0 0), (3, .bptr 1 0), (4, .p (.mp false cntM)), (28, .p (.agg [ratsM (m 0) (lst (cntA 3 n) A), ratsM (m 1) (lst (cntB 3 n) B), ratsM (m 2) (lst (cntH 3 n r) G), ratsM (m 3) (lst (cntH 3 n r) H)])), (29, .p (.int .i64 i))], [.box 59 [.p (.int .i64 ((3 : Nat) : Int)), .p (.int .i64 (n : Int)), .p (.int .i64 (r : Int)), .p (ratsM (m 0) (lst (cntA 3 n) A)), .p (ratsM (m 1) (lst (cntB 3 n) B)), .p (ratsM (m 2) (lst (cntH 3 n r) G)), .p (ratsM (m 3) (lst (cntH 3 n r) H))], .box 189 [.p (ratsM (m 0) (lst (cntA 3 n) A)), .p (ratsM (m 1) (lst (cntB 3 n) B)), .p (ratsM (m 2) (lst (cntH 3 n r) G)), .p (ratsM (m 3) (lst (cntH 3 n r) H))]]))
    (fun i => i ≤ 4) (fun i => 4 - i) 0 [0, 1] (Nat.zero_le _) ⟨rfl, by simp, rfl, rfl, rfl, ⟨rfl, rfl, rfl, rfl, rfl, trivial⟩, ⟨rfl, rfl, trivial⟩⟩ ?_
  intro i hi
  have hi : i ≤ 4 := hi
  rcases (show i = 0 ∨ i = 1 ∨ i = 2 ∨ i = 3 ∨ i = 4 by omega) with rfl | rfl | rfl | rfl | rfl
  · refine SCmp.yes (rfl) ?_
    refine SIdx.mk 0 _ rfl rfl ?_
    refine SKeys.all rfl <| SGet.at 2 _ rfl rfl rfl ?_
    refine SZ.mk ((cntA 3 n : Nat) : Int) (by simp [lst]) ?_
    refine SPos.mk 0 rfl (by decide) ?_
    refine SWrap.i64z ((1 * n : Nat) : Int) (by omega) (by omega) ?_
    refine SPos.mk 1 rfl (by decide) ?_
    refine SWrap.i64z ((0 * n : Nat) : Int) (by omega) (by omega) ?_
    refine SWrap.i64z ((0 : Nat) : Int) (by simp) (by omega) ?_
    refine SWrap.i64z ((1 * n + 0 : Nat) : Int) (by omega) (by omega) ?_
    refine SPos.mk 2 rfl (by decide) ?_
    refine SWrap.i64z ((cntA 3 n : Nat) : Int) (by simp [cntA, cntB, cntH] <;> omega) (by have := cnt_le (k := 3) (r := r) n1 (show n ≤ 8 by omega) (show r ≤ 3 by omega); omega) ?_
    refine SCmp.no (neF rfl) ?_
    refine SWrap.i64z ((0 + 1 : Nat) : Int) (by omega) (by omega) ?_
    exact ⟨0 + 1, [0, 1], by decide, by decide, ⟨rfl, by simp, rfl, rfl, rfl, ⟨rfl, rfl, rfl, rfl, rfl, trivial⟩, ⟨rfl, rfl, trivial⟩⟩⟩
  · refine SCmp.yes (rfl) ?_
    refine SIdx.mk 1 _ rfl rfl ?_
    refine SKeys.all rfl <| SGet.none rfl ?_
    refine SZ.mk ((cntB 3 n : Nat) : Int) (by simp [lst]) ?_
    refine SPos.mk 0 rfl (by decide) ?_
    refine SWrap.i64z ((0 * n : Nat) : Int) (by omega) (by omega) ?_
    refine SPos.mk 1 rfl (by decide) ?_
    refine SWrap.i64z ((0 * n : Nat) : Int) (by omega) (by omega) ?_
    refine SWrap.i64z ((0 : Nat) : Int) (by simp) (by omega) ?_
    refine SWrap.i64z ((0 * n + 0 : Nat) : Int) (by omega) (by omega) ?_
    refine SPos.mk 2 rfl (by decide) ?_
    refine SWrap.i64z ((cntB 3 n : Nat) : Int) (by simp [cntA, cntB, cntH] <;> omega) (by have := cnt_le (k := 3) (r := r) n1 (show n ≤ 8 by omega) (show r ≤ 3 by omega); omega) ?_
    refine SCmp.no (neF rfl) ?_
    refine SWrap.i64z ((1 + 1 : Nat) : Int) (by omega) (by omega) ?_
    exact ⟨1 + 1, [0, 1], by decide, by decide, ⟨rfl, by simp, rfl, rfl, rfl, ⟨rfl, rfl, rfl, rfl, rfl, trivial⟩, ⟨rfl, rfl, trivial⟩⟩⟩
  · refine SCmp.yes (rfl) ?_
    refine SIdx.mk 2 _ rfl rfl ?_
    refine SKeys.all rfl <| SGet.none rfl ?_
    refine SZ.mk ((cntH 3 n r : Nat) : Int) (by simp [lst]) ?_
    refine SPos.mk 0 rfl (by decide) ?_
    refine SWrap.i64z ((0 * n : Nat) : Int) (by omega) (by omega) ?_
    refine SPos.mk 1 rfl (by decide) ?_
    refine SWrap.i64z ((0 * n : Nat) : Int) (by omega) (by omega) ?_
    refine SWrap.i64z ((0 : Nat) : Int) (by simp) (by omega) ?_
    refine SWrap.i64z ((0 * n + 0 : Nat) : Int) (by omega) (by omega) ?_
    refine SPos.mk 2 rfl (by decide) ?_
    refine SWrap.i64z ((cntH 3 n r : Nat) : Int) (by simp [cntA, cntB, cntH] <;> omega) (by have := cnt_le (k := 3) (r := r) n1 (show n ≤ 8 by omega) (show r ≤ 3 by omega); omega) ?_
    refine SCmp.no (neF rfl) ?_
    refine SWrap.i64z ((2 + 1 : Nat) : Int) (by omega) (by omega) ?_
    exact ⟨2 + 1, [0, 1], by decide, by decide, ⟨rfl, by simp, rfl, rfl, rfl, ⟨rfl, rfl, rfl, rfl, rfl, trivial⟩, ⟨rfl, rfl, trivial⟩⟩⟩
  · refine SCmp.yes (rfl) ?_
    refine SIdx.mk 3 _ rfl rfl ?_
    refine SKeys.all rfl <| SGet.none rfl ?_
    refine SZ.mk ((cntH 3 n r : Nat) : Int) (by simp [lst]) ?_
    refine SPos.mk 0 rfl (by decide) ?_
    refine SWrap.i64z ((0 * n : Nat) : Int) (by omega) (by omega) ?_
    refine SPos.mk 1 rfl (by decide) ?_
    refine SWrap.i64z ((0 * n : Nat) : Int) (by omega) (by omega) ?_
    refine SWrap.i64z ((0 : Nat) : Int) (by simp) (by omega) ?_
    refine SWrap.i64z ((0 * n + 0 : Nat) : Int) (by omega) (by omega) ?_
    refine SPos.mk 2 rfl (by decide) ?_
    refine SWrap.i64z ((cntH 3 n r : Nat) : Int) (by simp [cntA, cntB, cntH] <;> omega) (by have := cnt_le (k := 3) (r := r) n1 (show n ≤ 8 by omega) (show r ≤ 3 by omega); omega) ?_
    refine SCmp.no (neF rfl) ?_
    refine SWrap.i64z ((3 + 1 : Nat) : Int) (by omega) (by omega) ?_
    exact ⟨3 + 1, [0, 1], by decide, by decide, ⟨rfl, by simp, rfl, rfl, rfl, ⟨rfl, rfl, rfl, rfl, rfl, trivial⟩, ⟨rfl, rfl, trivial⟩⟩⟩
  · refine SCmp.no (rfl) ?_
    refine SLoop.mk Nat (fun i => ([(1, .bptr 0 0), (60, .p (.agg [ratsM (m 0) (lst (cntA 3 n) A), ratsM (m 1) (lst (cntB 3 n) B), ratsM (m 2) (lst (cntH 3 n r) G), ratsM (m 3) (lst (cntH 3 n r) H)])), (61, .p (.int .i64 i))], [.box 59 [.p (.int .i64 ((3 : Nat) : Int)), .p (.int .i64 (n : Int)), .p (.int .i64 (r : Int)), .p (ratsM (m 0) (lst (cntA 3 n) A)), .p (ratsM (m 1) (lst (cntB 3 n) B)), .p (ratsM (m 2) (lst (cntH 3 n r) G)), .p (ratsM (m 3) (lst (cntH 3 n r) H))], .box 189 [.p (ratsM (m 0) (lst (cntA 3 n) A)), .p (ratsM (m 1) (lst (cntB 3 n) B)), .p (ratsM (m 2) (lst (cntH 3 n r) G)), .p (ratsM (m 3) (lst (cntH 3 n r) H))]]))
      (fun i => i ≤ 4) (fun i => 4 - i) 0 [0, 1] (Nat.zero_le _) ⟨rfl, by simp, rfl, rfl, rfl, ⟨rfl, rfl, rfl, trivial⟩, ⟨rfl, rfl, trivial⟩⟩ ?_
    intro i hi
    have hi : i ≤ 4 := hi
    rcases (show i = 0 ∨ i = 1 ∨ i = 2 ∨ i = 3 ∨ i = 4 by omega) with rfl | rfl | rfl | rfl | rfl
    · refine SCmp.yes (rfl) ?_
      refine SIdx.mk 0 _ rfl rfl ?_
      refine SCall.pure (none1_ok (m 0) (lst (cntA 3 n) A) (fun i hi => by rw [lst_length] at hi; rw [lst_getD hi]; exact check1_ok _ ((h.bA i hi).mono (by omega))) (by rw [lst_length]; exact Nat.le_trans (cb 0) (by decide))) ?_
      refine SCond.mk (fun h => by cases h) (fun _ => ?_)
      refine SWrap.i64z ((0 + 1 : Nat) : Int) (by omega) (by omega) ?_
      exact ⟨0 + 1, [0, 1], by decide, by decide, ⟨rfl, by simp, rfl, rfl, rfl, ⟨rfl, rfl, rfl, trivial⟩, ⟨rfl, rfl, trivial⟩⟩⟩
    · refine SCmp.yes (rfl) ?_
      refine SIdx.mk 1 _ rfl rfl ?_
      refine SCall.pure (none1_ok (m 1) (lst (cntB 3 n) B) (fun i hi => by rw [lst_length] at hi; rw [lst_getD hi]; exact check1_ok _ ((h.bB i hi).mono (by omega))) (by rw [lst_length]; exact Nat.le_trans (cb 1) (by decide))) ?_
      refine SCond.mk (fun h => by cases h) (fun _ => ?_)
      refine SWrap.i64z ((1 + 1 : Nat) : Int) (by omega) (by omega) ?_
      exact ⟨1 + 1, [0, 1], by decide, by decide, ⟨rfl, by simp, rfl, rfl, rfl, ⟨rfl, rfl, rfl, trivial⟩, ⟨rfl, rfl, trivial⟩⟩⟩
    · refine SCmp.yes (rfl) ?_
      refine SIdx.mk 2 _ rfl rfl ?_
      refine SCall.pure (none1_ok (m 2) (lst (cntH 3 n r) G) (fun i hi => by rw [lst_length] at hi; rw [lst_getD hi]; exact check1_ok _ ((h.bG i hi).mono (by omega))) (by rw [lst_length]; exact Nat.le_trans (cb 2) (by decide))) ?_
      refine SCond.mk (fun h => by cases h) (fun _ => ?_)
      refine SWrap.i64z ((2 + 1 : Nat) : Int) (by omega) (by omega) ?_
      exact ⟨2 + 1, [0, 1], by decide, by decide, ⟨rfl, by simp, rfl, rfl, rfl, ⟨rfl, rfl, rfl, trivial⟩, ⟨rfl, rfl, trivial⟩⟩⟩
    · refine SCmp.yes (rfl) ?_
      refine SIdx.mk 3 _ rfl rfl ?_
      refine SCall.pure (none1_ok (m 3) (lst (cntH 3 n r) H) (fun i hi => by rw [lst_length] at hi; rw [lst_getD hi]; exact check1_ok _ ((h.bH i hi).mono (by omega))) (by rw [lst_length]; exact Nat.le_trans (cb 3) (by decide))) ?_
      refine SCond.mk (fun h => by cases h) (fun _ => ?_)
      refine SWrap.i64z ((3 + 1 : Nat) : Int) (by omega) (by omega) ?_
      exact ⟨3 + 1, [0, 1], by decide, by decide, ⟨rfl, by simp, rfl, rfl, rfl, ⟨rfl, rfl, rfl, trivial⟩, ⟨rfl, rfl, trivial⟩⟩⟩
    · refine SCmp.no (rfl) ?_
      refine SZ.mk ((cntA 3 n : Nat) : Int) (by simp [lst]) ?_
      refine SLoop.mk Nat (fun i => ([(1, .bptr 0 0), (68, .p (ratsM (m 0) (lst (cntA 3 n) A))), (69, .p (.int .i64 ((cntA 3 n : Nat) : Int))), (70, .p (.int .i64 i))], [.box 59 [.p (.int .i64 ((3 : Nat) : Int)), .p (.int .i64 (n : Int)), .p (.int .i64 (r : Int)), .p (ratsM (m 0) (lst (cntA 3 n) A)), .p (ratsM (m 1) (lst (cntB 3 n) B)), .p (ratsM (m 2) (lst (cntH 3 n r) G)), .p (ratsM (m 3) (lst (cntH 3 n r) H))], .box 189 [.p (ratsM (m 0) (lst (cntA 3 n) A)), .p (ratsM (m 1) (lst (cntB 3 n) B)), .p (ratsM (m 2) (lst (cntH 3 n r) G)), .p (ratsM (m 3) (lst (cntH 3 n r) H))]]))
        (fun i => i ≤ cntA 3 n) (fun i => cntA 3 n - i) 0 [0, 1] (Nat.zero_le _) ⟨rfl, by simp, rfl, rfl, rfl, ⟨rfl, rfl, rfl, rfl, trivial⟩, ⟨rfl, rfl, trivial⟩⟩ ?_
      intro i hi
      have hi : i ≤ cntA 3 n := hi
      have cA := cb 0
      by_cases hia : i < cntA 3 n
      · refine SCmp.yes (decide_eq_true (by omega)) ?_
        refine SIdx.rf i rfl hia ?_
        have hz := (h.bA i hia).mono (show b ≤ c by omega)
        have hc2 := none2_ok (m 1) true (A i) (lst (cntB 3 n) B) (fun j hj => by
          rw [lst_length] at hj; rw [lst_getD hj]
          have := check2_ok true (A i) (B j) hz (h.bB j hj) (by omega)
          rw [decide_eq_false (h.ne i j hia hj)] at this
          exact this) (by rw [lst_length]; exact Nat.le_trans (cb 1) (by decide))
        refine SCall.pure (pvs := [ratsM (m 1) (lst (cntB 3 n) B), .fn 189 [.pel true (ratP (A i))]]) hc2 ?_
        refine SCond.mk (fun h => by cases h) (fun _ => ?_)
        refine SWrap.i64z ((i + 1 : Nat) : Int) (by omega) (by omega) ?_
        exact ⟨i + 1, [0, 1], hia, by show cntA 3 n - (i + 1) < cntA 3 n - i; omega, ⟨rfl, by simp, rfl, rfl, rfl, ⟨rfl, rfl, rfl, rfl, trivial⟩, ⟨rfl, rfl, trivial⟩⟩⟩
      · refine SCmp.no (decide_eq_false (by omega)) ?_
        exact SRet.pure (.p _ (.int _ _))
theorem gcheck4_ok (m : Nat → Bool) (n r : Nat) (A B G H : Nat → Rat) {b c : Nat} (h : Wf ⟨4, n, r, A, B, G, H⟩ b c) : CallP Try.prog 150 [genP m ⟨4, n, r, A, B, G, H⟩] (.p (.int .i64 0)) [] := by
  have n6 : n ≤ 6 := h.n6
  have n1 : 1 ≤ n := h.n1
  have r2 : r ≤ 2 := h.r2
  have hnr : n * r ≤ 12 := Nat.mul_le_mul n6 r2
  have hc4 := h.c4
  have hbc := h.bc
  have cc := cnt_le (k := 4) (r := r) n1 (show n ≤ 8 by omega) (show r ≤ 3 by omega)
  have cb : ∀ i : Nat, (if i = 0 then cntA 4 n else if i = 1 then cntB 4 n else cntH 4 n r) ≤ 24 := fun i => by split <;> (try split) <;> omega
  show CallP Try.prog 150 [.agg [.int .i64 ((4 : Nat) : Int), .int .i64 (n : Int), .int .i64 (r : Int), ratsM (m 0) (lst (cntA 4 n) A), ratsM (m 1) (lst (cntB 4 n) B), ratsM (m 2) (lst (cntH 4 n r) G), ratsM (m 3) (lst (cntH 4 n r) H)]] (.p (.int .i64 0)) []
  refine callG_of_vc (wr := wr0) Γok mixed Try.func150 (by kernel_rfl) rfl (by kernel_rfl) (le_of_ble rfl) (by simp) ?_
  refine SCmp.no (decide_eq_false (by omega)) ?_
  refine SCmp.no (decide_eq_false (by omega)) ?_
  refine SCall.pure (sized_ok m ⟨4, n, r, A, B, G, H⟩ h) ?_
  refine SCmp.no (rfl) ?_
  refine SCall.lent [genP m ⟨4, n, r, A, B, G, H⟩] _ rfl (genrows_ok m ⟨4, n, r, A, B, G, H⟩) ?_
  refine SCall.pure (counts_ok) ?_
  refine SLoop.mk Nat (fun i => ([(1, .bptr 0 0), (3, .bptr 1 0), (4, .p (.mp false cntM)), (28, .p (.agg [ratsM (m 0) (lst (cntA 4 n) A), ratsM (m 1) (lst (cntB 4 n) B), ratsM (m 2) (lst (cntH 4 n r) G), ratsM (m 3) (lst (cntH 4 n r) H)])), (29, .p (.int .i64 i))], [.box 59 [.p (.int .i64 ((4 : Nat) : Int)), .p (.int .i64 (n : Int)), .p (.int .i64 (r : Int)), .p (ratsM (m 0) (lst (cntA 4 n) A)), .p (ratsM (m 1) (lst (cntB 4 n) B)), .p (ratsM (m 2) (lst (cntH 4 n r) G)), .p (ratsM (m 3) (lst (cntH 4 n r) H))], .box 189 [.p (ratsM (m 0) (lst (cntA 4 n) A)), .p (ratsM (m 1) (lst (cntB 4 n) B)), .p (ratsM (m 2) (lst (cntH 4 n r) G)), .p (ratsM (m 3) (lst (cntH 4 n r) H))]]))
    (fun i => i ≤ 4) (fun i => 4 - i) 0 [0, 1] (Nat.zero_le _) ⟨rfl, by simp, rfl, rfl, rfl, ⟨rfl, rfl, rfl, rfl, rfl, trivial⟩, ⟨rfl, rfl, trivial⟩⟩ ?_
  intro i hi
  have hi : i ≤ 4 := hi
  rcases (show i = 0 ∨ i = 1 ∨ i = 2 ∨ i = 3 ∨ i = 4 by omega) with rfl | rfl | rfl | rfl | rfl
  · refine SCmp.yes (rfl) ?_
    refine SIdx.mk 0 _ rfl rfl ?_
    refine SKeys.all rfl <| SGet.at 3 _ rfl rfl rfl ?_
    refine SZ.mk ((cntA 4 n : Nat) : Int) (by simp [lst]) ?_
    refine SPos.mk 0 rfl (by decide) ?_
    refine SWrap.i64z ((1 * n : Nat) : Int) (by omega) (by omega) ?_
    refine SPos.mk 1 rfl (by decide) ?_
    refine SWrap.i64z ((0 * n : Nat) : Int) (by omega) (by omega) ?_
    refine SWrap.i64z ((0 : Nat) : Int) (by simp) (by omega) ?_
    refine SWrap.i64z ((1 * n + 0 : Nat) : Int) (by omega) (by omega) ?_
    refine SPos.mk 2 rfl (by decide) ?_
    refine SWrap.i64z ((cntA 4 n : Nat) : Int) (by simp [cntA, cntB, cntH] <;> omega) (by have := cnt_le (k := 4) (r := r) n1 (show n ≤ 8 by omega) (show r ≤ 3 by omega); omega) ?_
    refine SCmp.no (neF rfl) ?_
    refine SWrap.i64z ((0 + 1 : Nat) : Int) (by omega) (by omega) ?_
    exact ⟨0 + 1, [0, 1], by decide, by decide, ⟨rfl, by simp, rfl, rfl, rfl, ⟨rfl, rfl, rfl, rfl, rfl, trivial⟩, ⟨rfl, rfl, trivial⟩⟩⟩
  · refine SCmp.yes (rfl) ?_
    refine SIdx.mk 1 _ rfl rfl ?_
    refine SKeys.all rfl <| SGet.none rfl ?_
    refine SZ.mk ((cntB 4 n : Nat) : Int) (by simp [lst]) ?_
    refine SPos.mk 0 rfl (by decide) ?_
    refine SWrap.i64z ((0 * n : Nat) : Int) (by omega) (by omega) ?_
    refine SPos.mk 1 rfl (by decide) ?_
    refine SWrap.i64z ((0 * n : Nat) : Int) (by omega) (by omega) ?_
    refine SWrap.i64z ((0 : Nat) : Int) (by simp) (by omega) ?_
    refine SWrap.i64z ((0 * n + 0 : Nat) : Int) (by omega) (by omega) ?_
    refine SPos.mk 2 rfl (by decide) ?_
    refine SWrap.i64z ((cntB 4 n : Nat) : Int) (by simp [cntA, cntB, cntH] <;> omega) (by have := cnt_le (k := 4) (r := r) n1 (show n ≤ 8 by omega) (show r ≤ 3 by omega); omega) ?_
    refine SCmp.no (neF rfl) ?_
    refine SWrap.i64z ((1 + 1 : Nat) : Int) (by omega) (by omega) ?_
    exact ⟨1 + 1, [0, 1], by decide, by decide, ⟨rfl, by simp, rfl, rfl, rfl, ⟨rfl, rfl, rfl, rfl, rfl, trivial⟩, ⟨rfl, rfl, trivial⟩⟩⟩
  · refine SCmp.yes (rfl) ?_
    refine SIdx.mk 2 _ rfl rfl ?_
    refine SKeys.all rfl <| SGet.none rfl ?_
    refine SZ.mk ((cntH 4 n r : Nat) : Int) (by simp [lst]) ?_
    refine SPos.mk 0 rfl (by decide) ?_
    refine SWrap.i64z ((0 * n : Nat) : Int) (by omega) (by omega) ?_
    refine SPos.mk 1 rfl (by decide) ?_
    refine SWrap.i64z ((0 * n : Nat) : Int) (by omega) (by omega) ?_
    refine SWrap.i64z ((0 : Nat) : Int) (by simp) (by omega) ?_
    refine SWrap.i64z ((0 * n + 0 : Nat) : Int) (by omega) (by omega) ?_
    refine SPos.mk 2 rfl (by decide) ?_
    refine SWrap.i64z ((cntH 4 n r : Nat) : Int) (by simp [cntA, cntB, cntH] <;> omega) (by have := cnt_le (k := 4) (r := r) n1 (show n ≤ 8 by omega) (show r ≤ 3 by omega); omega) ?_
    refine SCmp.no (neF rfl) ?_
    refine SWrap.i64z ((2 + 1 : Nat) : Int) (by omega) (by omega) ?_
    exact ⟨2 + 1, [0, 1], by decide, by decide, ⟨rfl, by simp, rfl, rfl, rfl, ⟨rfl, rfl, rfl, rfl, rfl, trivial⟩, ⟨rfl, rfl, trivial⟩⟩⟩
  · refine SCmp.yes (rfl) ?_
    refine SIdx.mk 3 _ rfl rfl ?_
    refine SKeys.all rfl <| SGet.none rfl ?_
    refine SZ.mk ((cntH 4 n r : Nat) : Int) (by simp [lst]) ?_
    refine SPos.mk 0 rfl (by decide) ?_
    refine SWrap.i64z ((0 * n : Nat) : Int) (by omega) (by omega) ?_
    refine SPos.mk 1 rfl (by decide) ?_
    refine SWrap.i64z ((0 * n : Nat) : Int) (by omega) (by omega) ?_
    refine SWrap.i64z ((0 : Nat) : Int) (by simp) (by omega) ?_
    refine SWrap.i64z ((0 * n + 0 : Nat) : Int) (by omega) (by omega) ?_
    refine SPos.mk 2 rfl (by decide) ?_
    refine SWrap.i64z ((cntH 4 n r : Nat) : Int) (by simp [cntA, cntB, cntH] <;> omega) (by have := cnt_le (k := 4) (r := r) n1 (show n ≤ 8 by omega) (show r ≤ 3 by omega); omega) ?_
    refine SCmp.no (neF rfl) ?_
    refine SWrap.i64z ((3 + 1 : Nat) : Int) (by omega) (by omega) ?_
    exact ⟨3 + 1, [0, 1], by decide, by decide, ⟨rfl, by simp, rfl, rfl, rfl, ⟨rfl, rfl, rfl, rfl, rfl, trivial⟩, ⟨rfl, rfl, trivial⟩⟩⟩
  · refine SCmp.no (rfl) ?_
    refine SLoop.mk Nat (fun i => ([(1, .bptr 0 0), (60, .p (.agg [ratsM (m 0) (lst (cntA 4 n) A), ratsM (m 1) (lst (cntB 4 n) B), ratsM (m 2) (lst (cntH 4 n r) G), ratsM (m 3) (lst (cntH 4 n r) H)])), (61, .p (.int .i64 i))], [.box 59 [.p (.int .i64 ((4 : Nat) : Int)), .p (.int .i64 (n : Int)), .p (.int .i64 (r : Int)), .p (ratsM (m 0) (lst (cntA 4 n) A)), .p (ratsM (m 1) (lst (cntB 4 n) B)), .p (ratsM (m 2) (lst (cntH 4 n r) G)), .p (ratsM (m 3) (lst (cntH 4 n r) H))], .box 189 [.p (ratsM (m 0) (lst (cntA 4 n) A)), .p (ratsM (m 1) (lst (cntB 4 n) B)), .p (ratsM (m 2) (lst (cntH 4 n r) G)), .p (ratsM (m 3) (lst (cntH 4 n r) H))]]))
      (fun i => i ≤ 4) (fun i => 4 - i) 0 [0, 1] (Nat.zero_le _) ⟨rfl, by simp, rfl, rfl, rfl, ⟨rfl, rfl, rfl, trivial⟩, ⟨rfl, rfl, trivial⟩⟩ ?_
    intro i hi
    have hi : i ≤ 4 := hi
    rcases (show i = 0 ∨ i = 1 ∨ i = 2 ∨ i = 3 ∨ i = 4 by omega) with rfl | rfl | rfl | rfl | rfl
    · refine SCmp.yes (rfl) ?_
      refine SIdx.mk 0 _ rfl rfl ?_
      refine SCall.pure (none1_ok (m 0) (lst (cntA 4 n) A) (fun i hi => by rw [lst_length] at hi; rw [lst_getD hi]; exact check1_ok _ ((h.bA i hi).mono (by omega))) (by rw [lst_length]; exact Nat.le_trans (cb 0) (by decide))) ?_
      refine SCond.mk (fun h => by cases h) (fun _ => ?_)
      refine SWrap.i64z ((0 + 1 : Nat) : Int) (by omega) (by omega) ?_
      exact ⟨0 + 1, [0, 1], by decide, by decide, ⟨rfl, by simp, rfl, rfl, rfl, ⟨rfl, rfl, rfl, trivial⟩, ⟨rfl, rfl, trivial⟩⟩⟩
    · refine SCmp.yes (rfl) ?_
      refine SIdx.mk 1 _ rfl rfl ?_
      refine SCall.pure (none1_ok (m 1) (lst (cntB 4 n) B) (fun i hi => by rw [lst_length] at hi; rw [lst_getD hi]; exact check1_ok _ ((h.bB i hi).mono (by omega))) (by rw [lst_length]; exact Nat.le_trans (cb 1) (by decide))) ?_
      refine SCond.mk (fun h => by cases h) (fun _ => ?_)
      refine SWrap.i64z ((1 + 1 : Nat) : Int) (by omega) (by omega) ?_
      exact ⟨1 + 1, [0, 1], by decide, by decide, ⟨rfl, by simp, rfl, rfl, rfl, ⟨rfl, rfl, rfl, trivial⟩, ⟨rfl, rfl, trivial⟩⟩⟩
    · refine SCmp.yes (rfl) ?_
      refine SIdx.mk 2 _ rfl rfl ?_
      refine SCall.pure (none1_ok (m 2) (lst (cntH 4 n r) G) (fun i hi => by rw [lst_length] at hi; rw [lst_getD hi]; exact check1_ok _ ((h.bG i hi).mono (by omega))) (by rw [lst_length]; exact Nat.le_trans (cb 2) (by decide))) ?_
      refine SCond.mk (fun h => by cases h) (fun _ => ?_)
      refine SWrap.i64z ((2 + 1 : Nat) : Int) (by omega) (by omega) ?_
      exact ⟨2 + 1, [0, 1], by decide, by decide, ⟨rfl, by simp, rfl, rfl, rfl, ⟨rfl, rfl, rfl, trivial⟩, ⟨rfl, rfl, trivial⟩⟩⟩
    · refine SCmp.yes (rfl) ?_
      refine SIdx.mk 3 _ rfl rfl ?_
      refine SCall.pure (none1_ok (m 3) (lst (cntH 4 n r) H) (fun i hi => by rw [lst_length] at hi; rw [lst_getD hi]; exact check1_ok _ ((h.bH i hi).mono (by omega))) (by rw [lst_length]; exact Nat.le_trans (cb 3) (by decide))) ?_
      refine SCond.mk (fun h => by cases h) (fun _ => ?_)
      refine SWrap.i64z ((3 + 1 : Nat) : Int) (by omega) (by omega) ?_
      exact ⟨3 + 1, [0, 1], by decide, by decide, ⟨rfl, by simp, rfl, rfl, rfl, ⟨rfl, rfl, rfl, trivial⟩, ⟨rfl, rfl, trivial⟩⟩⟩
    · refine SCmp.no (rfl) ?_
      refine SZ.mk ((cntA 4 n : Nat) : Int) (by simp [lst]) ?_
      refine SLoop.mk Nat (fun i => ([(1, .bptr 0 0), (68, .p (ratsM (m 0) (lst (cntA 4 n) A))), (69, .p (.int .i64 ((cntA 4 n : Nat) : Int))), (70, .p (.int .i64 i))], [.box 59 [.p (.int .i64 ((4 : Nat) : Int)), .p (.int .i64 (n : Int)), .p (.int .i64 (r : Int)), .p (ratsM (m 0) (lst (cntA 4 n) A)), .p (ratsM (m 1) (lst (cntB 4 n) B)), .p (ratsM (m 2) (lst (cntH 4 n r) G)), .p (ratsM (m 3) (lst (cntH 4 n r) H))], .box 189 [.p (ratsM (m 0) (lst (cntA 4 n) A)), .p (ratsM (m 1) (lst (cntB 4 n) B)), .p (ratsM (m 2) (lst (cntH 4 n r) G)), .p (ratsM (m 3) (lst (cntH 4 n r) H))]]))
        (fun i => i ≤ cntA 4 n) (fun i => cntA 4 n - i) 0 [0, 1] (Nat.zero_le _) ⟨rfl, by simp, rfl, rfl, rfl, ⟨rfl, rfl, rfl, rfl, trivial⟩, ⟨rfl, rfl, trivial⟩⟩ ?_
      intro i hi
      have hi : i ≤ cntA 4 n := hi
      have cA := cb 0
      by_cases hia : i < cntA 4 n
      · refine SCmp.yes (decide_eq_true (by omega)) ?_
        refine SIdx.rf i rfl hia ?_
        have hz := (h.bA i hia).mono (show b ≤ c by omega)
        have hc2 := none2_ok (m 1) true (A i) (lst (cntB 4 n) B) (fun j hj => by
          rw [lst_length] at hj; rw [lst_getD hj]
          have := check2_ok true (A i) (B j) hz (h.bB j hj) (by omega)
          rw [decide_eq_false (h.ne i j hia hj)] at this
          exact this) (by rw [lst_length]; exact Nat.le_trans (cb 1) (by decide))
        refine SCall.pure (pvs := [ratsM (m 1) (lst (cntB 4 n) B), .fn 189 [.pel true (ratP (A i))]]) hc2 ?_
        refine SCond.mk (fun h => by cases h) (fun _ => ?_)
        refine SWrap.i64z ((i + 1 : Nat) : Int) (by omega) (by omega) ?_
        exact ⟨i + 1, [0, 1], hia, by show cntA 4 n - (i + 1) < cntA 4 n - i; omega, ⟨rfl, by simp, rfl, rfl, rfl, ⟨rfl, rfl, rfl, rfl, trivial⟩, ⟨rfl, rfl, trivial⟩⟩⟩
      · refine SCmp.no (decide_eq_false (by omega)) ?_
        exact SRet.pure (.p _ (.int _ _))
theorem gcheck5_ok (m : Nat → Bool) (n r : Nat) (A B G H : Nat → Rat) {b c : Nat} (h : Wf ⟨5, n, r, A, B, G, H⟩ b c) : CallP Try.prog 150 [genP m ⟨5, n, r, A, B, G, H⟩] (.p (.int .i64 0)) [] := by
  have n6 : n ≤ 6 := h.n6
  have n1 : 1 ≤ n := h.n1
  have r2 : r ≤ 2 := h.r2
  have hnr : n * r ≤ 12 := Nat.mul_le_mul n6 r2
  have hc4 := h.c4
  have hbc := h.bc
  have cc := cnt_le (k := 5) (r := r) n1 (show n ≤ 8 by omega) (show r ≤ 3 by omega)
  have cb : ∀ i : Nat, (if i = 0 then cntA 5 n else if i = 1 then cntB 5 n else cntH 5 n r) ≤ 24 := fun i => by split <;> (try split) <;> omega
  show CallP Try.prog 150 [.agg [.int .i64 ((5 : Nat) : Int), .int .i64 (n : Int), .int .i64 (r : Int), ratsM (m 0) (lst (cntA 5 n) A), ratsM (m 1) (lst (cntB 5 n) B), ratsM (m 2) (lst (cntH 5 n r) G), ratsM (m 3) (lst (cntH 5 n r) H)]] (.p (.int .i64 0)) []
  refine callG_of_vc (wr := wr0) Γok mixed Try.func150 (by kernel_rfl) rfl (by kernel_rfl) (le_of_ble rfl) (by simp) ?_
  refine SCmp.no (decide_eq_false (by omega)) ?_
  refine SCmp.no (decide_eq_false (by omega)) ?_
  refine SCall.pure (sized_ok m ⟨5, n, r, A, B, G, H⟩ h) ?_
  refine SCmp.no (rfl) ?_
  refine SCall.lent [genP m ⟨5, n, r, A, B, G, H⟩] _ rfl (genrows_ok m ⟨5, n, r, A, B, G, H⟩) ?_
  refine SCall.pure (counts_ok) ?_
  refine SLoop.mk Nat (fun i => ([(1, .bptr 0 0), (3, .bptr 1 0), (4, .p (.mp false cntM)), (28, .p (.agg [ratsM (m 0) (lst (cntA 5 n) A), ratsM (m 1) (lst (cntB 5 n) B), ratsM (m 2) (lst (cntH 5 n r) G), ratsM (m 3) (lst (cntH 5 n r) H)])), (29, .p (.int .i64 i))], [.box 59 [.p (.int .i64 ((5 : Nat) : Int)), .p (.int .i64 (n : Int)), .p (.int .i64 (r : Int)), .p (ratsM (m 0) (lst (cntA 5 n) A)), .p (ratsM (m 1) (lst (cntB 5 n) B)), .p (ratsM (m 2) (lst (cntH 5 n r) G)), .p (ratsM (m 3) (lst (cntH 5 n r) H))], .box 189 [.p (ratsM (m 0) (lst (cntA 5 n) A)), .p (ratsM (m 1) (lst (cntB 5 n) B)), .p (ratsM (m 2) (lst (cntH 5 n r) G)), .p (ratsM (m 3) (lst (cntH 5 n r) H))]]))
    (fun i => i ≤ 4) (fun i => 4 - i) 0 [0, 1] (Nat.zero_le _) ⟨rfl, by simp, rfl, rfl, rfl, ⟨rfl, rfl, rfl, rfl, rfl, trivial⟩, ⟨rfl, rfl, trivial⟩⟩ ?_
  intro i hi
  have hi : i ≤ 4 := hi
  rcases (show i = 0 ∨ i = 1 ∨ i = 2 ∨ i = 3 ∨ i = 4 by omega) with rfl | rfl | rfl | rfl | rfl
  · refine SCmp.yes (rfl) ?_
    refine SIdx.mk 0 _ rfl rfl ?_
    refine SKeys.all rfl <| SGet.at 4 _ rfl rfl rfl ?_
    refine SZ.mk ((cntA 5 n : Nat) : Int) (by simp [lst]) ?_
    refine SPos.mk 0 rfl (by decide) ?_
    refine SWrap.i64z ((1 * n : Nat) : Int) (by omega) (by omega) ?_
    refine SPos.mk 1 rfl (by decide) ?_
    refine SWrap.i64z ((0 * n : Nat) : Int) (by omega) (by omega) ?_
    refine SWrap.i64z ((0 : Nat) : Int) (by simp) (by omega) ?_
    refine SWrap.i64z ((1 * n + 0 : Nat) : Int) (by omega) (by omega) ?_
    refine SPos.mk 2 rfl (by decide) ?_
    refine SWrap.i64z ((cntA 5 n : Nat) : Int) (by simp [cntA, cntB, cntH] <;> omega) (by have := cnt_le (k := 5) (r := r) n1 (show n ≤ 8 by omega) (show r ≤ 3 by omega); omega) ?_
    refine SCmp.no (neF rfl) ?_
    refine SWrap.i64z ((0 + 1 : Nat) : Int) (by omega) (by omega) ?_
    exact ⟨0 + 1, [0, 1], by decide, by decide, ⟨rfl, by simp, rfl, rfl, rfl, ⟨rfl, rfl, rfl, rfl, rfl, trivial⟩, ⟨rfl, rfl, trivial⟩⟩⟩
  · refine SCmp.yes (rfl) ?_
    refine SIdx.mk 1 _ rfl rfl ?_
    refine SKeys.all rfl <| SGet.at 5 _ rfl rfl rfl ?_
    refine SZ.mk ((cntB 5 n : Nat) : Int) (by simp [lst]) ?_
    refine SPos.mk 0 rfl (by decide) ?_
    refine SWrap.i64z ((1 * n : Nat) : Int) (by omega) (by omega) ?_
    refine SPos.mk 1 rfl (by decide) ?_
    refine SWrap.i64z ((0 * n : Nat) : Int) (by omega) (by omega) ?_
    refine SWrap.i64z ((0 : Nat) : Int) (by simp) (by omega) ?_
    refine SWrap.i64z ((1 * n + 0 : Nat) : Int) (by omega) (by omega) ?_
    refine SPos.mk 2 rfl (by decide) ?_
    refine SWrap.i64z ((cntB 5 n : Nat) : Int) (by simp [cntA, cntB, cntH] <;> omega) (by have := cnt_le (k := 5) (r := r) n1 (show n ≤ 8 by omega) (show r ≤ 3 by omega); omega) ?_
    refine SCmp.no (neF rfl) ?_
    refine SWrap.i64z ((1 + 1 : Nat) : Int) (by omega) (by omega) ?_
    exact ⟨1 + 1, [0, 1], by decide, by decide, ⟨rfl, by simp, rfl, rfl, rfl, ⟨rfl, rfl, rfl, rfl, rfl, trivial⟩, ⟨rfl, rfl, trivial⟩⟩⟩
  · refine SCmp.yes (rfl) ?_
    refine SIdx.mk 2 _ rfl rfl ?_
    refine SKeys.all rfl <| SGet.none rfl ?_
    refine SZ.mk ((cntH 5 n r : Nat) : Int) (by simp [lst]) ?_
    refine SPos.mk 0 rfl (by decide) ?_
    refine SWrap.i64z ((0 * n : Nat) : Int) (by omega) (by omega) ?_
    refine SPos.mk 1 rfl (by decide) ?_
    refine SWrap.i64z ((0 * n : Nat) : Int) (by omega) (by omega) ?_
    refine SWrap.i64z ((0 : Nat) : Int) (by simp) (by omega) ?_
    refine SWrap.i64z ((0 * n + 0 : Nat) : Int) (by omega) (by omega) ?_
    refine SPos.mk 2 rfl (by decide) ?_
    refine SWrap.i64z ((cntH 5 n r : Nat) : Int) (by simp [cntA, cntB, cntH] <;> omega) (by have := cnt_le (k := 5) (r := r) n1 (show n ≤ 8 by omega) (show r ≤ 3 by omega); omega) ?_
    refine SCmp.no (neF rfl) ?_
    refine SWrap.i64z ((2 + 1 : Nat) : Int) (by omega) (by omega) ?_
    exact ⟨2 + 1, [0, 1], by decide, by decide, ⟨rfl, by simp, rfl, rfl, rfl, ⟨rfl, rfl, rfl, rfl, rfl, trivial⟩, ⟨rfl, rfl, trivial⟩⟩⟩
  · refine SCmp.yes (rfl) ?_
    refine SIdx.mk 3 _ rfl rfl ?_
    refine SKeys.all rfl <| SGet.none rfl ?_
    refine SZ.mk ((cntH 5 n r : Nat) : Int) (by simp [lst]) ?_
    refine SPos.mk 0 rfl (by decide) ?_
    refine SWrap.i64z ((0 * n : Nat) : Int) (by omega) (by omega) ?_
    refine SPos.mk 1 rfl (by decide) ?_
    refine SWrap.i64z ((0 * n : Nat) : Int) (by omega) (by omega) ?_
    refine SWrap.i64z ((0 : Nat) : Int) (by simp) (by omega) ?_
    refine SWrap.i64z ((0 * n + 0 : Nat) : Int) (by omega) (by omega) ?_
    refine SPos.mk 2 rfl (by decide) ?_
    refine SWrap.i64z ((cntH 5 n r : Nat) : Int) (by simp [cntA, cntB, cntH] <;> omega) (by have := cnt_le (k := 5) (r := r) n1 (show n ≤ 8 by omega) (show r ≤ 3 by omega); omega) ?_
    refine SCmp.no (neF rfl) ?_
    refine SWrap.i64z ((3 + 1 : Nat) : Int) (by omega) (by omega) ?_
    exact ⟨3 + 1, [0, 1], by decide, by decide, ⟨rfl, by simp, rfl, rfl, rfl, ⟨rfl, rfl, rfl, rfl, rfl, trivial⟩, ⟨rfl, rfl, trivial⟩⟩⟩
  · refine SCmp.no (rfl) ?_
    refine SLoop.mk Nat (fun i => ([(1, .bptr 0 0), (60, .p (.agg [ratsM (m 0) (lst (cntA 5 n) A), ratsM (m 1) (lst (cntB 5 n) B), ratsM (m 2) (lst (cntH 5 n r) G), ratsM (m 3) (lst (cntH 5 n r) H)])), (61, .p (.int .i64 i))], [.box 59 [.p (.int .i64 ((5 : Nat) : Int)), .p (.int .i64 (n : Int)), .p (.int .i64 (r : Int)), .p (ratsM (m 0) (lst (cntA 5 n) A)), .p (ratsM (m 1) (lst (cntB 5 n) B)), .p (ratsM (m 2) (lst (cntH 5 n r) G)), .p (ratsM (m 3) (lst (cntH 5 n r) H))], .box 189 [.p (ratsM (m 0) (lst (cntA 5 n) A)), .p (ratsM (m 1) (lst (cntB 5 n) B)), .p (ratsM (m 2) (lst (cntH 5 n r) G)), .p (ratsM (m 3) (lst (cntH 5 n r) H))]]))
      (fun i => i ≤ 4) (fun i => 4 - i) 0 [0, 1] (Nat.zero_le _) ⟨rfl, by simp, rfl, rfl, rfl, ⟨rfl, rfl, rfl, trivial⟩, ⟨rfl, rfl, trivial⟩⟩ ?_
    intro i hi
    have hi : i ≤ 4 := hi
    rcases (show i = 0 ∨ i = 1 ∨ i = 2 ∨ i = 3 ∨ i = 4 by omega) with rfl | rfl | rfl | rfl | rfl
    · refine SCmp.yes (rfl) ?_
      refine SIdx.mk 0 _ rfl rfl ?_
      refine SCall.pure (none1_ok (m 0) (lst (cntA 5 n) A) (fun i hi => by rw [lst_length] at hi; rw [lst_getD hi]; exact check1_ok _ ((h.bA i hi).mono (by omega))) (by rw [lst_length]; exact Nat.le_trans (cb 0) (by decide))) ?_
      refine SCond.mk (fun h => by cases h) (fun _ => ?_)
      refine SWrap.i64z ((0 + 1 : Nat) : Int) (by omega) (by omega) ?_
      exact ⟨0 + 1, [0, 1], by decide, by decide, ⟨rfl, by simp, rfl, rfl, rfl, ⟨rfl, rfl, rfl, trivial⟩, ⟨rfl, rfl, trivial⟩⟩⟩
    · refine SCmp.yes (rfl) ?_
      refine SIdx.mk 1 _ rfl rfl ?_
      refine SCall.pure (none1_ok (m 1) (lst (cntB 5 n) B) (fun i hi => by rw [lst_length] at hi; rw [lst_getD hi]; exact check1_ok _ ((h.bB i hi).mono (by omega))) (by rw [lst_length]; exact Nat.le_trans (cb 1) (by decide))) ?_
      refine SCond.mk (fun h => by cases h) (fun _ => ?_)
      refine SWrap.i64z ((1 + 1 : Nat) : Int) (by omega) (by omega) ?_
      exact ⟨1 + 1, [0, 1], by decide, by decide, ⟨rfl, by simp, rfl, rfl, rfl, ⟨rfl, rfl, rfl, trivial⟩, ⟨rfl, rfl, trivial⟩⟩⟩
    · refine SCmp.yes (rfl) ?_
      refine SIdx.mk 2 _ rfl rfl ?_
      refine SCall.pure (none1_ok (m 2) (lst (cntH 5 n r) G) (fun i hi => by rw [lst_length] at hi; rw [lst_getD hi]; exact check1_ok _ ((h.bG i hi).mono (by omega))) (by rw [lst_length]; exact Nat.le_trans (cb 2) (by decide))) ?_
      refine SCond.mk (fun h => by cases h) (fun _ => ?_)
      refine SWrap.i64z ((2 + 1 : Nat) : Int) (by omega) (by omega) ?_
      exact ⟨2 + 1, [0, 1], by decide, by decide, ⟨rfl, by simp, rfl, rfl, rfl, ⟨rfl, rfl, rfl, trivial⟩, ⟨rfl, rfl, trivial⟩⟩⟩
    · refine SCmp.yes (rfl) ?_
      refine SIdx.mk 3 _ rfl rfl ?_
      refine SCall.pure (none1_ok (m 3) (lst (cntH 5 n r) H) (fun i hi => by rw [lst_length] at hi; rw [lst_getD hi]; exact check1_ok _ ((h.bH i hi).mono (by omega))) (by rw [lst_length]; exact Nat.le_trans (cb 3) (by decide))) ?_
      refine SCond.mk (fun h => by cases h) (fun _ => ?_)
      refine SWrap.i64z ((3 + 1 : Nat) : Int) (by omega) (by omega) ?_
      exact ⟨3 + 1, [0, 1], by decide, by decide, ⟨rfl, by simp, rfl, rfl, rfl, ⟨rfl, rfl, rfl, trivial⟩, ⟨rfl, rfl, trivial⟩⟩⟩
    · refine SCmp.no (rfl) ?_
      refine SZ.mk ((cntA 5 n : Nat) : Int) (by simp [lst]) ?_
      refine SLoop.mk Nat (fun i => ([(1, .bptr 0 0), (68, .p (ratsM (m 0) (lst (cntA 5 n) A))), (69, .p (.int .i64 ((cntA 5 n : Nat) : Int))), (70, .p (.int .i64 i))], [.box 59 [.p (.int .i64 ((5 : Nat) : Int)), .p (.int .i64 (n : Int)), .p (.int .i64 (r : Int)), .p (ratsM (m 0) (lst (cntA 5 n) A)), .p (ratsM (m 1) (lst (cntB 5 n) B)), .p (ratsM (m 2) (lst (cntH 5 n r) G)), .p (ratsM (m 3) (lst (cntH 5 n r) H))], .box 189 [.p (ratsM (m 0) (lst (cntA 5 n) A)), .p (ratsM (m 1) (lst (cntB 5 n) B)), .p (ratsM (m 2) (lst (cntH 5 n r) G)), .p (ratsM (m 3) (lst (cntH 5 n r) H))]]))
        (fun i => i ≤ cntA 5 n) (fun i => cntA 5 n - i) 0 [0, 1] (Nat.zero_le _) ⟨rfl, by simp, rfl, rfl, rfl, ⟨rfl, rfl, rfl, rfl, trivial⟩, ⟨rfl, rfl, trivial⟩⟩ ?_
      intro i hi
      have hi : i ≤ cntA 5 n := hi
      have cA := cb 0
      by_cases hia : i < cntA 5 n
      · refine SCmp.yes (decide_eq_true (by omega)) ?_
        refine SIdx.rf i rfl hia ?_
        have hz := (h.bA i hia).mono (show b ≤ c by omega)
        have hc2 := none2_ok (m 1) true (A i) (lst (cntB 5 n) B) (fun j hj => by
          rw [lst_length] at hj; rw [lst_getD hj]
          have := check2_ok true (A i) (B j) hz (h.bB j hj) (by omega)
          rw [decide_eq_false (h.ne i j hia hj)] at this
          exact this) (by rw [lst_length]; exact Nat.le_trans (cb 1) (by decide))
        refine SCall.pure (pvs := [ratsM (m 1) (lst (cntB 5 n) B), .fn 189 [.pel true (ratP (A i))]]) hc2 ?_
        refine SCond.mk (fun h => by cases h) (fun _ => ?_)
        refine SWrap.i64z ((i + 1 : Nat) : Int) (by omega) (by omega) ?_
        exact ⟨i + 1, [0, 1], hia, by show cntA 5 n - (i + 1) < cntA 5 n - i; omega, ⟨rfl, by simp, rfl, rfl, rfl, ⟨rfl, rfl, rfl, rfl, trivial⟩, ⟨rfl, rfl, trivial⟩⟩⟩
      · refine SCmp.no (decide_eq_false (by omega)) ?_
        exact SRet.pure (.p _ (.int _ _))
theorem gcheck6_ok (m : Nat → Bool) (n r : Nat) (A B G H : Nat → Rat) {b c : Nat} (h : Wf ⟨6, n, r, A, B, G, H⟩ b c) : CallP Try.prog 150 [genP m ⟨6, n, r, A, B, G, H⟩] (.p (.int .i64 0)) [] := by
  have n6 : n ≤ 6 := h.n6
  have n1 : 1 ≤ n := h.n1
  have r2 : r ≤ 2 := h.r2
  have hnr : n * r ≤ 12 := Nat.mul_le_mul n6 r2
  have hc4 := h.c4
  have hbc := h.bc
  have cc := cnt_le (k := 6) (r := r) n1 (show n ≤ 8 by omega) (show r ≤ 3 by omega)
  have cb : ∀ i : Nat, (if i = 0 then cntA 6 n else if i = 1 then cntB 6 n else cntH 6 n r) ≤ 24 := fun i => by split <;> (try split) <;> omega
  show CallP Try.prog 150 [.agg [.int .i64 ((6 : Nat) : Int), .int .i64 (n : Int), .int .i64 (r : Int), ratsM (m 0) (lst (cntA 6 n) A), ratsM (m 1) (lst (cntB 6 n) B), ratsM (m 2) (lst (cntH 6 n r) G), ratsM (m 3) (lst (cntH 6 n r) H)]] (.p (.int .i64 0)) []
  refine callG_of_vc (wr := wr0) Γok mixed Try.func150 (by kernel_rfl) rfl (by kernel_rfl) (le_of_ble rfl) (by simp) ?_
  refine SCmp.no (decide_eq_false (by omega)) ?_
  refine SCmp.no (decide_eq_false (by omega)) ?_
  refine SCall.pure (sized_ok m ⟨6, n, r, A, B, G, H⟩ h) ?_
  refine SCmp.no (rfl) ?_
  refine SCall.lent [genP m ⟨6, n, r, A, B, G, H⟩] _ rfl (genrows_ok m ⟨6, n, r, A, B, G, H⟩) ?_
  refine SCall.pure (counts_ok) ?_
  refine SLoop.mk Nat (fun i => ([(1, .bptr 0 0), (3, .bptr 1 0), (4, .p (.mp false cntM)), (28, .p (.agg [ratsM (m 0) (lst (cntA 6 n) A), ratsM (m 1) (lst (cntB 6 n) B), ratsM (m 2) (lst (cntH 6 n r) G), ratsM (m 3) (lst (cntH 6 n r) H)])), (29, .p (.int .i64 i))], [.box 59 [.p (.int .i64 ((6 : Nat) : Int)), .p (.int .i64 (n : Int)), .p (.int .i64 (r : Int)), .p (ratsM (m 0) (lst (cntA 6 n) A)), .p (ratsM (m 1) (lst (cntB 6 n) B)), .p (ratsM (m 2) (lst (cntH 6 n r) G)), .p (ratsM (m 3) (lst (cntH 6 n r) H))], .box 189 [.p (ratsM (m 0) (lst (cntA 6 n) A)), .p (ratsM (m 1) (lst (cntB 6 n) B)), .p (ratsM (m 2) (lst (cntH 6 n r) G)), .p (ratsM (m 3) (lst (cntH 6 n r) H))]]))
    (fun i => i ≤ 4) (fun i => 4 - i) 0 [0, 1] (Nat.zero_le _) ⟨rfl, by simp, rfl, rfl, rfl, ⟨rfl, rfl, rfl, rfl, rfl, trivial⟩, ⟨rfl, rfl, trivial⟩⟩ ?_
  intro i hi
  have hi : i ≤ 4 := hi
  rcases (show i = 0 ∨ i = 1 ∨ i = 2 ∨ i = 3 ∨ i = 4 by omega) with rfl | rfl | rfl | rfl | rfl
  · refine SCmp.yes (rfl) ?_
    refine SIdx.mk 0 _ rfl rfl ?_
    refine SKeys.all rfl <| SGet.none rfl ?_
    refine SZ.mk ((cntA 6 n : Nat) : Int) (by simp [lst]) ?_
    refine SPos.mk 0 rfl (by decide) ?_
    refine SWrap.i64z ((0 * n : Nat) : Int) (by omega) (by omega) ?_
    refine SPos.mk 1 rfl (by decide) ?_
    refine SWrap.i64z ((0 * n : Nat) : Int) (by omega) (by omega) ?_
    refine SWrap.i64z ((0 : Nat) : Int) (by simp) (by omega) ?_
    refine SWrap.i64z ((0 * n + 0 : Nat) : Int) (by omega) (by omega) ?_
    refine SPos.mk 2 rfl (by decide) ?_
    refine SWrap.i64z ((cntA 6 n : Nat) : Int) (by simp [cntA, cntB, cntH] <;> omega) (by have := cnt_le (k := 6) (r := r) n1 (show n ≤ 8 by omega) (show r ≤ 3 by omega); omega) ?_
    refine SCmp.no (neF rfl) ?_
    refine SWrap.i64z ((0 + 1 : Nat) : Int) (by omega) (by omega) ?_
    exact ⟨0 + 1, [0, 1], by decide, by decide, ⟨rfl, by simp, rfl, rfl, rfl, ⟨rfl, rfl, rfl, rfl, rfl, trivial⟩, ⟨rfl, rfl, trivial⟩⟩⟩
  · refine SCmp.yes (rfl) ?_
    refine SIdx.mk 1 _ rfl rfl ?_
    refine SKeys.all rfl <| SGet.none rfl ?_
    refine SZ.mk ((cntB 6 n : Nat) : Int) (by simp [lst]) ?_
    refine SPos.mk 0 rfl (by decide) ?_
    refine SWrap.i64z ((0 * n : Nat) : Int) (by omega) (by omega) ?_
    refine SPos.mk 1 rfl (by decide) ?_
    refine SWrap.i64z ((0 * n : Nat) : Int) (by omega) (by omega) ?_
    refine SWrap.i64z ((0 : Nat) : Int) (by simp) (by omega) ?_
    refine SWrap.i64z ((0 * n + 0 : Nat) : Int) (by omega) (by omega) ?_
    refine SPos.mk 2 rfl (by decide) ?_
    refine SWrap.i64z ((cntB 6 n : Nat) : Int) (by simp [cntA, cntB, cntH] <;> omega) (by have := cnt_le (k := 6) (r := r) n1 (show n ≤ 8 by omega) (show r ≤ 3 by omega); omega) ?_
    refine SCmp.no (neF rfl) ?_
    refine SWrap.i64z ((1 + 1 : Nat) : Int) (by omega) (by omega) ?_
    exact ⟨1 + 1, [0, 1], by decide, by decide, ⟨rfl, by simp, rfl, rfl, rfl, ⟨rfl, rfl, rfl, rfl, rfl, trivial⟩, ⟨rfl, rfl, trivial⟩⟩⟩
  · refine SCmp.yes (rfl) ?_
    refine SIdx.mk 2 _ rfl rfl ?_
    refine SKeys.all rfl <| SGet.at 6 _ rfl rfl rfl ?_
    refine SZ.mk ((cntH 6 n r : Nat) : Int) (by simp [lst]) ?_
    refine SPos.mk 0 rfl (by decide) ?_
    refine SWrap.i64z ((0 * n : Nat) : Int) (by omega) (by omega) ?_
    refine SPos.mk 1 rfl (by decide) ?_
    refine SWrap.i64z ((1 * n : Nat) : Int) (by omega) (by omega) ?_
    refine SWrap.i64z ((n * r : Nat) : Int) (by rw [Int.natCast_mul]; simp) (by omega) ?_
    refine SWrap.i64z ((0 * n + n * r : Nat) : Int) (by omega) (by omega) ?_
    refine SPos.mk 2 rfl (by decide) ?_
    refine SWrap.i64z ((cntH 6 n r : Nat) : Int) (by simp [cntA, cntB, cntH] <;> omega) (by have := cnt_le (k := 6) (r := r) n1 (show n ≤ 8 by omega) (show r ≤ 3 by omega); omega) ?_
    refine SCmp.no (neF rfl) ?_
    refine SWrap.i64z ((2 + 1 : Nat) : Int) (by omega) (by omega) ?_
    exact ⟨2 + 1, [0, 1], by decide, by decide, ⟨rfl, by simp, rfl, rfl, rfl, ⟨rfl, rfl, rfl, rfl, rfl, trivial⟩, ⟨rfl, rfl, trivial⟩⟩⟩
  · refine SCmp.yes (rfl) ?_
    refine SIdx.mk 3 _ rfl rfl ?_
    refine SKeys.all rfl <| SGet.at 7 _ rfl rfl rfl ?_
    refine SZ.mk ((cntH 6 n r : Nat) : Int) (by simp [lst]) ?_
    refine SPos.mk 0 rfl (by decide) ?_
    refine SWrap.i64z ((0 * n : Nat) : Int) (by omega) (by omega) ?_
    refine SPos.mk 1 rfl (by decide) ?_
    refine SWrap.i64z ((1 * n : Nat) : Int) (by omega) (by omega) ?_
    refine SWrap.i64z ((n * r : Nat) : Int) (by rw [Int.natCast_mul]; simp) (by omega) ?_
    refine SWrap.i64z ((0 * n + n * r : Nat) : Int) (by omega) (by omega) ?_
    refine SPos.mk 2 rfl (by decide) ?_
    refine SWrap.i64z ((cntH 6 n r : Nat) : Int) (by simp [cntA, cntB, cntH] <;> omega) (by have := cnt_le (k := 6) (r := r) n1 (show n ≤ 8 by omega) (show r ≤ 3 by omega); omega) ?_
    refine SCmp.no (neF rfl) ?_
    refine SWrap.i64z ((3 + 1 : Nat) : Int) (by omega) (by omega) ?_
    exact ⟨3 + 1, [0, 1], by decide, by decide, ⟨rfl, by simp, rfl, rfl, rfl, ⟨rfl, rfl, rfl, rfl, rfl, trivial⟩, ⟨rfl, rfl, trivial⟩⟩⟩
  · refine SCmp.no (rfl) ?_
    refine SLoop.mk Nat (fun i => ([(1, .bptr 0 0), (60, .p (.agg [ratsM (m 0) (lst (cntA 6 n) A), ratsM (m 1) (lst (cntB 6 n) B), ratsM (m 2) (lst (cntH 6 n r) G), ratsM (m 3) (lst (cntH 6 n r) H)])), (61, .p (.int .i64 i))], [.box 59 [.p (.int .i64 ((6 : Nat) : Int)), .p (.int .i64 (n : Int)), .p (.int .i64 (r : Int)), .p (ratsM (m 0) (lst (cntA 6 n) A)), .p (ratsM (m 1) (lst (cntB 6 n) B)), .p (ratsM (m 2) (lst (cntH 6 n r) G)), .p (ratsM (m 3) (lst (cntH 6 n r) H))], .box 189 [.p (ratsM (m 0) (lst (cntA 6 n) A)), .p (ratsM (m 1) (lst (cntB 6 n) B)), .p (ratsM (m 2) (lst (cntH 6 n r) G)), .p (ratsM (m 3) (lst (cntH 6 n r) H))]]))
      (fun i => i ≤ 4) (fun i => 4 - i) 0 [0, 1] (Nat.zero_le _) ⟨rfl, by simp, rfl, rfl, rfl, ⟨rfl, rfl, rfl, trivial⟩, ⟨rfl, rfl, trivial⟩⟩ ?_
    intro i hi
    have hi : i ≤ 4 := hi
    rcases (show i = 0 ∨ i = 1 ∨ i = 2 ∨ i = 3 ∨ i = 4 by omega) with rfl | rfl | rfl | rfl | rfl
    · refine SCmp.yes (rfl) ?_
      refine SIdx.mk 0 _ rfl rfl ?_
      refine SCall.pure (none1_ok (m 0) (lst (cntA 6 n) A) (fun i hi => by rw [lst_length] at hi; rw [lst_getD hi]; exact check1_ok _ ((h.bA i hi).mono (by omega))) (by rw [lst_length]; exact Nat.le_trans (cb 0) (by decide))) ?_
      refine SCond.mk (fun h => by cases h) (fun _ => ?_)
      refine SWrap.i64z ((0 + 1 : Nat) : Int) (by omega) (by omega) ?_
      exact ⟨0 + 1, [0, 1], by decide, by decide, ⟨rfl, by simp, rfl, rfl, rfl, ⟨rfl, rfl, rfl, trivial⟩, ⟨rfl, rfl, trivial⟩⟩⟩
    · refine SCmp.yes (rfl) ?_
      refine SIdx.mk 1 _ rfl rfl ?_
      refine SCall.pure (none1_ok (m 1) (lst (cntB 6 n) B) (fun i hi => by rw [lst_length] at hi; rw [lst_getD hi]; exact check1_ok _ ((h.bB i hi).mono (by omega))) (by rw [lst_length]; exact Nat.le_trans (cb 1) (by decide))) ?_
      refine SCond.mk (fun h => by cases h) (fun _ => ?_)
      refine SWrap.i64z ((1 + 1 : Nat) : Int) (by omega) (by omega) ?_
      exact ⟨1 + 1, [0, 1], by decide, by decide, ⟨rfl, by simp, rfl, rfl, rfl, ⟨rfl, rfl, rfl, trivial⟩, ⟨rfl, rfl, trivial⟩⟩⟩
    · refine SCmp.yes (rfl) ?_
      refine SIdx.mk 2 _ rfl rfl ?_
      refine SCall.pure (none1_ok (m 2) (lst (cntH 6 n r) G) (fun i hi => by rw [lst_length] at hi; rw [lst_getD hi]; exact check1_ok _ ((h.bG i hi).mono (by omega))) (by rw [lst_length]; exact Nat.le_trans (cb 2) (by decide))) ?_
      refine SCond.mk (fun h => by cases h) (fun _ => ?_)
      refine SWrap.i64z ((2 + 1 : Nat) : Int) (by omega) (by omega) ?_
      exact ⟨2 + 1, [0, 1], by decide, by decide, ⟨rfl, by simp, rfl, rfl, rfl, ⟨rfl, rfl, rfl, trivial⟩, ⟨rfl, rfl, trivial⟩⟩⟩
    · refine SCmp.yes (rfl) ?_
      refine SIdx.mk 3 _ rfl rfl ?_
      refine SCall.pure (none1_ok (m 3) (lst (cntH 6 n r) H) (fun i hi => by rw [lst_length] at hi; rw [lst_getD hi]; exact check1_ok _ ((h.bH i hi).mono (by omega))) (by rw [lst_length]; exact Nat.le_trans (cb 3) (by decide))) ?_
      refine SCond.mk (fun h => by cases h) (fun _ => ?_)
      refine SWrap.i64z ((3 + 1 : Nat) : Int) (by omega) (by omega) ?_
      exact ⟨3 + 1, [0, 1], by decide, by decide, ⟨rfl, by simp, rfl, rfl, rfl, ⟨rfl, rfl, rfl, trivial⟩, ⟨rfl, rfl, trivial⟩⟩⟩
    · refine SCmp.no (rfl) ?_
      refine SZ.mk ((cntA 6 n : Nat) : Int) (by simp [lst]) ?_
      refine SLoop.mk Nat (fun i => ([(1, .bptr 0 0), (68, .p (ratsM (m 0) (lst (cntA 6 n) A))), (69, .p (.int .i64 ((cntA 6 n : Nat) : Int))), (70, .p (.int .i64 i))], [.box 59 [.p (.int .i64 ((6 : Nat) : Int)), .p (.int .i64 (n : Int)), .p (.int .i64 (r : Int)), .p (ratsM (m 0) (lst (cntA 6 n) A)), .p (ratsM (m 1) (lst (cntB 6 n) B)), .p (ratsM (m 2) (lst (cntH 6 n r) G)), .p (ratsM (m 3) (lst (cntH 6 n r) H))], .box 189 [.p (ratsM (m 0) (lst (cntA 6 n) A)), .p (ratsM (m 1) (lst (cntB 6 n) B)), .p (ratsM (m 2) (lst (cntH 6 n r) G)), .p (ratsM (m 3) (lst (cntH 6 n r) H))]]))
        (fun i => i ≤ cntA 6 n) (fun i => cntA 6 n - i) 0 [0, 1] (Nat.zero_le _) ⟨rfl, by simp, rfl, rfl, rfl, ⟨rfl, rfl, rfl, rfl, trivial⟩, ⟨rfl, rfl, trivial⟩⟩ ?_
      intro i hi
      have hi : i ≤ cntA 6 n := hi
      have cA := cb 0
      by_cases hia : i < cntA 6 n
      · refine SCmp.yes (decide_eq_true (by omega)) ?_
        refine SIdx.rf i rfl hia ?_
        have hz := (h.bA i hia).mono (show b ≤ c by omega)
        have hc2 := none2_ok (m 1) true (A i) (lst (cntB 6 n) B) (fun j hj => by
          rw [lst_length] at hj; rw [lst_getD hj]
          have := check2_ok true (A i) (B j) hz (h.bB j hj) (by omega)
          rw [decide_eq_false (h.ne i j hia hj)] at this
          exact this) (by rw [lst_length]; exact Nat.le_trans (cb 1) (by decide))
        refine SCall.pure (pvs := [ratsM (m 1) (lst (cntB 6 n) B), .fn 189 [.pel true (ratP (A i))]]) hc2 ?_
        refine SCond.mk (fun h => by cases h) (fun _ => ?_)
        refine SWrap.i64z ((i + 1 : Nat) : Int) (by omega) (by omega) ?_
        exact ⟨i + 1, [0, 1], hia, by show cntA 6 n - (i + 1) < cntA 6 n - i; omega, ⟨rfl, by simp, rfl, rfl, rfl, ⟨rfl, rfl, rfl, rfl, trivial⟩, ⟨rfl, rfl, trivial⟩⟩⟩
      · refine SCmp.no (decide_eq_false (by omega)) ?_
        exact SRet.pure (.p _ (.int _ _))
theorem gcheck7_ok (m : Nat → Bool) (n r : Nat) (A B G H : Nat → Rat) {b c : Nat} (h : Wf ⟨7, n, r, A, B, G, H⟩ b c) : CallP Try.prog 150 [genP m ⟨7, n, r, A, B, G, H⟩] (.p (.int .i64 0)) [] := by
  have n6 : n ≤ 6 := h.n6
  have n1 : 1 ≤ n := h.n1
  have r2 : r ≤ 2 := h.r2
  have hnr : n * r ≤ 12 := Nat.mul_le_mul n6 r2
  have hc4 := h.c4
  have hbc := h.bc
  have cc := cnt_le (k := 7) (r := r) n1 (show n ≤ 8 by omega) (show r ≤ 3 by omega)
  have cb : ∀ i : Nat, (if i = 0 then cntA 7 n else if i = 1 then cntB 7 n else cntH 7 n r) ≤ 24 := fun i => by split <;> (try split) <;> omega
  show CallP Try.prog 150 [.agg [.int .i64 ((7 : Nat) : Int), .int .i64 (n : Int), .int .i64 (r : Int), ratsM (m 0) (lst (cntA 7 n) A), ratsM (m 1) (lst (cntB 7 n) B), ratsM (m 2) (lst (cntH 7 n r) G), ratsM (m 3) (lst (cntH 7 n r) H)]] (.p (.int .i64 0)) []
  refine callG_of_vc (wr := wr0) Γok mixed Try.func150 (by kernel_rfl) rfl (by kernel_rfl) (le_of_ble rfl) (by simp) ?_
  refine SCmp.no (decide_eq_false (by omega)) ?_
  refine SCmp.no (decide_eq_false (by omega)) ?_
  refine SCall.pure (sized_ok m ⟨7, n, r, A, B, G, H⟩ h) ?_
  refine SCmp.no (rfl) ?_
  refine SCall.lent [genP m ⟨7, n, r, A, B, G, H⟩] _ rfl (genrows_ok m ⟨7, n, r, A, B, G, H⟩) ?_
  refine SCall.pure (counts_ok) ?_
  refine SLoop.mk Nat (fun i => ([(1, .bptr 0 0), (3, .bptr 1 0), (4, .p (.mp false cntM)), (28, .p (.agg [ratsM (m 0) (lst (cntA 7 n) A), ratsM (m 1) (lst (cntB 7 n) B), ratsM (m 2) (lst (cntH 7 n r) G), ratsM (m 3) (lst (cntH 7 n r) H)])), (29, .p (.int .i64 i))], [.box 59 [.p (.int .i64 ((7 : Nat) : Int)), .p (.int .i64 (n : Int)), .p (.int .i64 (r : Int)), .p (ratsM (m 0) (lst (cntA 7 n) A)), .p (ratsM (m 1) (lst (cntB 7 n) B)), .p (ratsM (m 2) (lst (cntH 7 n r) G)), .p (ratsM (m 3) (lst (cntH 7 n r) H))], .box 189 [.p (ratsM (m 0) (lst (cntA 7 n) A)), .p (ratsM (m 1) (lst (cntB 7 n) B)), .p (ratsM (m 2) (lst (cntH 7 n r) G)), .p (ratsM (m 3) (lst (cntH 7 n r) H))]]))
    (fun i => i ≤ 4) (fun i => 4 - i) 0 [0, 1] (Nat.zero_le _) ⟨rfl, by simp, rfl, rfl, rfl, ⟨rfl, rfl, rfl, rfl, rfl, trivial⟩, ⟨rfl, rfl, trivial⟩⟩ ?_
  intro i hi
  have hi : i ≤ 4 := hi
  rcases (show i = 0 ∨ i = 1 ∨ i = 2 ∨ i = 3 ∨ i = 4 by omega) with rfl | rfl | rfl | rfl | rfl
  · refine SCmp.yes (rfl) ?_
    refine SIdx.mk 0 _ rfl rfl ?_
    refine SKeys.all rfl <| SGet.at 8 _ rfl rfl rfl ?_
    refine SZ.mk ((cntA 7 n : Nat) : Int) (by simp [lst]) ?_
    refine SPos.mk 0 rfl (by decide) ?_
    refine SWrap.i64z ((1 * n : Nat) : Int) (by omega) (by omega) ?_
    refine SPos.mk 1 rfl (by decide) ?_
    refine SWrap.i64z ((0 * n : Nat) : Int) (by omega) (by omega) ?_
    refine SWrap.i64z ((0 : Nat) : Int) (by simp) (by omega) ?_
    refine SWrap.i64z ((1 * n + 0 : Nat) : Int) (by omega) (by omega) ?_
    refine SPos.mk 2 rfl (by decide) ?_
    refine SWrap.i64z ((cntA 7 n : Nat) : Int) (by simp [cntA, cntB, cntH] <;> omega) (by have := cnt_le (k := 7) (r := r) n1 (show n ≤ 8 by omega) (show r ≤ 3 by omega); omega) ?_
    refine SCmp.no (neF rfl) ?_
    refine SWrap.i64z ((0 + 1 : Nat) : Int) (by omega) (by omega) ?_
    exact ⟨0 + 1, [0, 1], by decide, by decide, ⟨rfl, by simp, rfl, rfl, rfl, ⟨rfl, rfl, rfl, rfl, rfl, trivial⟩, ⟨rfl, rfl, trivial⟩⟩⟩
  · refine SCmp.yes (rfl) ?_
    refine SIdx.mk 1 _ rfl rfl ?_
    refine SKeys.all rfl <| SGet.at 9 _ rfl rfl rfl ?_
    refine SZ.mk ((cntB 7 n : Nat) : Int) (by simp [lst]) ?_
    refine SPos.mk 0 rfl (by decide) ?_
    refine SWrap.i64z ((1 * n : Nat) : Int) (by omega) (by omega) ?_
    refine SPos.mk 1 rfl (by decide) ?_
    refine SWrap.i64z ((0 * n : Nat) : Int) (by omega) (by omega) ?_
    refine SWrap.i64z ((0 : Nat) : Int) (by simp) (by omega) ?_
    refine SWrap.i64z ((1 * n + 0 : Nat) : Int) (by omega) (by omega) ?_
    refine SPos.mk 2 rfl (by decide) ?_
    refine SWrap.i64z ((cntB 7 n : Nat) : Int) (by simp [cntA, cntB, cntH] <;> omega) (by have := cnt_le (k := 7) (r := r) n1 (show n ≤ 8 by omega) (show r ≤ 3 by omega); omega) ?_
    refine SCmp.no (neF rfl) ?_
    refine SWrap.i64z ((1 + 1 : Nat) : Int) (by omega) (by omega) ?_
    exact ⟨1 + 1, [0, 1], by decide, by decide, ⟨rfl, by simp, rfl, rfl, rfl, ⟨rfl, rfl, rfl, rfl, rfl, trivial⟩, ⟨rfl, rfl, trivial⟩⟩⟩
  · refine SCmp.yes (rfl) ?_
    refine SIdx.mk 2 _ rfl rfl ?_
    refine SKeys.all rfl <| SGet.at 10 _ rfl rfl rfl ?_
    refine SZ.mk ((cntH 7 n r : Nat) : Int) (by simp [lst]) ?_
    refine SPos.mk 0 rfl (by decide) ?_
    refine SWrap.i64z ((0 * n : Nat) : Int) (by omega) (by omega) ?_
    refine SPos.mk 1 rfl (by decide) ?_
    refine SWrap.i64z ((1 * n : Nat) : Int) (by omega) (by omega) ?_
    refine SWrap.i64z ((n * r : Nat) : Int) (by rw [Int.natCast_mul]; simp) (by omega) ?_
    refine SWrap.i64z ((0 * n + n * r : Nat) : Int) (by omega) (by omega) ?_
    refine SPos.mk 2 rfl (by decide) ?_
    refine SWrap.i64z ((cntH 7 n r : Nat) : Int) (by simp [cntA, cntB, cntH] <;> omega) (by have := cnt_le (k := 7) (r := r) n1 (show n ≤ 8 by omega) (show r ≤ 3 by omega); omega) ?_
    refine SCmp.no (neF rfl) ?_
    refine SWrap.i64z ((2 + 1 : Nat) : Int) (by omega) (by omega) ?_
    exact ⟨2 + 1, [0, 1], by decide, by decide, ⟨rfl, by simp, rfl, rfl, rfl, ⟨rfl, rfl, rfl, rfl, rfl, trivial⟩, ⟨rfl, rfl, trivial⟩⟩⟩
  · refine SCmp.yes (rfl) ?_
    refine SIdx.mk 3 _ rfl rfl ?_
    refine SKeys.all rfl <| SGet.at 11 _ rfl rfl rfl ?_
    refine SZ.mk ((cntH 7 n r : Nat) : Int) (by simp [lst]) ?_
    refine SPos.mk 0 rfl (by decide) ?_
    refine SWrap.i64z ((0 * n : Nat) : Int) (by omega) (by omega) ?_
    refine SPos.mk 1 rfl (by decide) ?_
    refine SWrap.i64z ((1 * n : Nat) : Int) (by omega) (by omega) ?_
    refine SWrap.i64z ((n * r : Nat) : Int) (by rw [Int.natCast_mul]; simp) (by omega) ?_
    refine SWrap.i64z ((0 * n + n * r : Nat) : Int) (by omega) (by omega) ?_
    refine SPos.mk 2 rfl (by decide) ?_
    refine SWrap.i64z ((cntH 7 n r : Nat) : Int) (by simp [cntA, cntB, cntH] <;> omega) (by have := cnt_le (k := 7) (r := r) n1 (show n ≤ 8 by omega) (show r ≤ 3 by omega); omega) ?_
    refine SCmp.no (neF rfl) ?_
    refine SWrap.i64z ((3 + 1 : Nat) : Int) (by omega) (by omega) ?_
    exact ⟨3 + 1, [0, 1], by decide, by decide, ⟨rfl, by simp, rfl, rfl, rfl, ⟨rfl, rfl, rfl, rfl, rfl, trivial⟩, ⟨rfl, rfl, trivial⟩⟩⟩
  · refine SCmp.no (rfl) ?_
    refine SLoop.mk Nat (fun i => ([(1, .bptr 0 0), (60, .p (.agg [ratsM (m 0) (lst (cntA 7 n) A), ratsM (m 1) (lst (cntB 7 n) B), ratsM (m 2) (lst (cntH 7 n r) G), ratsM (m 3) (lst (cntH 7 n r) H)])), (61, .p (.int .i64 i))], [.box 59 [.p (.int .i64 ((7 : Nat) : Int)), .p (.int .i64 (n : Int)), .p (.int .i64 (r : Int)), .p (ratsM (m 0) (lst (cntA 7 n) A)), .p (ratsM (m 1) (lst (cntB 7 n) B)), .p (ratsM (m 2) (lst (cntH 7 n r) G)), .p (ratsM (m 3) (lst (cntH 7 n r) H))], .box 189 [.p (ratsM (m 0) (lst (cntA 7 n) A)), .p (ratsM (m 1) (lst (cntB 7 n) B)), .p (ratsM (m 2) (lst (cntH 7 n r) G)), .p (ratsM (m 3) (lst (cntH 7 n r) H))]]))
      (fun i => i ≤ 4) (fun i => 4 - i) 0 [0, 1] (Nat.zero_le _) ⟨rfl, by simp, rfl, rfl, rfl, ⟨rfl, rfl, rfl, trivial⟩, ⟨rfl, rfl, trivial⟩⟩ ?_
    intro i hi
    have hi : i ≤ 4 := hi
    rcases (show i = 0 ∨ i = 1 ∨ i = 2 ∨ i = 3 ∨ i = 4 by omega) with rfl | rfl | rfl | rfl | rfl
    · refine SCmp.yes (rfl) ?_
      refine SIdx.mk 0 _ rfl rfl ?_
      refine SCall.pure (none1_ok (m 0) (lst (cntA 7 n) A) (fun i hi => by rw [lst_length] at hi; rw [lst_getD hi]; exact check1_ok _ ((h.bA i hi).mono (by omega))) (by rw [lst_length]; exact Nat.le_trans (cb 0) (by decide))) ?_
      refine SCond.mk (fun h => by cases h) (fun _ => ?_)
      refine SWrap.i64z ((0 + 1 : Nat) : Int) (by omega) (by omega) ?_
      exact ⟨0 + 1, [0, 1], by decide, by decide, ⟨rfl, by simp, rfl, rfl, rfl, ⟨rfl, rfl, rfl, trivial⟩, ⟨rfl, rfl, trivial⟩⟩⟩
    · refine SCmp.yes (rfl) ?_
      refine SIdx.mk 1 _ rfl rfl ?_
      refine SCall.pure (none1_ok (m 1) (lst (cntB 7 n) B) (fun i hi => by rw [lst_length] at hi; rw [lst_getD hi]; exact check1_ok _ ((h.bB i hi).mono (by omega))) (by rw [lst_length]; exact Nat.le_trans (cb 1) (by decide))) ?_
      refine SCond.mk (fun h => by cases h) (fun _ => ?_)
      refine SWrap.i64z ((1 + 1 : Nat) : Int) (by omega) (by omega) ?_
      exact ⟨1 + 1, [0, 1], by decide, by decide, ⟨rfl, by simp, rfl, rfl, rfl, ⟨rfl, rfl, rfl, trivial⟩, ⟨rfl, rfl, trivial⟩⟩⟩
    · refine SCmp.yes (rfl) ?_
      refine SIdx.mk 2 _ rfl rfl ?_
      refine SCall.pure (none1_ok (m 2) (lst (cntH 7 n r) G) (fun i hi => by rw [lst_length] at hi; rw [lst_getD hi]; exact check1_ok _ ((h.bG i hi).mono (by omega))) (by rw [lst_length]; exact Nat.le_trans (cb 2) (by decide))) ?_
      refine SCond.mk (fun h => by cases h) (fun _ => ?_)
      refine SWrap.i64z ((2 + 1 : Nat) : Int) (by omega) (by omega) ?_
      exact ⟨2 + 1, [0, 1], by decide, by decide, ⟨rfl, by simp, rfl, rfl, rfl, ⟨rfl, rfl, rfl, trivial⟩, ⟨rfl, rfl, trivial⟩⟩⟩
    · refine SCmp.yes (rfl) ?_
      refine SIdx.mk 3 _ rfl rfl ?_
      refine SCall.pure (none1_ok (m 3) (lst (cntH 7 n r) H) (fun i hi => by rw [lst_length] at hi; rw [lst_getD hi]; exact check1_ok _ ((h.bH i hi).mono (by omega))) (by rw [lst_length]; exact Nat.le_trans (cb 3) (by decide))) ?_
      refine SCond.mk (fun h => by cases h) (fun _ => ?_)
      refine SWrap.i64z ((3 + 1 : Nat) : Int) (by omega) (by omega) ?_
      exact ⟨3 + 1, [0, 1], by decide, by decide, ⟨rfl, by simp, rfl, rfl, rfl, ⟨rfl, rfl, rfl, trivial⟩, ⟨rfl, rfl, trivial⟩⟩⟩
    · refine SCmp.no (rfl) ?_
      refine SZ.mk ((cntA 7 n : Nat) : Int) (by simp [lst]) ?_
      refine SLoop.mk Nat (fun i => ([(1, .bptr 0 0), (68, .p (ratsM (m 0) (lst (cntA 7 n) A))), (69, .p (.int .i64 ((cntA 7 n : Nat) : Int))), (70, .p (.int .i64 i))], [.box 59 [.p (.int .i64 ((7 : Nat) : Int)), .p (.int .i64 (n : Int)), .p (.int .i64 (r : Int)), .p (ratsM (m 0) (lst (cntA 7 n) A)), .p (ratsM (m 1) (lst (cntB 7 n) B)), .p (ratsM (m 2) (lst (cntH 7 n r) G)), .p (ratsM (m 3) (lst (cntH 7 n r) H))], .box 189 [.p (ratsM (m 0) (lst (cntA 7 n) A)), .p (ratsM (m 1) (lst (cntB 7 n) B)), .p (ratsM (m 2) (lst (cntH 7 n r) G)), .p (ratsM (m 3) (lst (cntH 7 n r) H))]]))
        (fun i => i ≤ cntA 7 n) (fun i => cntA 7 n - i) 0 [0, 1] (Nat.zero_le _) ⟨rfl, by simp, rfl, rfl, rfl, ⟨rfl, rfl, rfl, rfl, trivial⟩, ⟨rfl, rfl, trivial⟩⟩ ?_
      intro i hi
      have hi : i ≤ cntA 7 n := hi
      have cA := cb 0
      by_cases hia : i < cntA 7 n
      · refine SCmp.yes (decide_eq_true (by omega)) ?_
        refine SIdx.rf i rfl hia ?_
        have hz := (h.bA i hia).mono (show b ≤ c by omega)
        have hc2 := none2_ok (m 1) true (A i) (lst (cntB 7 n) B) (fun j hj => by
          rw [lst_length] at hj; rw [lst_getD hj]
          have := check2_ok true (A i) (B j) hz (h.bB j hj) (by omega)
          rw [decide_eq_false (h.ne i j hia hj)] at this
          exact this) (by rw [lst_length]; exact Nat.le_trans (cb 1) (by decide))
        refine SCall.pure (pvs := [ratsM (m 1) (lst (cntB 7 n) B), .fn 189 [.pel true (ratP (A i))]]) hc2 ?_
        refine SCond.mk (fun h => by cases h) (fun _ => ?_)
        refine SWrap.i64z ((i + 1 : Nat) : Int) (by omega) (by omega) ?_
        exact ⟨i + 1, [0, 1], hia, by show cntA 7 n - (i + 1) < cntA 7 n - i; omega, ⟨rfl, by simp, rfl, rfl, rfl, ⟨rfl, rfl, rfl, rfl, trivial⟩, ⟨rfl, rfl, trivial⟩⟩⟩
      · refine SCmp.no (decide_eq_false (by omega)) ?_
        exact SRet.pure (.p _ (.int _ _))
theorem gcheck_ok (m : Nat → Bool) (g : GV) {b c : Nat} (h : Wf g b c) : CallP Try.prog 150 [genP m g] (.p (.int .i64 0)) [] := by
  obtain ⟨k, n, r, A, B, G, H⟩ := g
  rcases k_cases h.k1 h.k7 with e | e | e | e | e | e | e <;> (have e : k = _ := e; subst e)
  · exact gcheck1_ok m n r A B G H h
  · exact gcheck2_ok m n r A B G H h
  · exact gcheck3_ok m n r A B G H h
  · exact gcheck4_ok m n r A B G H h
  · exact gcheck5_ok m n r A B G H h
  · exact gcheck6_ok m n r A B G H h
  · exact gcheck7_ok m n r A B G H h
end Go.Proofs.Ytkaooejeljdbnaa

namespace Go.Proofs.Ytkaooejeljdbnaa
open Go
set_option linter.unusedVariables false
set_option linter.unusedSimpArgs false
set_option maxRecDepth 10000
theorem ratP_one' : ratP 1 = .agg [.bool false, natP 1, natP 1] := rfl
end Go.Proofs.Ytkaooejeljdbnaa

namespace Go.Proofs.Ytkaooejeljdbnaa
/-- The first place from p on, among so many, with no nought in column j. -/
def pvG (A : Nat → Nat → Rat) (j : Nat) : Nat → Nat → Nat
  | 0, p => p
  | d + 1, p => if A p j = 0 then pvG A j d (p + 1) else p
def pv (A : Nat → Nat → Rat) (j n r : Nat) : Nat := pvG A j (n - r) r
theorem pvG_eq {A : Nat → Nat → Rat} {j : Nat} : ∀ (d r p : Nat), r ≤ p → p ≤ r + d → (∀ i, r ≤ i → i < p → A i j = 0) → (p = r + d ∨ A p j ≠ 0) → pvG A j d r = p := by
  intro d
  induction d with
  | zero => intro r p h1 h2 _ _; simp only [pvG]; omega
  | succ d ih =>
    intro r p h1 h2 h3 h4
    simp only [pvG]
    by_cases e : r = p
    · subst e
      rcases h4 with h4 | h4
      · omega
      · rw [if_neg h4]
    · rw [if_pos (h3 r (Nat.le_refl _) (by omega))]
      exact ih (r + 1) p (by omega) (by omega) (fun i hi => h3 i (by omega)) (h4.imp (fun h => by omega) id)
theorem pv_eq {A : Nat → Nat → Rat} {j n r p : Nat} (h1 : r ≤ p) (h2 : p ≤ n) (h3 : ∀ i, r ≤ i → i < p → A i j = 0) (h4 : p = n ∨ A p j ≠ 0) : pv A j n r = p :=
  pvG_eq _ _ _ h1 (by omega) h3 (h4.imp (fun h => by omega) id)
theorem pvG_spec {A : Nat → Nat → Rat} {j : Nat} : ∀ (d r : Nat), r ≤ pvG A j d r ∧ pvG A j d r ≤ r + d ∧ (∀ i, r ≤ i → i < pvG A j d r → A i j = 0) ∧ (pvG A j d r = r + d ∨ A (pvG A j d r) j ≠ 0) := by
  intro d
  induction d with
  | zero => intro r; simp only [pvG]; exact ⟨Nat.le_refl _, Nat.le_refl _, fun i h1 h2 => by omega, .inl rfl⟩
  | succ d ih =>
    intro r
    simp only [pvG]
    by_cases e : A r j = 0
    · rw [if_pos e]
      obtain ⟨h1, h2, h3, h4⟩ := ih (r + 1)
      refine ⟨by omega, by omega, fun i hi hi2 => ?_, h4.imp (fun h => by omega) id⟩
      by_cases ei : i = r
      · subst ei; exact e
      · exact h3 i (by omega) hi2
    · rw [if_neg e]; exact ⟨Nat.le_refl _, by omega, fun i h1 h2 => by omega, .inr e⟩
theorem pv_spec {A : Nat → Nat → Rat} {j n r : Nat} (h : r ≤ n) : r ≤ pv A j n r ∧ pv A j n r ≤ n ∧ (∀ i, r ≤ i → i < pv A j n r → A i j = 0) ∧ (pv A j n r = n ∨ A (pv A j n r) j ≠ 0) := by
  obtain ⟨h1, h2, h3, h4⟩ := pvG_spec (A := A) (j := j) (n - r) r
  have e : r + (n - r) = n := by omega
  rw [e] at h2 h4
  exact ⟨h1, h2, h3, h4⟩
def swpM (A : Nat → Nat → Rat) (p r : Nat) : Nat → Nat → Rat := fun i => A (if i = p then r else if i = r then p else i)
/-- Column j is cleared below row r. -/
def redM (B : Nat → Nat → Rat) (r j : Nat) : Nat → Nat → Rat := fun i k => if r < i ∧ j ≤ k then B i k - B i j / B r j * B r k else B i k
structure ElS where
  A : Nat → Nat → Rat
  det : Rat
  r : Nat
/-- The round of column j. -/
def elS (n j : Nat) (s : ElS) : ElS :=
  if n ≤ pv s.A j n s.r then ⟨s.A, 0, s.r⟩ else
    ⟨redM (swpM s.A (pv s.A j n s.r) s.r) s.r j, (if pv s.A j n s.r = s.r then s.det else -s.det) * swpM s.A (pv s.A j n s.r) s.r s.r j, s.r + 1⟩
def elim (n : Nat) (A : Nat → Nat → Rat) (j : Nat) : ElS := iter (elS n) j ⟨A, 1, 0⟩
theorem elim_succ {n : Nat} {A : Nat → Nat → Rat} {j : Nat} : elim n A (j + 1) = elS n j (elim n A j) := rfl
theorem elim_r_n {n : Nat} {A : Nat → Nat → Rat} : ∀ j, (elim n A j).r ≤ n := by
  intro j
  induction j with
  | zero => exact Nat.zero_le _
  | succ j ih =>
    rw [elim_succ]; unfold elS
    split
    · exact ih
    · rename_i h
      have := (pv_spec (A := (elim n A j).A) (j := j) ih).1
      show (elim n A j).r + 1 ≤ n; omega
/-- How many digits there may be in a row that was turned so often; in the determinant. -/
def bb (b : Nat) : Nat → Nat
  | 0 => b
  | k + 1 => 4 * bb b k + 1
/-- The same, where the first round is known to be a mild one. -/
def b1 (b c : Nat) : Nat → Nat
  | 0 => b
  | k + 1 => bb c k
def dR (R : Nat → Nat) : Nat → Nat
  | 0 => 1
  | k + 1 => dR R k + R k
theorem Rmono {R : Nat → Nat} (h : ∀ k, R k ≤ R (k + 1)) {i j : Nat} (hij : i ≤ j) : R i ≤ R j := by
  induction j with
  | zero => rw [Nat.le_zero.1 hij]; exact Nat.le_refl _
  | succ j ih =>
    by_cases e : i = j + 1
    · rw [e]; exact Nat.le_refl _
    · exact Nat.le_trans (ih (by omega)) (h j)
theorem dR_mono {R : Nat → Nat} {i j : Nat} (h : i ≤ j) : dR R i ≤ dR R j := Rmono (fun k => Nat.le_add_right _ _) h
theorem dR_pos {R : Nat → Nat} {k : Nat} : 1 ≤ dR R k := dR_mono (R := R) (Nat.zero_le k)
theorem dR_lt {R : Nat → Nat} {k n : Nat} (h : k < n) : R k + 1 ≤ dR R n := by
  have h1 := dR_mono (R := R) (show k + 1 ≤ n from h)
  have h2 := dR_pos (R := R) (k := k)
  simp only [dR] at h1; omega
/-- The rows' digits. -/
def RowB (R : Nat → Nat) (n w : Nat) (A : Nat → Nat → Rat) (r : Nat) : Prop := ∀ i k, i < n → k < w → Bz (A i k) (R (min i r))
theorem RowB.swp {R : Nat → Nat} {n w : Nat} {A : Nat → Nat → Rat} {r p : Nat} (h : RowB R n w A r) (hp : r ≤ p) (hpn : p < n) : RowB R n w (swpM A p r) r := by
  intro i k hi hk
  unfold swpM
  by_cases e1 : i = p
  · rw [if_pos e1]
    have := h r k (by omega) hk
    rw [Nat.min_self] at this
    rw [Nat.min_eq_right (by omega)]; exact this
  · rw [if_neg e1]
    by_cases e2 : i = r
    · rw [if_pos e2]
      have := h p k hpn hk
      rw [Nat.min_eq_right hp] at this
      rw [e2, Nat.min_self]; exact this
    · rw [if_neg e2]; exact h i k hi hk
theorem RowB.quo {R : Nat → Nat} {n w : Nat} {B : Nat → Nat → Rat} {r : Nat} (h : RowB R n w B r) {i j : Nat} (hi : i < n) (hr : r < i) (hj : j < w) : Bz (B i j / B r j) (R r + R r) := by
  have h1 := h i j hi hj
  have h2 := h r j (by omega) hj
  rw [Nat.min_eq_right (by omega)] at h1
  rw [Nat.min_self] at h2
  exact h1.div h2
theorem RowB.red {R : Nat → Nat} {n w : Nat} {B : Nat → Nat → Rat} {r j : Nat} (hR : 4 * R r + 1 ≤ R (r + 1)) (hm : ∀ k, R k ≤ R (k + 1)) (h : RowB R n w B r) (hj : j < w) : RowB R n w (redM B r j) (r + 1) := by
  intro i k hi hk
  unfold redM
  by_cases c : r < i ∧ j ≤ k
  · rw [if_pos c]
    have h1 := h i k hi hk
    have h2 := h r k (by omega) hk
    have h3 := h.quo hi c.1 hj
    rw [Nat.min_eq_right (by omega)] at h1
    rw [Nat.min_self] at h2
    rw [Nat.min_eq_right (by omega)]
    exact (h1.sub (h3.mul h2)).mono (by omega)
  · rw [if_neg c]
    exact (h i k hi hk).mono (Rmono hm (by omega))
theorem swpM_self {A : Nat → Nat → Rat} {r : Nat} : swpM A r r = A := by
  funext i
  unfold swpM
  by_cases e : i = r
  · rw [if_pos e, e]
  · rw [if_neg e, if_neg e]
theorem redM_le {B : Nat → Nat → Rat} {r j i k : Nat} (h : i ≤ r ∨ k < j) : redM B r j i k = B i k := if_neg (by omega)
theorem redM_gt {B : Nat → Nat → Rat} {r j i k : Nat} (h1 : r < i) (h2 : j ≤ k) : redM B r j i k = B i k - B i j / B r j * B r k := if_pos ⟨h1, h2⟩
/-- What is known of the digits, all the way down. -/
structure RB (R : Nat → Nat) (n w : Nat) (A : Nat → Nat → Rat) : Prop where
  row : ∀ j, j ≤ n → RowB R n w (elim n A j).A (elim n A j).r
  mono : ∀ k, R k ≤ R (k + 1)
  lim : ∀ k, k + 1 < n → 4 * R k + 1 ≤ 1048576
  dlim : dR R n ≤ 1048576
theorem RB.det {R : Nat → Nat} {n w : Nat} {A : Nat → Nat → Rat} (h : RB R n w A) (hw : n ≤ w) : ∀ j, j ≤ n → Bz (elim n A j).det (dR R (elim n A j).r) := by
  intro j
  induction j with
  | zero => exact fun _ => bz_one
  | succ j ih =>
    intro hj
    have h2 := ih (by omega)
    have h1 := h.row j (by omega)
    have hr := elim_r_n (n := n) (A := A) j
    rw [elim_succ]
    unfold elS
    split
    · exact bz_zero.mono dR_pos
    · rename_i hp
      obtain ⟨p1, p2, _, _⟩ := pv_spec (A := (elim n A j).A) (j := j) hr
      have h3 := h1.swp p1 (by omega)
      have h4 := h3 (elim n A j).r j (by omega) (by omega)
      rw [Nat.min_self] at h4
      have h5 : Bz (if pv (elim n A j).A j n (elim n A j).r = (elim n A j).r then (elim n A j).det else -(elim n A j).det) (dR R (elim n A j).r) := by
        split
        · exact h2
        · exact h2.neg
      exact (h5.mul h4).mono (by simp only [dR]; omega)
/-- From the round m on. -/
theorem elim_b {R : Nat → Nat} {n w : Nat} {A : Nat → Nat → Rat} (m : Nat) (hm : ∀ k, R k ≤ R (k + 1)) (h4 : ∀ k, m ≤ k → 4 * R k + 1 ≤ R (k + 1)) (hw : n ≤ w)
    (h0 : ∀ j, j ≤ m → j ≤ n → RowB R n w (elim n A j).A (elim n A j).r) (hrm : m ≤ n → (elim n A m).r = m) : ∀ j, j ≤ n → RowB R n w (elim n A j).A (elim n A j).r ∧ (m ≤ j → m ≤ (elim n A j).r) := by
  intro j
  induction j with
  | zero => intro hj; exact ⟨h0 0 (Nat.zero_le _) hj, fun e => by omega⟩
  | succ j ih =>
    intro hj
    by_cases hjm : j + 1 ≤ m
    · refine ⟨h0 _ hjm hj, fun e => ?_⟩
      have e : m = j + 1 := by omega
      rw [← e, hrm (by omega)]; exact Nat.le_refl _
    obtain ⟨h1, h2⟩ := ih (by omega)
    have h2 := h2 (by omega)
    have hr := elim_r_n (n := n) (A := A) j
    rw [elim_succ]
    unfold elS
    split
    · exact ⟨h1, fun _ => h2⟩
    · rename_i hp
      obtain ⟨p1, p2, _, _⟩ := pv_spec (A := (elim n A j).A) (j := j) hr
      have h3 := h1.swp p1 (by omega)
      exact ⟨h3.red (h4 _ h2) hm (by omega), fun _ => Nat.le_succ_of_le h2⟩
theorem bb_step {b : Nat} (k : Nat) : bb b k ≤ bb b (k + 1) := by simp only [bb]; omega
/-- Where the first place is no nought. -/
theorem RB.one {n w b c : Nat} {A : Nat → Nat → Rat} (hA : ∀ i k, i < n → k < w → Bz (A i k) b) (hw : n ≤ w) (hbc : b ≤ c) (hc : 4 * b + 1 ≤ 1048576) (hb : dR (b1 b c) n ≤ 1048576) (h00 : A 0 0 ≠ 0)
    (h1 : ∀ i k, 0 < i → i < n → k < w → Bz (A i k - A i 0 / A 0 0 * A 0 k) c) : RB (b1 b c) n w A where
  row := fun j hj => (elim_b 1 (fun k => by cases k with
      | zero => exact hbc
      | succ k => exact bb_step k) (fun k hk => by cases k with
      | zero => omega
      | succ k => exact Nat.le_refl _) hw (fun j hj1 hjn => by
    have h0 : RowB (b1 b c) n w A 0 := fun i k hi hk => by rw [Nat.min_zero]; exact hA i k hi hk
    by_cases e : j = 0
    · subst e; exact h0
    · obtain rfl : j = 1 := by omega
      have hpv : pv A 0 n 0 = 0 := pv_eq (Nat.le_refl _) (Nat.zero_le _) (fun i h1 h2 => absurd h2 (Nat.not_lt_zero _)) (.inr h00)
      show RowB (b1 b c) n w (elS n 0 ⟨A, 1, 0⟩).A (elS n 0 ⟨A, 1, 0⟩).r
      unfold elS
      dsimp only
      rw [hpv, if_neg (by omega), swpM_self]
      intro i k hi hk
      show Bz (redM A 0 0 i k) _
      by_cases hi0 : 0 < i
      · rw [redM_gt hi0 (Nat.zero_le _), Nat.min_eq_right hi0]; exact h1 i k hi0 hi hk
      · rw [redM_le (.inl (by omega)), Nat.min_eq_left (by show i ≤ 0 + 1; omega)]
        obtain rfl : i = 0 := by omega
        exact hA 0 k hi hk) (fun hn => by
      have hpv : pv A 0 n 0 = 0 := pv_eq (Nat.le_refl _) (Nat.zero_le _) (fun i h1 h2 => absurd h2 (Nat.not_lt_zero _)) (.inr h00)
      show (elS n 0 ⟨A, 1, 0⟩).r = 1
      unfold elS
      dsimp only
      rw [hpv, if_neg (by omega)]) j hj).1
  mono := fun k => by cases k with
      | zero => exact hbc
      | succ k => exact bb_step k
  lim := fun k hk => by
    cases k with
    | zero => exact hc
    | succ k => have := dR_lt (R := b1 b c) hk; simp only [b1, bb] at this ⊢; omega
  dlim := hb
end Go.Proofs.Ytkaooejeljdbnaa

namespace Go.Proofs.Ytkaooejeljdbnaa
open Go
set_option linter.unusedVariables false
set_option linter.unusedSimpArgs false
set_option maxRecDepth 10000
/-- s0, less so many products. -/
def sb (a x : Nat → Rat) (s0 : Rat) (from' : Nat) : Nat → Rat
  | 0 => s0
  | d + 1 => sb a x s0 from' d - a (from' + d) * x (from' + d)
/-- What is known behind so many rounds, from the last row on. -/
def bk (A : Nat → Nat → Rat) (n : Nat) : Nat → Nat → Rat
  | 0 => fun _ => 0
  | t + 1 => upd (bk A n t) (n - 1 - t) (sb (A (n - 1 - t)) (bk A n t) (A (n - 1 - t) n) (n - t) t / A (n - 1 - t) (n - 1 - t))
/-- Digits, added up. -/
def xs (R : Nat → Nat) (n : Nat) : Nat → Nat
  | 0 => 0
  | t + 1 => xs R n t + (2 * R (n - 1 - t) + t * (R (n - 1 - t) + 1) + xs R n t)
theorem SIdx.fl {n : Nat} {f : Nat → PV} {i : Int} {K : Nat → PV → Prop} (j : Nat) (v : PV) (hi : i = j) (hj : j < n) (hv : f j = v) (hk : K j v) : SIdx (fl n f) i K := by
  subst hv; exact .mk j _ hi (fl_get hj) hk
theorem replicate_fl {α : Type} (n : Nat) (z : α) : List.replicate n z = fl n fun _ => z := by
  apply List.ext_getElem (by simp)
  intro i h1 h2
  simp [Go.Proofs.Ytkaooejeljdbnaa.fl]
end Go.Proofs.Ytkaooejeljdbnaa

namespace Go.Proofs.Ytkaooejeljdbnaa
open Go
set_option linter.unusedVariables false
set_option linter.unusedSimpArgs false
abbrev half (p c n k : Nat) : List AV := fl n fun i => if i < k then .vec (.r p i) 3 0 c else .emp
abbrev halq (p c n k q : Nat) : List AV := fl n fun i => if i < k then .vec (.r p i) 3 0 c else if i = k then .vec (.t q) 3 0 c else .emp
theorem half_full {p c n : Nat} : half p c n n = plc p c n id := fl_congr fun i hi => if_pos hi
/-- The pool takes in the row that is filled. -/
theorem half_absorb {hs : List Nat} {P : Hp} {p p' q c n k : Nat} (hp : hs.getD p 0 = p' + 1000 * (q + 1)) (hp' : p' < 1000) (hl : plenAt P p = k + 1) : AV.renL (renW hs P) (half p c n (k + 1)) = halq p' c n k q := by
  rw [renL_fl]
  have eb : Nat.blt (hs.getD p 0) 1000 = false := by
    cases hb : Nat.blt (hs.getD p 0) 1000 with
    | false => rfl
    | true => have := blt_iff.1 hb; omega
  have e1 : hs.getD p 0 % 1000 = p' := by omega
  have e2 : hs.getD p 0 / 1000 - 1 = q := by omega
  refine fl_congr fun i hi => ?_
  by_cases h1 : i < k
  · have e4 : Nat.blt (i + 1) (k + 1) = true := blt_iff.2 (by omega)
    rw [if_pos (by omega), if_pos h1]
    simp only [AV.ren, renW, eb, hl, e4, cond_false, cond_true, e1]
  · by_cases h2 : i = k
    · have e4 : Nat.blt (i + 1) (k + 1) = false := by
        cases hb : Nat.blt (i + 1) (k + 1) with
        | false => rfl
        | true => have := blt_iff.1 hb; omega
      rw [if_pos (by omega), if_neg h1, if_pos h2]
      simp only [AV.ren, renW, eb, hl, e4, cond_false, e2]
    · rw [if_neg (by omega), if_neg h1, if_neg h2]; simp only [AV.ren]
theorem half_in {P : Hp} {p c n k : Nat} (h : ∀ i, i < k → i < plenAt P p) : ∀ x ∈ half p c n k, ∀ h, x.men h → look P h ≠ .free := by
  intro x hx g hg
  obtain ⟨i, hi, rfl⟩ := fl_mem hx
  by_cases e : i < k
  · rw [if_pos e] at hg
    simp only [AV.men] at hg
    subst hg
    exact look_row (h i e)
  · rw [if_neg e] at hg; exact hg.elim
theorem half_ren0 {ρ : Hd → Hd} {p c n : Nat} : AV.renL ρ (half p c n 0) = List.replicate n .emp := by
  rw [renL_fl, replicate_fl]
  refine fl_congr fun i _ => ?_
  rw [if_neg (Nat.not_lt_zero i)]; simp only [AV.ren]
end Go.Proofs.Ytkaooejeljdbnaa

namespace Go.Proofs.Ytkaooejeljdbnaa
def Ker (n w : Nat) (A : Nat → Nat → Rat) (v : Nat → Rat) : Prop := ∀ i, i < n → sm w (fun k => A i k * v k) = 0
theorem Ker.swp {n w p r : Nat} {A : Nat → Nat → Rat} {v : Nat → Rat} (hp : p < n) (hr : r < n) : Ker n w (swpM A p r) v ↔ Ker n w A v := by
  constructor
  · intro h i hi
    by_cases e1 : i = p
    · have := h r hr
      unfold swpM at this
      by_cases e2 : r = p
      · rw [if_pos e2] at this; rw [e1, ← e2]; exact this
      · rw [if_neg e2, if_pos rfl] at this; rw [e1]; exact this
    · by_cases e2 : i = r
      · have := h p hp
        unfold swpM at this
        rw [if_pos rfl] at this; rw [e2]; exact this
      · have := h i hi
        unfold swpM at this
        rw [if_neg e1, if_neg e2] at this; exact this
  · intro h i hi
    unfold swpM
    split
    · exact h r hr
    · split
      · exact h p hp
      · exact h i hi
theorem red_row {B : Nat → Nat → Rat} {r j i : Nat} (hz : ∀ k, k < j → B r k = 0) (hi : r < i) (k : Nat) : redM B r j i k = B i k - B i j / B r j * B r k := by
  by_cases e : j ≤ k
  · exact redM_gt hi e
  · rw [redM_le (.inr (by omega)), hz k (by omega)]; grind
theorem Ker.red {n w r j : Nat} {B : Nat → Nat → Rat} {v : Nat → Rat} (hz : ∀ k, k < j → B r k = 0) (hr : r < n) : Ker n w (redM B r j) v ↔ Ker n w B v := by
  have row : ∀ i, r < i → sm w (fun k => redM B r j i k * v k) = sm w (fun k => B i k * v k) - B i j / B r j * sm w (fun k => B r k * v k) := by
    intro i hi
    rw [← sm_smul, ← sm_sub]
    refine sm_congr fun k _ => ?_
    rw [red_row hz hi]; grind
  have low : ∀ i, ¬ r < i → (fun k => redM B r j i k * v k) = fun k => B i k * v k := by
    intro i hi
    funext k
    rw [redM_le (.inl (by omega))]
  constructor
  · intro h i hi
    have h0 : sm w (fun k => B r k * v k) = 0 := by have := h r hr; rw [low r (Nat.lt_irrefl r)] at this; exact this
    have := h i hi
    by_cases e : r < i
    · rw [row i e, h0] at this; grind
    · rw [low i e] at this; exact this
  · intro h i hi
    by_cases e : r < i
    · rw [row i e, h i hi, h r hr]; grind
    · rw [low i e]; exact h i hi
end Go.Proofs.Ytkaooejeljdbnaa

namespace Go.Proofs.Ytkaooejeljdbnaa
def pm : Nat → (Nat → Rat) → Rat
  | 0, _ => 1
  | n + 1, f => pm n f * f n
def pmx (n k : Nat) (f : Nat → Rat) : Rat := pm n fun t => if t = k then 1 else f t
theorem pm_congr {f g : Nat → Rat} : ∀ {n : Nat}, (∀ i, i < n → f i = g i) → pm n f = pm n g := by
  intro n
  induction n with
  | zero => exact fun _ => rfl
  | succ n ih => intro h; simp only [pm]; rw [ih fun i hi => h i (by omega), h n (by omega)]
theorem pm_ne {f : Nat → Rat} : ∀ {n : Nat}, (∀ i, i < n → f i ≠ 0) → pm n f ≠ 0 := by
  intro n
  induction n with
  | zero => intro _; simp only [pm]; decide
  | succ n ih =>
    intro h e
    rcases Rat.mul_eq_zero.1 e with e | e
    · exact ih (fun i hi => h i (by omega)) e
    · exact h n (by omega) e
theorem pm_zero {f : Nat → Rat} {k : Nat} : ∀ {n : Nat}, k < n → f k = 0 → pm n f = 0 := by
  intro n
  induction n with
  | zero => intro h; exact absurd h (Nat.not_lt_zero _)
  | succ n ih =>
    intro h e
    simp only [pm]
    by_cases c : k = n
    · rw [← c, e]; exact Rat.mul_zero _
    · rw [ih (by omega) e]; exact Rat.zero_mul _
theorem pmx_ne {f : Nat → Rat} {n k : Nat} (h : ∀ i, i < n → i ≠ k → f i ≠ 0) : pmx n k f ≠ 0 :=
  pm_ne fun i hi => by
    by_cases e : i = k
    · rw [if_pos e]; decide
    · rw [if_neg e]; exact h i hi e
theorem pmx_zero {f : Nat → Rat} {n k l : Nat} (hl : l < n) (hk : l ≠ k) (h : f l = 0) : pmx n k f = 0 := pm_zero hl (by rw [if_neg hk]; exact h)
theorem pmx_ge {f : Nat → Rat} {n k : Nat} (h : n ≤ k) : pmx n k f = pm n f := pm_congr fun i hi => if_neg (by omega)
theorem pmx_succ {f : Nat → Rat} {n k : Nat} (h : n ≠ k) : pmx (n + 1) k f = pmx n k f * f n := by
  show pm n _ * (if n = k then 1 else f n) = _
  rw [if_neg h]; rfl
theorem pmx_self {f : Nat → Rat} {n : Nat} : pmx (n + 1) n f = pm n f := by
  show pm n _ * (if n = n then 1 else f n) = _
  rw [if_pos rfl, Rat.mul_one]; exact pmx_ge (Nat.le_refl n)
theorem pm_split {f : Nat → Rat} {k : Nat} : ∀ {n : Nat}, k < n → pm n f = f k * pmx n k f := by
  intro n
  induction n with
  | zero => intro h; exact absurd h (Nat.not_lt_zero _)
  | succ n ih =>
    intro h
    by_cases c : k = n
    · subst c; rw [pmx_self]; simp only [pm]; exact Rat.mul_comm _ _
    · rw [pmx_succ (by omega)]; simp only [pm]; rw [ih (by omega)]; grind
def PolE (k : Nat) (g : Rat → Rat) : Prop := ∃ c : Nat → Rat, ∀ X, pev k c X = g X
theorem PolE.zero (k : Nat) : PolE k fun _ => 0 := ⟨fun i => 0 * (0 : Rat), fun X => by rw [pev_smul k 0 (fun _ => 0) X]; exact Rat.zero_mul _⟩
theorem PolE.add {k : Nat} {g h : Rat → Rat} (hg : PolE k g) (hh : PolE k h) : PolE k fun X => g X + h X := by
  obtain ⟨c, hc⟩ := hg
  obtain ⟨d, hd⟩ := hh
  exact ⟨fun i => c i + d i, fun X => by rw [pev_add, hc, hd]⟩
theorem PolE.smul {k : Nat} {g : Rat → Rat} (b : Rat) (hg : PolE k g) : PolE k fun X => b * g X := by
  obtain ⟨c, hc⟩ := hg
  exact ⟨fun i => b * c i, fun X => by rw [pev_smul, hc]⟩
theorem PolE.mulX {k : Nat} {g : Rat → Rat} (hg : PolE k g) (r : Rat) : PolE (k + 1) fun X => g X * (r - X) := by
  obtain ⟨c, hc⟩ := hg
  obtain ⟨d, _, hd⟩ := (Pol.mulX (g := g) ⟨c, rfl, hc⟩ r).smul (-1)
  exact ⟨d, fun X => by rw [hd]; grind⟩
theorem PolE.pm (a : Nat → Rat) : ∀ n, PolE n fun X => pm n fun t => a t - X := by
  intro n
  induction n with
  | zero => exact ⟨fun _ => 1, fun X => rfl⟩
  | succ n ih => exact ih.mulX (a n)
theorem PolE.pmx (a : Nat → Rat) (j : Nat) : ∀ n, j < n + 1 → PolE n fun X => pmx (n + 1) j fun t => a t - X := by
  intro n
  induction n with
  | zero =>
    intro h
    obtain rfl : j = 0 := by omega
    have : (fun X : Rat => Go.Proofs.Ytkaooejeljdbnaa.pmx (0 + 1) 0 fun t => a t - X) = fun X => Go.Proofs.Ytkaooejeljdbnaa.pm 0 fun t => a t - X := by funext X; exact pmx_self
    rw [this]; exact PolE.pm a 0
  | succ n ih =>
    intro h
    by_cases e : j = n + 1
    · subst e
      have : (fun X : Rat => Go.Proofs.Ytkaooejeljdbnaa.pmx (n + 1 + 1) (n + 1) fun t => a t - X) = fun X => Go.Proofs.Ytkaooejeljdbnaa.pm (n + 1) fun t => a t - X := by funext X; exact pmx_self
      rw [this]; exact PolE.pm a (n + 1)
    · have : (fun X : Rat => Go.Proofs.Ytkaooejeljdbnaa.pmx (n + 1 + 1) j fun t => a t - X) = fun X => (Go.Proofs.Ytkaooejeljdbnaa.pmx (n + 1) j fun t => a t - X) * (a (n + 1) - X) := by funext X; exact pmx_succ (by omega)
      rw [this]; exact (ih (by omega)).mulX _
theorem PolE.sum {k : Nat} {G : Nat → Rat → Rat} : ∀ m, (∀ t, t < m → PolE k (G t)) → PolE k fun X => sm m fun t => G t X := by
  intro m
  induction m with
  | zero => exact fun _ => PolE.zero k
  | succ m ih => intro h; exact (ih fun t ht => h t (by omega)).add (h m (by omega))
theorem PolE.eq {k : Nat} {g h : Rat → Rat} {r : Nat → Rat} (hg : PolE k g) (hh : PolE k h) (hi : Inj r (k + 1)) (he : ∀ l, l < k + 1 → g (r l) = h (r l)) (X : Rat) : g X = h X := by
  obtain ⟨c, hc⟩ := hg
  obtain ⟨d, hd⟩ := hh
  rw [← hc, ← hd]
  exact pev_congr k X (pev_eq hi fun l hl => by rw [hc, hd]; exact he l hl)
/-- An entry of what undoes it, as the program comes to it: i of the second row of nodes, k of the first. -/
def cuF (a b : Nat → Rat) (i k : Nat) : Nat → Rat
  | 0 => 1 / (a k - b i)
  | m + 1 => if m = i then (if m = k then cuF a b i k m * ((a k - b m) * (a m - b i)) else cuF a b i k m * ((a k - b m) * (a m - b i)) / (a k - a m))
    else (if m = k then cuF a b i k m * ((a k - b m) * (a m - b i)) else cuF a b i k m * ((a k - b m) * (a m - b i)) / (a k - a m)) / (b m - b i)
structure CauH (n : Nat) (a b : Nat → Rat) : Prop where
  ia : Inj a n
  ib : Inj b n
  ne : ∀ i k, i < n → k < n → a i ≠ b k
theorem rsub_ne {a b : Rat} (h : a ≠ b) : a - b ≠ 0 := fun e => h (by grind)
theorem CauH.da {n : Nat} {a b : Nat → Rat} (h : CauH n a b) {i k : Nat} (hi : i < n) (hk : k < n) (e : i ≠ k) : a i - a k ≠ 0 := rsub_ne fun c => e (h.ia i k hi hk c)
theorem CauH.dx {n : Nat} {a b : Nat → Rat} (h : CauH n a b) {i k : Nat} (hi : i < n) (hk : k < n) : a i - b k ≠ 0 := rsub_ne (h.ne i k hi hk)
theorem CauH.db {n : Nat} {a b : Nat → Rat} (h : CauH n a b) {i k : Nat} (hi : i < n) (hk : k < n) (e : i ≠ k) : b i - b k ≠ 0 := rsub_ne fun c => e (h.ib i k hi hk c)
/-- Parts of a quotient of polynomials. -/
theorem parts {n : Nat} {b : Nat → Rat} (hb : Inj b n) {g : Rat → Rat} (hn : 1 ≤ n) (hg : PolE (n - 1) g) {x : Rat} (hx : ∀ k, k < n → x ≠ b k) :
    sm n (fun k => 1 / (x - b k) * (g (b k) / pmx n k fun t => b t - b k)) = -(g x / pm n fun t => b t - x) := by
  obtain ⟨m, rfl⟩ : ∃ m, n = m + 1 := ⟨n - 1, by omega⟩
  have hnz : ∀ k, k < m + 1 → (pmx (m + 1) k fun t => b t - b k) ≠ 0 := fun k hk => pmx_ne fun t ht e => rsub_ne fun c => e (hb t k ht hk c)
  have key := PolE.eq (g := fun X => sm (m + 1) fun k => g (b k) / (pmx (m + 1) k fun t => b t - b k) * pmx (m + 1) k fun t => b t - X) (PolE.sum (m + 1) fun k hk => (PolE.pmx b k m hk).smul _) hg hb (fun l hl => by
    show (sm (m + 1) fun k => g (b k) / (pmx (m + 1) k fun t => b t - b k) * pmx (m + 1) k fun t => b t - b l) = g (b l)
    have : (sm (m + 1) fun k => g (b k) / (pmx (m + 1) k fun t => b t - b k) * pmx (m + 1) k fun t => b t - b l) = sm (m + 1) fun k => g (b k) * (if k = l then 1 else 0) := sm_congr fun k hk => by
      by_cases e : k = l
      · subst e; rw [if_pos rfl]; have := hnz k hk; grind
      · rw [if_neg e, pmx_zero (f := fun t => b t - b l) (l := l) hl (Ne.symm e) (by grind)]; grind
    rw [this]; exact sm_one hl _) x
  have hp : pm (m + 1) (fun t => b t - x) ≠ 0 := pm_ne fun t ht => rsub_ne fun c => hx t ht c.symm
  have key : (sm (m + 1) fun k => g (b k) / (pmx (m + 1) k fun t => b t - b k) * pmx (m + 1) k fun t => b t - x) = g x := key
  rw [← key]
  have : (sm (m + 1) fun k => g (b k) / (pmx (m + 1) k fun t => b t - b k) * pmx (m + 1) k fun t => b t - x) = -(pm (m + 1) fun t => b t - x) * sm (m + 1) (fun k => 1 / (x - b k) * (g (b k) / pmx (m + 1) k fun t => b t - b k)) := by
    rw [← sm_smul]
    refine sm_congr fun k hk => ?_
    rw [pm_split hk]
    have h1 := hnz k hk
    have h2 : x - b k ≠ 0 := rsub_ne (hx k hk)
    generalize (pmx (m + 1) k fun t => b t - x) = u
    generalize (pmx (m + 1) k fun t => b t - b k) = v at h1
    generalize g (b k) = y
    generalize b k = z at h2
    grind
  rw [this]
  generalize (sm (m + 1) fun k => 1 / (x - b k) * (g (b k) / pmx (m + 1) k fun t => b t - b k)) = S
  generalize pm (m + 1) (fun t => b t - x) = p at hp
  grind
end Go.Proofs.Ytkaooejeljdbnaa

namespace Go.Proofs.Ytkaooejeljdbnaa
/-- The product of all differences of two of either row. -/
def cUp (a b : Nat → Rat) (n : Nat) : Rat := pm n fun i => pm i fun k => (a i - a k) * (b k - b i)
/-- The product of all differences of one of each. -/
def cDn (a b : Nat → Rat) (m n : Nat) : Rat := pm m fun i => pm n fun k => a i - b k
def cDet (a b : Nat → Rat) (n : Nat) : Rat := cUp a b n / cDn a b n n
theorem cDn_ne {a b : Nat → Rat} {m n : Nat} (h : ∀ i k, i < m → k < n → a i ≠ b k) : cDn a b m n ≠ 0 := pm_ne fun i hi => pm_ne fun k hk => rsub_ne (h i k hi hk)
theorem cUp_zero {a b : Nat → Rat} {n : Nat} : cUp a b n = 0 ↔ ¬ (Inj a n ∧ Inj b n) := by
  constructor
  · intro h ⟨ha, hb⟩
    refine pm_ne (fun i hi => pm_ne fun k hk => ?_) h
    intro e
    rcases Rat.mul_eq_zero.1 e with e | e
    · have := ha i k hi (by omega) (by grind); omega
    · have := hb k i (by omega) hi (by grind); omega
  · intro h
    have tw : ∀ (i k : Nat), i < n → k < i → (a i = a k ∨ b i = b k) → cUp a b n = 0 := fun i k hi hk e =>
      pm_zero hi (pm_zero hk (by rcases e with e | e <;> (rw [e]; grind)))
    apply Classical.byContradiction
    intro hc
    refine h ⟨fun i k hi hk e => ?_, fun i k hi hk e => ?_⟩
    · rcases Nat.lt_trichotomy i k with c | c | c
      · exact absurd (tw k i hk c (.inl e.symm)) hc
      · exact c
      · exact absurd (tw i k hi c (.inl e)) hc
    · rcases Nat.lt_trichotomy i k with c | c | c
      · exact absurd (tw k i hk c (.inr e.symm)) hc
      · exact c
      · exact absurd (tw i k hi c (.inr e)) hc
theorem cDet_zero {a b : Nat → Rat} {n : Nat} (h : ∀ i k, i < n → k < n → a i ≠ b k) : cDet a b n = 0 ↔ ¬ (Inj a n ∧ Inj b n) := by
  rw [← cUp_zero]
  have := cDn_ne h
  unfold cDet
  constructor
  · intro e; generalize cUp a b n = u at e; generalize cDn a b n n = d at e this; grind
  · intro e; rw [e]; grind
end Go.Proofs.Ytkaooejeljdbnaa

namespace Go.Proofs.Ytkaooejeljdbnaa
open Go
set_option linter.unusedVariables false
set_option linter.unusedSimpArgs false
set_option maxRecDepth 10000
theorem czero_ok : CallP Try.prog 104 [] (.p (ratP 0)) [] := by
  refine callG_of_vc (wr := wr0) Γok mixed Try.func104 (by kernel_rfl) rfl (by kernel_rfl) (le_of_ble rfl) (by simp) ?_
  refine SRet.pure ?_
  rw [ratP_zero]
  exact conv3 ⟨rfl, rfl, rfl⟩ (.p _ (.bool _)) (.p _ (.sl _ _ (fun e he => by simp at he))) (frz1 rfl)
theorem cone_ok : CallP Try.prog 100 [] (.p (ratP 1)) [] := by
  refine callG_of_vc (wr := wr0) Γok mixed Try.func100 (by kernel_rfl) rfl (by kernel_rfl) (le_of_ble rfl) (by simp) ?_
  refine SRet.pure ?_
  rw [ratP_one']
  exact conv3 ⟨rfl, rfl, rfl⟩ (.p _ (.bool _)) (frz1 rfl) (frz1 rfl)
theorem cover_ok (p q : Rat) (hq0 : q ≠ 0) {j k : Nat} (hp : Bz p j) (hq : Bz q k) (h : j + k ≤ 137438953472) : CallP Try.prog 101 [ratP p, ratP q] (.p (ratP (p / q))) [] := by
  refine callG_of_vc (wr := wr0) Γok mixed Try.func101 (by kernel_rfl) rfl (by kernel_rfl) (le_of_ble rfl) (by simp) ?_
  refine SCall.pureT (quo_ok p q hq0 hp.sz hq.sz h) (fun _ => rfl) ?_
  exact SRet.pure (.p _ (pers_rat _ _ _))
theorem twins_ok (i k : Nat) : CallP Try.prog 190 [pairP i k] (.p (.bool (decide (i = k)))) [] := by
  refine callG_of_vc (wr := wr0) Γok mixed Try.func190 (by kernel_rfl) rfl (by kernel_rfl) (le_of_ble rfl) (by simp) ?_
  refine SCmp.sym ?_
  have : (((i : Int) == (k : Int)) && (((k : Int) == (i : Int)) && true)) = decide (i = k) := by
    by_cases e : i = k
    · subst e; simp
    · rw [decide_eq_false e, beq_eq_false_iff_ne.2 (show (i : Int) ≠ k by omega)]; rfl
  rw [this]
  exact SRet.pure (.p _ (.bool _))
abbrev mapP (n : Nat) (f : Nat → Nat → Rat) : PV := .mp false (tabF n f (n * n))
theorem cof_ok (m m' : Bool) (n : Nat) (x y : Nat → Rat) {b c : Nat} (hx : ∀ i, i < n → Bz (x i) b) (hy : ∀ i, i < n → Bz (y i) c) (hb : b + c ≤ 1048576) (hn : n ≤ 1000) :
    CallP Try.prog 151 [ratsM m (lst n x), ratsM m' (lst n y)] (.p (mapP n fun i k => x i - y k)) [] := by
  refine callG_of_vc (wr := wr0) Γok mixed Try.func151 (by kernel_rfl) rfl (by kernel_rfl) (le_of_ble rfl) (by simp) ?_
  refine SZ.mk (n : Int) (by simp [lst]) ?_
  refine SLoop.mk Nat (fun i => ([(1, .p (ratsM m' (lst n y))), (5, .map 0), (11, .p (ratsM m (lst n x))), (12, .p (.int .i64 n)), (13, .p (.int .i64 i))], [.map (tabF n (fun i k => x i - y k) (i * n))]))
    (fun i => i ≤ n) (fun i => n - i) 0 [0] (Nat.zero_le _) ⟨rfl, by simp, rfl, rfl, rfl, ⟨rfl, rfl, rfl, rfl, rfl, trivial⟩, ⟨by rw [Nat.zero_mul]; rfl, trivial⟩⟩ ?_
  intro i hi
  have hi : i ≤ n := hi
  by_cases hin : i < n
  · refine SCmp.yes (decide_eq_true (by omega)) ?_
    refine SIdx.rf i rfl hin ?_
    refine SZ.mk (n : Int) (by simp [lst]) ?_
    refine SLoop.mk Nat (fun k => ([(1, .p (ratsM m' (lst n y))), (5, .map 0), (6, .p (.int .i64 i)), (7, .bptr 1 0), (11, .p (ratsM m (lst n x))), (12, .p (.int .i64 n)), (13, .p (.int .i64 i)), (18, .p (ratsM m' (lst n y))), (19, .p (.int .i64 n)), (20, .p (.int .i64 k))], [.map (tabF n (fun i k => x i - y k) (i * n + k)), .box 37 (bxQ (x i))]))
      (fun k => k ≤ n) (fun k => n - k) 0 [0, 1] (Nat.zero_le _) ⟨rfl, by simp, rfl, rfl, rfl, ⟨rfl, rfl, rfl, rfl, rfl, rfl, rfl, rfl, rfl, rfl, trivial⟩, ⟨rfl, rfl, trivial⟩⟩ ?_
    intro k hk
    have hk : k ≤ n := hk
    by_cases hkn : k < n
    · refine SCmp.yes (decide_eq_true (by omega)) ?_
      refine SIdx.rf k rfl hkn ?_
      refine SCall.pure (ratsub_ok _ _ (hx i hin).sz (hy k hkn).sz (by omega)) ?_
      refine SKeys.tab (fun _ _ => rfl) <| SPut.tab hkn rfl ?_
      refine SWrap.i64z ((k + 1 : Nat) : Int) (by omega) (by omega) ?_
      exact ⟨k + 1, [0, 1], hkn, by show n - (k + 1) < n - k; omega, ⟨rfl, by simp, rfl, rfl, rfl, ⟨rfl, rfl, rfl, rfl, rfl, rfl, rfl, rfl, rfl, rfl, trivial⟩, ⟨rfl, rfl, trivial⟩⟩⟩
    · refine SCmp.no (decide_eq_false (by omega)) ?_
      obtain rfl : k = n := by omega
      refine SWrap.i64z ((i + 1 : Nat) : Int) (by omega) (by omega) ?_
      exact ⟨i + 1, [0], hin, by show k - (i + 1) < k - i; omega, ⟨rfl, by simp, rfl, rfl, rfl, ⟨rfl, rfl, rfl, rfl, rfl, trivial⟩, ⟨congrArg (fun q => Blk.map (tabF k (fun i k => x i - y k) q)) (Nat.succ_mul i k), trivial⟩⟩⟩
  · refine SCmp.no (decide_eq_false (by omega)) ?_
    obtain rfl : i = n := by omega
    exact SRet.pure (.frzmap (es := tabF i (fun a k => x a - y k) (i * i)) rfl (by simp) (List.Perm.refl _) pers_tab)
/-- Is there a nought that isn't beside itself? -/
def twinT (n : Nat) (f : Nat → Nat → Rat) : Prop := ∃ i k, i < n ∧ k < n ∧ i ≠ k ∧ f i k = 0
theorem pairP_inj {a c a' c' : Nat} {u v : PV} (h : (pairP a c, u) = (pairP a' c', v)) : a = a' ∧ c = c' := by
  simp only [Prod.mk.injEq, PV.agg.injEq, List.cons.injEq, PV.int.injEq, and_true, true_and] at h
  omega
theorem same_ok (n : Nat) (f : Nat → Nat → Rat) {b : Nat} (hf : ∀ i k, i < n → k < n → Bz (f i k) b) (hb : b ≤ 1048576) (hn : n ≤ 1000) (r : Bool) (hr : r = true ↔ twinT n f) : CallP Try.prog 152 [mapP n f] (.p (.bool r)) [] := by
  refine callG_of_vc (wr := wr0) Γok mixed Try.func152 (by kernel_rfl) rfl (by kernel_rfl) (le_of_ble rfl) (by simp) ?_
  intro es0 hp
  have hent : ∀ (i : Nat) (e : PV × PV), es0[i]? = some e → ∃ a c, a < n ∧ c < n ∧ e = (pairP a c, ratP (f a c)) := fun i e he => by
    obtain ⟨t, ht, rfl⟩ := tabF_key (hp.mem_iff.1 (List.mem_of_getElem? he))
    have n0 : 0 < n := by rcases Nat.eq_zero_or_pos n with h | h; rw [h] at ht; simp at ht; exact h
    exact ⟨t / n, t % n, Nat.div_lt_of_lt_mul ht, Nat.mod_lt _ n0, rfl⟩
  have hlen : es0.length = n * n := by rw [hp.length_eq]; simp
  refine SLoop.mk (List Nat) (fun s => ([(6, .bptr 0 0)], [.iter false es0 s]))
    (fun s => ∀ j ∈ s, ∀ a c, es0[j]? = some (pairP a c, ratP (f a c)) → a = c ∨ f a c ≠ 0) (fun s => unseen s (n * n)) [] [0] (fun j hj => by simp at hj) ⟨rfl, by simp, rfl, rfl, rfl, ⟨rfl, trivial⟩, ⟨rfl, trivial⟩⟩ ?_
  intro s hs
  refine SNext.mk (fun j e hj hjs => ?_) (fun hend => ?_)
  · obtain ⟨a, c, ha, hc, rfl⟩ := hent j e hj
    have hz := hf a c ha hc
    have go : (a = c ∨ f a c ≠ 0) → ∀ i ∈ s ++ [j], ∀ a c, es0[i]? = some (pairP a c, ratP (f a c)) → a = c ∨ f a c ≠ 0 := fun h i hi a' c' he => by
      rcases List.mem_append.1 hi with hi | hi
      · exact hs i hi a' c' he
      · rw [List.mem_singleton.1 hi, hj] at he
        obtain ⟨rfl, rfl⟩ := pairP_inj (Option.some.inj he)
        exact h
    have hlt : unseen (s ++ [j]) (n * n) < unseen s (n * n) := unseen_lt hjs (by rw [← hlen]; exact (List.getElem?_eq_some_iff.1 hj).1)
    refine SEntry.mk j _ (by simp) hj ?_
    have ht := twins_ok a c
    by_cases e1 : a = c
    · rw [decide_eq_true e1] at ht
      refine SCall.pure (ht) ?_
      refine SCmp.no (rfl) ?_
      exact ⟨s ++ [j], [0], go (.inl e1), hlt, ⟨rfl, by simp, rfl, rfl, rfl, ⟨rfl, trivial⟩, ⟨rfl, trivial⟩⟩⟩
    · rw [decide_eq_false e1] at ht
      refine SCall.pure (ht) ?_
      refine SCmp.yes (rfl) ?_
      refine SZ.mk (nlen (f a c).num.natAbs : Int) (by simp) ?_
      by_cases e2 : f a c = 0
      · refine SCmp.yes (eqT (by rw [e2, show (0 : Rat).num.natAbs = 0 from rfl, nlen_zero_iff.2 rfl]; rfl)) ?_
        obtain rfl : r = true := hr.2 ⟨a, c, ha, hc, e1, e2⟩
        exact SRet.pure (.tf _)
      · have : nlen (f a c).num.natAbs ≠ 0 := fun h => e2 (Rat.num_eq_zero.1 (by have := nlen_zero_iff.1 h; omega))
        refine SCmp.no (eqF (by omega)) ?_
        exact ⟨s ++ [j], [0], go (.inr e2), hlt, ⟨rfl, by simp, rfl, rfl, rfl, ⟨rfl, trivial⟩, ⟨rfl, trivial⟩⟩⟩
  · obtain rfl : r = false := by
      cases r with
      | false => rfl
      | true =>
        obtain ⟨a, c, ha, hc, e1, e2⟩ := hr.1 rfl
        have hm : (pairP a c, ratP (f a c)) ∈ es0 := hp.mem_iff.2 (List.mem_of_getElem? (i := a * n + c) (by rw [fl_get (at_lt ha hc), at_div hc, at_mod hc]))
        obtain ⟨i, hi⟩ := List.getElem?_of_mem hm
        rcases hs i (hend i (List.getElem?_eq_some_iff.1 hi).1) a c hi with h | h
        · exact absurd h e1
        · exact absurd e2 h
    exact SRet.pure (.tf _)
end Go.Proofs.Ytkaooejeljdbnaa

namespace Go.Proofs.Ytkaooejeljdbnaa
open Go
set_option linter.unusedVariables false
set_option linter.unusedSimpArgs false
set_option maxRecDepth 10000
theorem twin_inj {n : Nat} {x : Nat → Rat} : twinT n (fun i k => x i - x k) ↔ ¬ Inj x n := by
  constructor
  · rintro ⟨i, k, hi, hk, e, h⟩ hI
    exact e (hI i k hi hk (by grind))
  · intro h
    apply Classical.byContradiction
    intro hc
    refine h fun i k hi hk e => ?_
    apply Classical.byContradiction
    intro hne
    exact hc ⟨i, k, hi, hk, hne, by show x i - x k = 0; rw [e]; grind⟩
/-- Are two of a row's nodes the same? -/
noncomputable def notInj (x : Nat → Rat) (n : Nat) : Bool := @decide (¬ Inj x n) (Classical.propDecidable _)
theorem notInj_iff {x : Nat → Rat} {n : Nat} : notInj x n = true ↔ ¬ Inj x n := by unfold notInj; simp
theorem notInj_tt {x : Nat → Rat} {n : Nat} (h : ¬ Inj x n) : notInj x n = true := notInj_iff.2 h
theorem notInj_ff {x : Nat → Rat} {n : Nat} (h : Inj x n) : notInj x n = false := by
  cases e : notInj x n with
  | false => rfl
  | true => exact absurd h (notInj_iff.1 e)
abbrev sidesL (n : Nat) (a b : Nat → Rat) (tA tB : Bool) : List PV := [.int .i64 (n : Int), mapP n fun i k => a i - a k, mapP n fun i k => b i - b k, mapP n fun i k => a i - b k, .bool tA, .bool tB]
abbrev sidesA (n : Nat) (a b : Nat → Rat) (tA tB : Bool) : List AV := [.p (.int .i64 (n : Int)), .p (mapP n fun i k => a i - a k), .p (mapP n fun i k => b i - b k), .p (mapP n fun i k => a i - b k), .p (.bool tA), .p (.bool tB)]
noncomputable abbrev sidesP (g : GV) : PV := .agg (sidesL g.n g.A g.B (notInj g.A g.n) (notInj g.B g.n))
theorem pers_map {n : Nat} {f : Nat → Nat → Rat} : Pers (mapP n f) := .mp _ (fun e he => (pers_tab e he).1) fun e he => (pers_tab e he).2
theorem pers_sides {n : Nat} {a b : Nat → Rat} {tA tB : Bool} : Pers (.agg (sidesL n a b tA tB)) := .agg _ fun c hc => by
  simp only [sidesL, List.mem_cons, List.not_mem_nil, or_false] at hc
  rcases hc with rfl | rfl | rfl | rfl | rfl | rfl <;> first | exact .int _ _ | exact .bool _ | exact pers_map
structure CauG (g : GV) (b c : Nat) : Prop extends Wf g b c where
  k5 : g.k = 5
theorem CauG.la {g : GV} {b c : Nat} (h : CauG g b c) : g.la = g.n := h.toWf.la3 (by have := h.k5; omega)
theorem CauG.lb {g : GV} {b c : Nat} (h : CauG g b c) : g.lb = g.n := h.toWf.lb5 (by have := h.k5; omega)
theorem CauG.za {g : GV} {b c : Nat} (h : CauG g b c) {i : Nat} (hi : i < g.n) : Bz (g.A i) 100 := (h.bA i (by rw [h.la]; exact hi)).mono (Nat.le_trans h.bc h.c4)
theorem CauG.zb {g : GV} {b c : Nat} (h : CauG g b c) {i : Nat} (hi : i < g.n) : Bz (g.B i) 100 := (h.bB i (by rw [h.lb]; exact hi)).mono h.c4
theorem CauG.daa {g : GV} {b c : Nat} (h : CauG g b c) {i k : Nat} (hi : i < g.n) (hk : k < g.n) : Bz (g.A i - g.A k) 201 := (h.za hi).sub (h.za hk)
theorem CauG.dbb {g : GV} {b c : Nat} (h : CauG g b c) {i k : Nat} (hi : i < g.n) (hk : k < g.n) : Bz (g.B i - g.B k) 201 := (h.zb hi).sub (h.zb hk)
theorem CauG.dab {g : GV} {b c : Nat} (h : CauG g b c) {i k : Nat} (hi : i < g.n) (hk : k < g.n) : Bz (g.A i - g.B k) 201 := (h.za hi).sub (h.zb hk)
theorem CauG.nab {g : GV} {b c : Nat} (h : CauG g b c) {i k : Nat} (hi : i < g.n) (hk : k < g.n) : g.A i ≠ g.B k := h.ne i k (by rw [h.la]; exact hi) (by rw [h.lb]; exact hk)
theorem begun_ok (m : Nat → Bool) (g : GV) {b c : Nat} (h : CauG g b c) : CallP Try.prog 99 [genP m g] (.tup [.p (sidesP g), .p (.int .i64 0)]) [] := by
  have h6 := h.n6
  have hk := h.k5
  have eA : lst g.la g.A = lst g.n g.A := by rw [h.la]
  have eB : lst g.lb g.B = lst g.n g.B := by rw [h.lb]
  have c1 := cof_ok (m 0) (m 0) g.n g.A g.A (fun i hi => h.za hi) (fun i hi => h.za hi) (by decide) (by omega)
  have c2 := cof_ok (m 1) (m 1) g.n g.B g.B (fun i hi => h.zb hi) (fun i hi => h.zb hi) (by decide) (by omega)
  have c3 := cof_ok (m 0) (m 1) g.n g.A g.B (fun i hi => h.za hi) (fun i hi => h.zb hi) (by decide) (by omega)
  rw [← eA] at c1 c3
  rw [← eB] at c2 c3
  have s1 := same_ok g.n (fun i k => g.A i - g.A k) (b := 201) (fun i k hi hk => h.daa hi hk) (by omega) (by omega) (notInj g.A g.n) (notInj_iff.trans twin_inj.symm)
  have s2 := same_ok g.n (fun i k => g.B i - g.B k) (b := 201) (fun i k hi hk => h.dbb hi hk) (by omega) (by omega) (notInj g.B g.n) (notInj_iff.trans twin_inj.symm)
  refine callG_of_vc (wr := wr0) Γok mixed Try.func99 (by kernel_rfl) rfl (by kernel_rfl) (le_of_ble rfl) (by simp) ?_
  refine SCmp.no (neF (by omega)) ?_
  refine SCall.pure (gcheck_ok m g h.toWf) ?_
  refine SCmp.no (rfl) ?_
  refine SDraw.mkX (by kernel_rfl) ?_
  repeat refine SOp.mk _ _ (And.intro rfl rfl) rfl ?_
  refine SOp.mk _ _ (SCall.pure (c1) (And.intro rfl rfl)) rfl ?_
  repeat refine SOp.mk _ _ (And.intro rfl rfl) rfl ?_
  refine SOp.mk _ _ (SCall.pure (c2) (And.intro rfl rfl)) rfl ?_
  repeat refine SOp.mk _ _ (And.intro rfl rfl) rfl ?_
  refine SOp.mk _ _ (SCall.pure (c3) (And.intro rfl rfl)) rfl ?_
  repeat refine SOp.mk _ _ (And.intro rfl rfl) rfl ?_
  refine SFin.mk (by kernel_rfl) ?_
  refine SDraw.mkX (by kernel_rfl) ?_
  repeat refine SOp.mk _ _ (And.intro rfl rfl) rfl ?_
  refine SOp.mk _ _ (SCall.pure (s1) (And.intro rfl rfl)) rfl ?_
  repeat refine SOp.mk _ _ (And.intro rfl rfl) rfl ?_
  refine SOp.mk _ _ (SCall.pure (s2) (And.intro rfl rfl)) rfl ?_
  repeat refine SOp.mk _ _ (And.intro rfl rfl) rfl ?_
  refine SFin.mk (by kernel_rfl) ?_
  exact SRet.pure (.tup rfl fun i c d e1 e2 => by
    match i, e1, e2 with
    | 0, e1, e2 => cases e1; cases e2; exact .p _ pers_sides
    | 1, e1, e2 => cases e1; cases e2; exact .p _ (.int _ _))
theorem div_div {a x y : Rat} : a / x / y = a / (x * y) := by
  rw [Rat.div_def, Rat.div_def, Rat.div_def, Rat.inv_mul_rev]; grind
theorem cdet_ok (m : Nat → Bool) (g : GV) {b c : Nat} (h : CauG g b c) : CallP Try.prog 45 [genP m g] (.tup [.p (ratP (cDet g.A g.B g.n)), .p (.int .i64 0)]) [] := by
  have h6 := h.n6
  refine callG_of_vc (wr := wr0) Γok mixed Try.func45 (by kernel_rfl) rfl (by kernel_rfl) (le_of_ble rfl) (by simp) ?_
  refine SCall.pureT (begun_ok m g h) (fun _ => rfl) ?_
  refine SCmp.no (rfl) ?_
  refine SCall.pure (cone_ok) ?_
  refine SLoop.mk (Nat × Rat) (fun (i, q) => ([(2, .bptr 0 0), (4, .bptr 1 0), (6, .bptr 2 0), (22, .p (.int .i64 g.n)), (23, .p (.int .i64 i))], [.box 37 zratA, .box 119 (sidesA g.n g.A g.B (notInj g.A g.n) (notInj g.B g.n)), .box 37 (bxQ q)]))
    (fun (i, q) => i ≤ g.n ∧ q = cUp g.A g.B i ∧ Bz q (1 + i * 6 * 403)) (fun x => g.n - x.1) (0, 1) [1, 2, 3] ⟨Nat.zero_le _, rfl, bz_one⟩ ⟨rfl, by simp, rfl, rfl, rfl, ⟨rfl, rfl, rfl, rfl, rfl, trivial⟩, ⟨rfl, rfl, rfl, trivial⟩⟩ ?_
  intro ⟨i, q⟩ ⟨hi, hq, hz⟩
  by_cases hin : i < g.n
  · refine SCmp.yes (decide_eq_true (by omega)) ?_
    refine SLoop.mk (Nat × Rat) (fun (k, q) => ([(2, .bptr 0 0), (4, .bptr 1 0), (6, .bptr 2 0), (7, .p (.int .i64 i)), (22, .p (.int .i64 g.n)), (23, .p (.int .i64 i)), (26, .p (.int .i64 i)), (27, .p (.int .i64 k))], [.box 37 zratA, .box 119 (sidesA g.n g.A g.B (notInj g.A g.n) (notInj g.B g.n)), .box 37 (bxQ q)]))
      (fun (k, q) => k ≤ i ∧ q = cUp g.A g.B i * pm k (fun k => (g.A i - g.A k) * (g.B k - g.B i)) ∧ Bz q (1 + i * 6 * 403 + k * 403)) (fun x => i - x.1) (0, q) [0, 1, 2] ⟨Nat.zero_le _, by rw [hq]; exact (Rat.mul_one _).symm, hz.mono (by omega)⟩ ⟨rfl, by simp, rfl, rfl, rfl, ⟨rfl, rfl, rfl, rfl, rfl, rfl, rfl, rfl, trivial⟩, ⟨rfl, rfl, rfl, trivial⟩⟩ ?_
    intro ⟨k, q⟩ ⟨hk, hq, hz⟩
    by_cases hki : k < i
    · refine SCmp.yes (decide_eq_true (by omega)) ?_
      have hkn : k < g.n := by omega
      have z1 := (h.daa hin hkn).mul (h.dbb hkn hin)
      refine SDraw.mkX (by kernel_rfl) ?_
      repeat refine SOp.mk _ _ (And.intro rfl rfl) rfl ?_
      refine SOp.mk _ _ (SKeys.tab (fun _ _ => rfl) <| SGet.tab hin hkn (And.intro rfl rfl)) rfl ?_
      repeat refine SOp.mk _ _ (And.intro rfl rfl) rfl ?_
      refine SOp.mk _ _ (SKeys.tab (fun _ _ => rfl) <| SGet.tab hkn hin (And.intro rfl rfl)) rfl ?_
      repeat refine SOp.mk _ _ (And.intro rfl rfl) rfl ?_
      refine SOp.mk _ _ (SCall.pure (ratmul_ok _ _ (h.daa hin hkn).sz (h.dbb hkn hin).sz (by omega)) (And.intro rfl rfl)) rfl ?_
      refine SOp.mk _ _ (SCall.pure (ratmul_ok _ _ hz.sz z1.sz (by omega)) (And.intro rfl rfl)) rfl ?_
      repeat refine SOp.mk _ _ (And.intro rfl rfl) rfl ?_
      refine SFin.mk (by kernel_rfl) ?_
      refine SWrap.i64z ((k + 1 : Nat) : Int) (by omega) (by omega) ?_
      exact ⟨(k + 1, _), [0, 1, 2], ⟨hki, by rw [hq, Rat.mul_assoc]; rfl, (hz.mul z1).mono (by omega)⟩, by show i - (k + 1) < i - k; omega, ⟨rfl, by simp, rfl, rfl, rfl, ⟨rfl, rfl, rfl, rfl, rfl, rfl, rfl, rfl, trivial⟩, ⟨rfl, rfl, rfl, trivial⟩⟩⟩
    · refine SCmp.no (decide_eq_false (by omega)) ?_
      obtain rfl : k = i := by omega
      refine SWrap.i64z ((k + 1 : Nat) : Int) (by omega) (by omega) ?_
      exact ⟨(k + 1, q), [0, 1, 2], ⟨hin, hq, hz.mono (by omega)⟩, by show g.n - (k + 1) < g.n - k; omega, ⟨rfl, by simp, rfl, rfl, rfl, ⟨rfl, rfl, rfl, rfl, rfl, trivial⟩, ⟨rfl, rfl, rfl, trivial⟩⟩⟩
  · refine SCmp.no (decide_eq_false (by omega)) ?_
    obtain rfl : i = g.n := by omega
    have hz0 : Bz q 15000 := hz.mono (by omega)
    refine SLoop.mk (Nat × Rat) (fun (i, q) => ([(2, .bptr 0 0), (4, .bptr 1 0), (6, .bptr 2 0), (48, .p (.int .i64 g.n)), (49, .p (.int .i64 i))], [.box 37 zratA, .box 119 (sidesA g.n g.A g.B (notInj g.A g.n) (notInj g.B g.n)), .box 37 (bxQ q)]))
      (fun (i, q) => i ≤ g.n ∧ q = cUp g.A g.B g.n / cDn g.A g.B i g.n ∧ Bz q (15000 + i * 6 * 201)) (fun x => g.n - x.1) (0, q) [0, 1, 2] ⟨Nat.zero_le _, by rw [hq]; show _ = _ / 1; grind, hz0.mono (by omega)⟩ ⟨rfl, by simp, rfl, rfl, rfl, ⟨rfl, rfl, rfl, rfl, rfl, trivial⟩, ⟨rfl, rfl, rfl, trivial⟩⟩ ?_
    intro ⟨i, q⟩ ⟨hi, hq, hz⟩
    by_cases hin : i < g.n
    · refine SCmp.yes (decide_eq_true (by omega)) ?_
      refine SLoop.mk (Nat × Rat) (fun (k, q) => ([(2, .bptr 0 0), (4, .bptr 1 0), (6, .bptr 2 0), (9, .p (.int .i64 i)), (48, .p (.int .i64 g.n)), (49, .p (.int .i64 i)), (53, .p (.int .i64 g.n)), (54, .p (.int .i64 k))], [.box 37 zratA, .box 119 (sidesA g.n g.A g.B (notInj g.A g.n) (notInj g.B g.n)), .box 37 (bxQ q)]))
        (fun (k, q) => k ≤ g.n ∧ q = cUp g.A g.B g.n / (cDn g.A g.B i g.n * pm k (fun k => g.A i - g.B k)) ∧ Bz q (15000 + i * 6 * 201 + k * 201)) (fun x => g.n - x.1) (0, q) [0, 1, 2] ⟨Nat.zero_le _, by rw [hq]; show _ = _ / (_ * 1); rw [Rat.mul_one], hz.mono (by omega)⟩ ⟨rfl, by simp, rfl, rfl, rfl, ⟨rfl, rfl, rfl, rfl, rfl, rfl, rfl, rfl, trivial⟩, ⟨rfl, rfl, rfl, trivial⟩⟩ ?_
      intro ⟨k, q⟩ ⟨hk, hq, hz⟩
      by_cases hkn : k < g.n
      · refine SCmp.yes (decide_eq_true (by omega)) ?_
        refine SDraw.mkX (by kernel_rfl) ?_
        repeat refine SOp.mk _ _ (And.intro rfl rfl) rfl ?_
        refine SOp.mk _ _ (SKeys.tab (fun _ _ => rfl) <| SGet.tab hin hkn (And.intro rfl rfl)) rfl ?_
        repeat refine SOp.mk _ _ (And.intro rfl rfl) rfl ?_
        refine SOp.mk _ _ (SCall.pure (cover_ok _ _ (rsub_ne (h.nab hin hkn)) hz (h.dab hin hkn) (by omega)) (And.intro rfl rfl)) rfl ?_
        repeat refine SOp.mk _ _ (And.intro rfl rfl) rfl ?_
        refine SFin.mk (by kernel_rfl) ?_
        refine SWrap.i64z ((k + 1 : Nat) : Int) (by omega) (by omega) ?_
        exact ⟨(k + 1, _), [0, 1, 2], ⟨hkn, by rw [hq, div_div, Rat.mul_assoc]; rfl, (hz.div (h.dab hin hkn)).mono (by omega)⟩, by show g.n - (k + 1) < g.n - k; omega, ⟨rfl, by simp, rfl, rfl, rfl, ⟨rfl, rfl, rfl, rfl, rfl, rfl, rfl, rfl, trivial⟩, ⟨rfl, rfl, rfl, trivial⟩⟩⟩
      · refine SCmp.no (decide_eq_false (by omega)) ?_
        obtain rfl : k = g.n := by omega
        refine SWrap.i64z ((i + 1 : Nat) : Int) (by omega) (by omega) ?_
        exact ⟨(i + 1, q), [0, 1, 2], ⟨hin, hq, hz.mono (by omega)⟩, by show g.n - (i + 1) < g.n - i; omega, ⟨rfl, by simp, rfl, rfl, rfl, ⟨rfl, rfl, rfl, rfl, rfl, trivial⟩, ⟨rfl, rfl, rfl, trivial⟩⟩⟩
    · refine SCmp.no (decide_eq_false (by omega)) ?_
      obtain rfl : i = g.n := by omega
      have hq : q = cDet g.A g.B g.n := hq
      rw [← hq]
      exact SRet.pure (.tup rfl fun i c d e1 e2 => by
        match i, e1, e2 with
        | 0, e1, e2 => cases e1; cases e2; exact .p _ (pers_rat _ _ _)
        | 1, e1, e2 => cases e1; cases e2; exact .p _ (.int _ _))
end Go.Proofs.Ytkaooejeljdbnaa

namespace Go.Proofs.Ytkaooejeljdbnaa
open Go
set_option linter.unusedVariables false
set_option linter.unusedSimpArgs false
theorem wf_mkG {k n r : Nat} {ns : List Int} (k1 : 1 ≤ k) (k7 : k ≤ 7) (n1 : 1 ≤ n) (n6 : n ≤ 6) (r1 : k = 6 ∨ k = 7 → 1 ≤ r) (r2 : r ≤ 2) (r0 : k ≤ 5 → r = 0) : Wf (mkG k n r (rowG ns)) 5 13 := by
  have hf : ∀ i, -20 ≤ rowG ns i ∧ rowG ns i ≤ 20 := fun i => smallQ_range _
  have hc := cnt_le (k := k) (r := r) n1 (show n ≤ 8 by omega) (show r ≤ 3 by omega)
  exact {
    k1 := k1, k7 := k7, n1 := n1, n6 := n6, r2 := r2, r1 := r1, r0 := r0
    bA := fun i _ => rowG_bz ns i
    bB := fun i hi => bfix_bz hf (by have hi : i < cntB k n := hi; omega) (hf _) (rowG_bz ns _) _
    bG := fun i _ => rowG_bz ns _
    bH := fun i _ => rowG_bz ns _
    ne := fun i j hi hj => bfix_ne hf (hf _) (show i < cntA k n from hi)
    bc := by omega
    c4 := by omega }
theorem gmR_ok {k : Nat} (n : Int) : (k = 6 ∨ k = 7 → 1 ≤ gmR k n) ∧ gmR k n ≤ 2 ∧ (k ≤ 5 → gmR k n = 0) := by
  unfold gmR
  refine ⟨fun h => by rw [if_pos h]; omega, by split <;> omega, fun h => if_neg (by omega)⟩
theorem gmN_ok (n most : Int) (h1 : 1 ≤ most) : 1 ≤ gmN n most ∧ (gmN n most : Int) ≤ most := by
  have := Int.emod_nonneg n (show most ≠ 0 by omega)
  have := Int.emod_lt_of_pos n (show (0 : Int) < most by omega)
  unfold gmN
  omega
theorem wf_g13 {g : GV} {ns : List Int} {b c : Nat} (h : Wf g b c) (hk : g.k = 5 ∨ g.k = 7) : Wf (g13 g ns) b c := by
  unfold g13
  split
  · rename_i ht
    have hla : g.la = g.n := h.la3 (by omega)
    have n1 := h.n1
    have ha : ∀ i, i < g.n → ∃ j, j < g.n ∧ upd g.A (g.n - 1) (g.A 0) i = g.A j := fun i hi => by
      by_cases e : i = g.n - 1
      · exact ⟨0, by omega, by rw [e, upd_same]⟩
      · exact ⟨i, hi, upd_other _ _ e⟩
    exact { h with
      bA := fun i hi => by
        obtain ⟨j, hj, e⟩ := ha i (by rw [← hla]; exact hi)
        show Bz (upd g.A (g.n - 1) (g.A 0) i) b
        rw [e]; exact h.bA j (by rw [hla]; exact hj)
      ne := fun i k hi hk => by
        obtain ⟨j, hj, e⟩ := ha i (by rw [← hla]; exact hi)
        show upd g.A (g.n - 1) (g.A 0) i ≠ g.B k
        rw [e]; exact h.ne j k (by rw [hla]; exact hj) hk }
  · exact h
theorem g13_k {g : GV} {ns : List Int} : (g13 g ns).k = g.k := by unfold g13; split <;> rfl
end Go.Proofs.Ytkaooejeljdbnaa

namespace Go.Proofs.Ytkaooejeljdbnaa
open Go
set_option linter.unusedVariables false
set_option linter.unusedSimpArgs false
set_option maxRecDepth 10000
/-- Both rows of nodes are lent. -/
def m15 : Nat → Bool
  | 0 => true
  | 1 => true
  | _ => false
def g15 : GV := ⟨5, 1, 0, fun _ => ((3 : Int) : Rat), fun _ => ((1 : Int) : Rat), fun _ => 0, fun _ => 0⟩
theorem cau15 : CauG g15 5 5 where
  k1 := by decide
  k7 := by decide
  n1 := by decide
  n6 := by decide
  r2 := by decide
  r1 := fun h => by rcases h with h | h <;> cases h
  r0 := fun _ => rfl
  bA := fun i _ => int_bz (by decide) (by decide)
  bB := fun i _ => int_bz (by decide) (by decide)
  bG := fun i _ => bz_zero.mono (by decide)
  bH := fun i _ => bz_zero.mono (by decide)
  ne := fun i j _ _ => by show ((3 : Int) : Rat) ≠ ((1 : Int) : Rat); decide
  bc := by decide
  c4 := by decide
  k5 := rfl
theorem half15_ok : CallP Try.prog 58 [.int .i64 1, .int .i64 2] (.tup [.p (ratP (1 / 2)), .p (.int .i64 0)]) [] := by
  have h := rof2_ok 1 2 (by omega) (by omega) (by omega)
  have e : mkQ (decide ((1 : Int) < 0) != decide ((2 : Int) < 0)) (1 : Int).natAbs (2 : Int).natAbs = 1 / 2 := by decide +kernel
  rwa [e] at h
theorem known15_ok : CallP Try.prog 42 [] (.p (.bool true)) [] := by
  have hd := cdet_ok m15 g15 cau15
  have e : cDet g15.A g15.B g15.n = 1 / 2 := by decide +kernel
  rw [e] at hd
  have hb : Bz (1 / 2 : Rat) 2 := ⟨by decide +kernel, by decide +kernel⟩
  have hs := rsame_ok (1 / 2) (1 / 2) hb hb (by decide)
  rw [decide_eq_true rfl] at hs
  refine callG_of_vc (wr := wr0) Γok mixed Try.func42 (by kernel_rfl) rfl (by kernel_rfl) (le_of_ble rfl) (by simp) ?_
  refine SCall.pure (rint_ok 3 (by decide)) ?_
  refine SCall.pure (rint_ok 1 (by decide)) ?_
  refine SView.all rfl <| SView.all rfl <| SCall.pureT (pvs := [genP m15 g15]) hd (fun _ => rfl) ?_
  refine SCall.pureT (half15_ok) (fun _ => rfl) ?_
  refine SCmp.yes (rfl) ?_
  refine SCall.pure (hs) ?_
  exact SRet.pure (.p _ (.bool _))
theorem cauG13 (n most : Int) (ns : List Int) (h1 : 1 ≤ most) (h6 : most ≤ 6) : CauG (g13 (mkG 5 (gmN n most) (gmR 5 n) (rowG ns)) ns) 5 13 where
  toWf := wf_g13 (by
    obtain ⟨r1, r2, r0⟩ := gmR_ok (k := 5) n
    have hn := gmN_ok n most h1
    exact wf_mkG (by decide) (by decide) hn.1 (by omega) r1 r2 r0) (.inl rfl)
  k5 := g13_k
end Go.Proofs.Ytkaooejeljdbnaa

namespace Go.Proofs.Ytkaooejeljdbnaa
open Go
set_option linter.unusedVariables false
set_option linter.unusedSimpArgs false
set_option maxRecDepth 10000
theorem CauG.cauH {g : GV} {b c : Nat} (h : CauG g b c) (ha : Inj g.A g.n) (hb : Inj g.B g.n) : CauH g.n g.A g.B := ⟨ha, hb, fun i k hi hk => h.nab hi hk⟩
theorem cuF_bz {g : GV} {b c : Nat} (h : CauG g b c) {i k : Nat} (hi : i < g.n) (hk : k < g.n) : ∀ m, m ≤ g.n → Bz (cuF g.A g.B i k m) (300 + m * 850) := by
  intro m
  induction m with
  | zero => intro _; simp only [cuF]; exact (bz_one.div (h.dab hk hi)).mono (by omega)
  | succ m ih =>
    intro hm
    have zm := (ih (by omega)).mul ((h.dab hk (show m < g.n by omega)).mul (h.dab (show m < g.n by omega) hi))
    simp only [cuF]
    have z1 := zm.div (h.daa hk (show m < g.n by omega))
    have z2 := z1.div (h.dbb (show m < g.n by omega) hi)
    have z3 := zm.div (h.dbb (show m < g.n by omega) hi)
    split <;> split
    · exact zm.mono (by omega)
    · exact z1.mono (by omega)
    · exact z3.mono (by omega)
    · exact z2.mono (by omega)
theorem undone_ok (g : GV) {b c : Nat} (h : CauG g b c) (ha : Inj g.A g.n) (hb : Inj g.B g.n) (i k : Nat) (hi : i < g.n) (hk : k < g.n) :
    CallP Try.prog 102 [.agg (sidesL g.n g.A g.B false false), .int .i64 i, .int .i64 k] (.p (ratP (cuF g.A g.B i k g.n))) [] := by
  have h6 := h.n6
  have H := h.cauH ha hb
  refine callG_of_vc (wr := wr0) Γok mixed Try.func102 (by kernel_rfl) rfl (by kernel_rfl) (le_of_ble rfl) (by simp) ?_
  refine SDraw.mkX (by kernel_rfl) ?_
  repeat refine SOp.mk _ _ (And.intro rfl rfl) rfl ?_
  refine SOp.mk _ _ (SCall.pure (cone_ok) (And.intro rfl rfl)) rfl ?_
  repeat refine SOp.mk _ _ (And.intro rfl rfl) rfl ?_
  refine SOp.mk _ _ (SKeys.tab (fun _ _ => rfl) <| SGet.tab hk hi (And.intro rfl rfl)) rfl ?_
  repeat refine SOp.mk _ _ (And.intro rfl rfl) rfl ?_
  refine SOp.mk _ _ (SCall.pure (cover_ok _ _ (H.dx hk hi) bz_one (h.dab hk hi) (by omega)) (And.intro rfl rfl)) rfl ?_
  repeat refine SOp.mk _ _ (And.intro rfl rfl) rfl ?_
  refine SFin.mk (by kernel_rfl) ?_
  refine SLoop.mk (Nat × Rat) (fun (m, q) => ([(1, .p (.int .i64 i)), (2, .p (.int .i64 k)), (3, .bptr 0 0), (6, .bptr 1 0), (7, .bptr 2 0), (18, .p (.int .i64 g.n)), (19, .p (.int .i64 m))], [.box 119 (sidesA g.n g.A g.B false false), .box 37 zratA, .box 37 (bxQ q)]))
    (fun (m, q) => m ≤ g.n ∧ q = cuF g.A g.B i k m) (fun x => g.n - x.1) (0, _) [0, 1, 2] ⟨Nat.zero_le _, rfl⟩ ⟨rfl, by simp, rfl, rfl, rfl, ⟨rfl, rfl, rfl, rfl, rfl, rfl, rfl, trivial⟩, ⟨rfl, rfl, rfl, trivial⟩⟩ ?_
  intro ⟨m, q⟩ ⟨hm, hq⟩
  by_cases hmn : m < g.n
  · refine SCmp.yes (decide_eq_true (by omega)) ?_
    have zq : Bz q (300 + m * 850) := by rw [hq]; exact cuF_bz h hi hk m hm
    have z1 := (h.dab hk hmn).mul (h.dab hmn hi)
    have z2 := zq.mul z1
    refine SDraw.mkX (by kernel_rfl) ?_
    repeat refine SOp.mk _ _ (And.intro rfl rfl) rfl ?_
    refine SOp.mk _ _ (SKeys.tab (fun _ _ => rfl) <| SGet.tab hk hmn (And.intro rfl rfl)) rfl ?_
    repeat refine SOp.mk _ _ (And.intro rfl rfl) rfl ?_
    refine SOp.mk _ _ (SKeys.tab (fun _ _ => rfl) <| SGet.tab hmn hi (And.intro rfl rfl)) rfl ?_
    repeat refine SOp.mk _ _ (And.intro rfl rfl) rfl ?_
    refine SOp.mk _ _ (SCall.pure (ratmul_ok _ _ (h.dab hk hmn).sz (h.dab hmn hi).sz (by omega)) (And.intro rfl rfl)) rfl ?_
    refine SOp.mk _ _ (SCall.pure (ratmul_ok _ _ zq.sz z1.sz (by omega)) (And.intro rfl rfl)) rfl ?_
    repeat refine SOp.mk _ _ (And.intro rfl rfl) rfl ?_
    refine SFin.mk (by kernel_rfl) ?_
    by_cases e2 : m = k
    · refine SCmp.no (neF (by omega)) ?_
      by_cases e1 : m = i
      · refine SCmp.no (neF (by omega)) ?_
        refine SWrap.i64z ((m + 1 : Nat) : Int) (by omega) (by omega) ?_
        exact ⟨(m + 1, _), [0, 1, 2], ⟨hmn, by rw [hq]; simp only [cuF]; rw [if_pos e1, if_pos e2]⟩, by show g.n - (m + 1) < g.n - m; omega, ⟨rfl, by simp, rfl, rfl, rfl, ⟨rfl, rfl, rfl, rfl, rfl, rfl, rfl, trivial⟩, ⟨rfl, rfl, rfl, trivial⟩⟩⟩
      · refine SCmp.yes (neT (by omega)) ?_
        refine SDraw.mkX (by kernel_rfl) ?_
        repeat refine SOp.mk _ _ (And.intro rfl rfl) rfl ?_
        refine SOp.mk _ _ (SKeys.tab (fun _ _ => rfl) <| SGet.tab hmn hi (And.intro rfl rfl)) rfl ?_
        repeat refine SOp.mk _ _ (And.intro rfl rfl) rfl ?_
        refine SOp.mk _ _ (SCall.pure (cover_ok _ _ (H.db hmn hi e1) z2 (h.dbb hmn hi) (by omega)) (And.intro rfl rfl)) rfl ?_
        repeat refine SOp.mk _ _ (And.intro rfl rfl) rfl ?_
        refine SFin.mk (by kernel_rfl) ?_
        refine SWrap.i64z ((m + 1 : Nat) : Int) (by omega) (by omega) ?_
        exact ⟨(m + 1, _), [0, 1, 2], ⟨hmn, by rw [hq]; simp only [cuF]; rw [if_neg e1, if_pos e2]⟩, by show g.n - (m + 1) < g.n - m; omega, ⟨rfl, by simp, rfl, rfl, rfl, ⟨rfl, rfl, rfl, rfl, rfl, rfl, rfl, trivial⟩, ⟨rfl, rfl, rfl, trivial⟩⟩⟩
    · refine SCmp.yes (neT (by omega)) ?_
      refine SDraw.mkX (by kernel_rfl) ?_
      repeat refine SOp.mk _ _ (And.intro rfl rfl) rfl ?_
      refine SOp.mk _ _ (SKeys.tab (fun _ _ => rfl) <| SGet.tab hk hmn (And.intro rfl rfl)) rfl ?_
      repeat refine SOp.mk _ _ (And.intro rfl rfl) rfl ?_
      refine SOp.mk _ _ (SCall.pure (cover_ok _ _ (H.da hk hmn (Ne.symm e2)) z2 (h.daa hk hmn) (by omega)) (And.intro rfl rfl)) rfl ?_
      repeat refine SOp.mk _ _ (And.intro rfl rfl) rfl ?_
      refine SFin.mk (by kernel_rfl) ?_
      by_cases e1 : m = i
      · refine SCmp.no (neF (by omega)) ?_
        refine SWrap.i64z ((m + 1 : Nat) : Int) (by omega) (by omega) ?_
        exact ⟨(m + 1, _), [0, 1, 2], ⟨hmn, by rw [hq]; simp only [cuF]; rw [if_pos e1, if_neg e2]⟩, by show g.n - (m + 1) < g.n - m; omega, ⟨rfl, by simp, rfl, rfl, rfl, ⟨rfl, rfl, rfl, rfl, rfl, rfl, rfl, trivial⟩, ⟨rfl, rfl, rfl, trivial⟩⟩⟩
      · refine SCmp.yes (neT (by omega)) ?_
        have z3 := z2.div (h.daa hk hmn)
        refine SDraw.mkX (by kernel_rfl) ?_
        repeat refine SOp.mk _ _ (And.intro rfl rfl) rfl ?_
        refine SOp.mk _ _ (SKeys.tab (fun _ _ => rfl) <| SGet.tab hmn hi (And.intro rfl rfl)) rfl ?_
        repeat refine SOp.mk _ _ (And.intro rfl rfl) rfl ?_
        refine SOp.mk _ _ (SCall.pure (cover_ok _ _ (H.db hmn hi e1) z3 (h.dbb hmn hi) (by omega)) (And.intro rfl rfl)) rfl ?_
        repeat refine SOp.mk _ _ (And.intro rfl rfl) rfl ?_
        refine SFin.mk (by kernel_rfl) ?_
        refine SWrap.i64z ((m + 1 : Nat) : Int) (by omega) (by omega) ?_
        exact ⟨(m + 1, _), [0, 1, 2], ⟨hmn, by rw [hq]; simp only [cuF]; rw [if_neg e1, if_neg e2]⟩, by show g.n - (m + 1) < g.n - m; omega, ⟨rfl, by simp, rfl, rfl, rfl, ⟨rfl, rfl, rfl, rfl, rfl, rfl, rfl, trivial⟩, ⟨rfl, rfl, rfl, trivial⟩⟩⟩
  · refine SCmp.no (decide_eq_false (by omega)) ?_
    obtain rfl : m = g.n := by omega
    rw [← hq]
    exact SRet.pure (.p _ (pers_rat _ _ _))
/-- What is asked of an answer of so many rows of so many cells, or none. -/
theorem cinvOne_ok (m : Nat → Bool) (g : GV) {b c : Nat} (h : CauG g b c) (ht : ¬ (Inj g.A g.n ∧ Inj g.B g.n)) : CallP Try.prog 46 [genP m g] (.tup [.p (.sl false 1 []), .p (.int .i64 9)]) [] := by
  have hb := begun_ok m g h
  refine callG_of_vc (wr := wr0) Γok mixed Try.func46 (by kernel_rfl) rfl (by kernel_rfl) (le_of_ble rfl) (by simp) ?_
  by_cases hA : Inj g.A g.n
  · rw [show sidesP g = .agg (sidesL g.n g.A g.B false true) by rw [sidesP, notInj_ff hA, notInj_tt fun hB => ht ⟨hA, hB⟩]] at hb
    refine SCall.pureT (hb) (fun _ => rfl) ?_
    refine SCmp.yes (rfl) ?_
    refine SCond.mk (fun h => by cases h) (fun _ => ?_)
    refine SCond.mk (fun _ => ?_) (fun h => by cases h)
    refine SCmp.yes (rfl) ?_
    exact SRet.pure (.tup rfl fun i c d e1 e2 => by
      match i, e1, e2 with
      | 0, e1, e2 => cases e1; cases e2; exact .emp 1
      | 1, e1, e2 => cases e1; cases e2; exact .p _ (.int _ _))
  · rw [show sidesP g = .agg (sidesL g.n g.A g.B true (notInj g.B g.n)) by rw [sidesP, notInj_tt hA]] at hb
    refine SCall.pureT (hb) (fun _ => rfl) ?_
    refine SCmp.yes (rfl) ?_
    refine SCond.mk (fun _ => ?_) (fun h => by cases h)
    refine SCmp.yes (rfl) ?_
    exact SRet.pure (.tup rfl fun i c d e1 e2 => by
      match i, e1, e2 with
      | 0, e1, e2 => cases e1; cases e2; exact .emp 1
      | 1, e1, e2 => cases e1; cases e2; exact .p _ (.int _ _))
end Go.Proofs.Ytkaooejeljdbnaa

namespace Go.Proofs.Ytkaooejeljdbnaa
open Go
set_option linter.unusedVariables false
set_option linter.unusedSimpArgs false
set_option maxRecDepth 10000
/-- Rows that are full, one that is being filled, and empty ones. -/
abbrev halr (p c n k q l : Nat) : List AV := fl n fun i => if i < k then .vec (.r p i) 3 0 c else if i = k then .vec (.t q) 3 0 l else .emp
theorem halr_set0 {p c n k q l : Nat} : (half p c n k).set k (.vec (.t q) 3 0 l) = halr p c n k q l := by
  rw [fl_set]
  refine fl_congr fun i _ => ?_
  unfold upd
  by_cases e : i = k
  · rw [if_pos e, if_neg (by omega), if_pos e]
  · rw [if_neg e]
    show (if i < k then AV.vec (.r p i) 3 0 c else .emp) = _
    by_cases e2 : i < k
    · rw [if_pos e2, if_pos e2]
    · rw [if_neg e2, if_neg e2, if_neg e]
theorem halr_set {p c n k q l q' l' : Nat} : (halr p c n k q l).set k (.vec (.t q') 3 0 l') = halr p c n k q' l' := by
  rw [fl_set]
  refine fl_congr fun i _ => ?_
  unfold upd
  by_cases e : i = k
  · rw [if_pos e, if_neg (by omega), if_pos e]
  · rw [if_neg e]
    show (if i < k then AV.vec (.r p i) 3 0 c else if i = k then _ else .emp) = _
    by_cases e2 : i < k
    · rw [if_pos e2, if_pos e2]
    · rw [if_neg e2, if_neg e2, if_neg e, if_neg e]
theorem halr_get {p c n k q l : Nat} (h : k < n) : (halr p c n k q l)[k]? = some (.vec (.t q) 3 0 l) := by
  rw [fl_get h, if_neg (Nat.lt_irrefl k), if_pos rfl]
theorem half_get {p c n k : Nat} (h : k < n) : (half p c n k)[k]? = some .emp := by
  rw [fl_get h, if_neg (Nat.lt_irrefl k)]
theorem half_ren {hs : List Nat} {P : Hp} {p c n k : Nat} (p' : Nat) (hp : hs.getD p 0 = p') (hp' : p' < 1000) : AV.renL (renW hs P) (half p c n k) = half p' c n k := by
  rw [renL_fl]
  refine fl_congr fun i hi => ?_
  have eb : Nat.blt p' 1000 = true := blt_iff.2 hp'
  by_cases e : i < k
  · rw [if_pos e, if_pos e]; simp only [AV.ren, renW, hp, eb, cond_true]
  · rw [if_neg e, if_neg e]; simp only [AV.ren]
theorem halr_ren {hs : List Nat} {P : Hp} {p c n k q l : Nat} (p' q' : Nat) (hp : hs.getD p 0 = p') (hp' : p' < 1000) (hq : hs.getD q 0 = q') (hq' : q' < 1000) : AV.renL (renW hs P) (halr p c n k q l) = halr p' c n k q' l := by
  rw [renL_fl]
  refine fl_congr fun i hi => ?_
  have eb : Nat.blt p' 1000 = true := blt_iff.2 hp'
  have ec : Nat.blt q' 1000 = true := blt_iff.2 hq'
  by_cases e : i < k
  · rw [if_pos e, if_pos e]; simp only [AV.ren, renW, hp, eb, cond_true]
  · rw [if_neg e, if_neg e]
    by_cases e2 : i = k
    · rw [if_pos e2, if_pos e2]; simp only [AV.ren, renW, hq, ec, cond_true]; rw [show ptop q' = q' from Nat.mod_eq_of_lt hq']
    · rw [if_neg e2, if_neg e2]; simp only [AV.ren]
theorem halr_in {P : Hp} {p c n k q l : Nat} (h : ∀ i, i < k → i < plenAt P p) (hq : look P (.t q) ≠ .free) : ∀ x ∈ halr p c n k q l, ∀ h, x.men h → look P h ≠ .free := by
  intro x hx g hg
  obtain ⟨i, hi, rfl⟩ := fl_mem hx
  by_cases e : i < k
  · rw [if_pos e] at hg
    simp only [AV.men] at hg
    subst hg
    exact look_row (h i e)
  · rw [if_neg e] at hg
    by_cases e2 : i = k
    · rw [if_pos e2] at hg
      simp only [AV.men] at hg
      subst hg; exact hq
    · rw [if_neg e2] at hg; exact hg.elim
abbrev cuM (g : GV) : Nat → Nat → Rat := fun i k => cuF g.A g.B i k g.n
theorem cinv_ok (m : Nat → Bool) (g : GV) {b c : Nat} (h : CauG g b c) (ha : Inj g.A g.n) (hb : Inj g.B g.n) : CallP Try.prog 46 [genP m g] (.tup [.p (matP false false g.n g.n (cuM g)), .p (.int .i64 0)]) [] := by
  have h6 := h.n6
  have n1 := h.n1
  have hbg := begun_ok m g h
  rw [show sidesP g = .agg (sidesL g.n g.A g.B false false) by rw [sidesP, notInj_ff ha, notInj_ff hb]] at hbg
  refine callG_of_vc (wr := wr0) Γok mixed Try.func46 (by kernel_rfl) rfl (by kernel_rfl) (le_of_ble rfl) (by simp) ?_
  refine SCall.pureT (hbg) (fun _ => rfl) ?_
  refine SCmp.yes (rfl) ?_
  refine SCond.mk (fun h => by cases h) (fun _ => ?_)
  refine SCond.mk (fun h => by cases h) (fun _ => ?_)
  refine SCmp.no (rfl) ?_
  refine SZ.mk (g.n : Int) rfl ?_
  refine SLt.mk (by simp) ?_
  refine SMake.mk g.n rfl (by simp; omega) (by omega) ?_
  refine SMk.rows ?_
  refine SZ.mk (g.n : Int) rfl ?_
  refine SLoop.mkT Nat (fun i => ([(4, .bptr 0 0), (6, .vec 1 1 0 g.n), (31, .p (.int .i64 g.n)), (32, .p (.int .i64 i))], [.box 119 (sidesA g.n g.A g.B false false), .rows 25 (half 2 g.n g.n i), .pool 37 3 (plr i g.n (cuM g))]))
    (fun i => i ≤ g.n) (fun i => g.n - i) 0 [1, 2, 3] _ _ (.pool 37 3 (.done _ _)) (Nat.zero_le _) ⟨rfl, by simp, rfl, rfl, rfl, ⟨rfl, rfl, rfl, rfl, trivial⟩, ⟨rfl, congrArg _ half_ren0, rfl, half_in fun i hi => absurd hi (Nat.not_lt_zero _), trivial⟩⟩ ?_
  intro i hi
  have hi : i ≤ g.n := hi
  by_cases hin : i < g.n
  · refine SCmp.yes (decide_eq_true (by omega)) ?_
    refine SLoop.mk Nat (fun k => match k with
      | 0 => ([(4, .bptr 0 0), (6, .vec 1 1 0 g.n), (7, .p (.int .i64 i)), (31, .p (.int .i64 g.n)), (32, .p (.int .i64 i)), (36, .p (.int .i64 g.n)), (37, .p (.int .i64 (0 : Nat)))], [.box 119 (sidesA g.n g.A g.B false false), .rows 25 (half 2 g.n g.n i), .pool 37 3 (plr i g.n (cuM g))])
      | k + 1 => ([(4, .bptr 0 0), (6, .vec 1 1 0 g.n), (7, .p (.int .i64 i)), (31, .p (.int .i64 g.n)), (32, .p (.int .i64 i)), (36, .p (.int .i64 g.n)), (37, .p (.int .i64 ((k + 1 : Nat) : Int)))], [.box 119 (sidesA g.n g.A g.B false false), .rows 25 (halr 2 g.n g.n i 3 (k + 1)), .pool 37 3 (plr i g.n (cuM g)), .vec 37 3 (rats (lst (k + 1) (cuM g i)))]))
      (fun k => k ≤ g.n) (fun k => g.n - k) 0 [0, 1, 2] (Nat.zero_le _) ⟨rfl, by simp, rfl, rfl, rfl, ⟨rfl, rfl, rfl, rfl, rfl, rfl, rfl, trivial⟩, ⟨rfl, congrArg _ (half_ren 2 rfl (by decide)), rfl, half_in fun i hi => by simpa [plenAt] using hi, trivial⟩⟩ ?_
    intro k hk
    have hk : k ≤ g.n := hk
    cases k with
    | zero =>
      have hkn : 0 < g.n := n1
      refine SCmp.yes (decide_eq_true (by omega)) ?_
      refine SDraw.mkX (by kernel_rfl) ?_
      repeat refine SOp.mk _ _ (And.intro rfl rfl) rfl ?_
      refine SOp.mk _ _ (SPos.mk i rfl hin (And.intro rfl rfl)) rfl ?_
      refine SOp.mk _ _ (SIdxA.mk i _ rfl (half_get hin) (And.intro rfl rfl)) rfl ?_
      repeat refine SOp.mk _ _ (And.intro rfl rfl) rfl ?_
      refine SOp.mk _ _ (SCall.pure (undone_ok g h ha hb i 0 hin hkn) (And.intro rfl rfl)) rfl ?_
      repeat refine SOp.mk _ _ (And.intro rfl rfl) rfl ?_
      refine SOp.mk _ _ (SView.all rfl <| SRoom.mk (by simp) (by simp) (And.intro rfl rfl)) rfl ?_
      refine SOp.mk _ _ (SPos.mk i rfl hin (And.intro rfl rfl)) rfl ?_
      refine SOp.mk _ _ (SLt.mk (by simp; omega) <| SAs.mk (halr 2 g.n g.n i 4 1) halr_set0 (And.intro rfl rfl)) rfl ?_
      repeat refine SOp.mk _ _ (And.intro rfl rfl) rfl ?_
      refine SFin.mk (by kernel_rfl) ?_
      refine SWrap.i64z ((0 + 1 : Nat) : Int) (by omega) (by omega) ?_
      exact ⟨0 + 1, [0, 1, 2, 4], hkn, by show g.n - (0 + 1) < g.n - 0; omega, ⟨rfl, by simp, rfl, rfl, rfl, ⟨rfl, rfl, rfl, rfl, rfl, rfl, rfl, trivial⟩, ⟨rfl, congrArg _ (halr_ren 2 4 rfl (by decide) rfl (by decide)), rfl, rfl, halr_in (fun i hi => by simpa [plenAt] using hi) (fun e => by cases e), trivial⟩⟩⟩
    | succ k =>
      by_cases hkn : k + 1 < g.n
      · refine SCmp.yes (decide_eq_true (by omega)) ?_
        refine SDraw.mkX (by kernel_rfl) ?_
        repeat refine SOp.mk _ _ (And.intro rfl rfl) rfl ?_
        refine SOp.mk _ _ (SPos.mk i rfl hin (And.intro rfl rfl)) rfl ?_
        refine SOp.mk _ _ (SIdxA.mk i _ rfl (halr_get hin) (And.intro rfl rfl)) rfl ?_
        repeat refine SOp.mk _ _ (And.intro rfl rfl) rfl ?_
        refine SOp.mk _ _ (SCall.pure (undone_ok g h ha hb i (k + 1) hin hkn) (And.intro rfl rfl)) rfl ?_
        repeat refine SOp.mk _ _ (And.intro rfl rfl) rfl ?_
        refine SOp.mk _ _ (SEqN.mk (by simp [lst]) <| SView.all rfl <| SRoom.mk (by simp [lst]; omega) (by simp [lst]; omega) <| SEs.mk (rats (lst (k + 1 + 1) (cuM g i))) (app_lst _ _ _ (rfl)) <| SZN.mk (k + 1 + 1) (by simp [lst]) (And.intro rfl rfl)) rfl ?_
        refine SOp.mk _ _ (SPos.mk i rfl hin (And.intro rfl rfl)) rfl ?_
        refine SOp.mk _ _ (SLt.mk (by simp; omega) <| SAs.mk (halr 2 g.n g.n i 5 (k + 1 + 1)) halr_set (And.intro rfl rfl)) rfl ?_
        repeat refine SOp.mk _ _ (And.intro rfl rfl) rfl ?_
        refine SFin.mk (by kernel_rfl) ?_
        refine SWrap.i64z ((k + 1 + 1 : Nat) : Int) (by omega) (by omega) ?_
        exact ⟨k + 1 + 1, [0, 1, 2, 5], hkn, by show g.n - (k + 1 + 1) < g.n - (k + 1); omega, ⟨rfl, by simp, rfl, rfl, rfl, ⟨rfl, rfl, rfl, rfl, rfl, rfl, rfl, trivial⟩, ⟨rfl, congrArg _ (halr_ren 2 5 rfl (by decide) rfl (by decide)), rfl, rfl, halr_in (fun i hi => by simpa [plenAt] using hi) (fun e => by cases e), trivial⟩⟩⟩
      · refine SCmp.no (decide_eq_false (by omega)) ?_
        have hkn : k + 1 = g.n := by omega
        have e1 : halr 2 g.n g.n i 3 (k + 1) = halq 2 g.n g.n i 3 := by rw [hkn]
        have e2 : rats (lst (k + 1) (cuM g i)) = rats (lst g.n (cuM g i)) := by rw [hkn]
        refine SWrap.i64z ((i + 1 : Nat) : Int) (by omega) (by omega) ?_
        exact ⟨i + 1, [0, 1, 4002], hin, by show g.n - (i + 1) < g.n - i; omega, ⟨rfl, by simp, rfl, rfl, rfl, ⟨rfl, rfl, rfl, rfl, trivial⟩, ⟨rfl, congrArg _ ((half_absorb rfl (by decide) (by simp [plenAt])).trans e1.symm), ⟨_, _, _, _, rfl, rfl, congrArg _ (plr_snoc.trans (congrArg (fun r => plr i g.n (cuM g) ++ [some r]) e2.symm))⟩, half_in fun i hi => by simpa [plenAt] using hi, trivial⟩⟩⟩
  · refine SCmp.no (decide_eq_false (by omega)) ?_
    obtain rfl : i = g.n := by omega
    exact SRet.pure (.tup rfl fun i c d e1 e2 => by
      match i, e1, e2 with
      | 0, e1, e2 => cases e1; cases e2; exact frzM (H := [_, _, _]) (h := 1) (p := 2) (congrArg (Blk.rows _) half_full) rfl fun i hi => hi
      | 1, e1, e2 => cases e1; cases e2; exact .p _ (.int _ _))
end Go.Proofs.Ytkaooejeljdbnaa

namespace Go.Proofs.Ytkaooejeljdbnaa
open Go
set_option linter.unusedVariables false
set_option linter.unusedSimpArgs false
set_option maxRecDepth 10000
/-- Numbers that are known, one that grows, and none. -/
abbrev xsF (n : Nat) (F : Nat → Rat) (i : Nat) (s : Rat) : List PV := fl n fun j => if j < i then ratP (F j) else if j = i then ratP s else rat0
theorem xsF_set0 {n i : Nat} {F : Nat → Rat} {s : Rat} : (fl n fun j => if j < i then ratP (F j) else rat0).set (i + 0) (ratP s) = xsF n F i s := by
  rw [fl_set]
  refine fl_congr fun j _ => ?_
  simp only [upd, Nat.add_zero]
  by_cases e : j = i
  · rw [if_pos e, if_neg (by omega), if_pos e]
  · rw [if_neg e]
    by_cases e2 : j < i
    · rw [if_pos e2, if_pos e2]
    · rw [if_neg e2, if_neg e2, if_neg e]
theorem xsF_set {n i : Nat} {F : Nat → Rat} {s s' : Rat} : (xsF n F i s).set (i + 0) (ratP s') = xsF n F i s' := by
  rw [fl_set]
  refine fl_congr fun j _ => ?_
  simp only [upd, Nat.add_zero]
  by_cases e : j = i
  · rw [if_pos e, if_neg (by omega), if_pos e]
  · rw [if_neg e]
    by_cases e2 : j < i
    · rw [if_pos e2, if_pos e2]
    · rw [if_neg e2, if_neg e2, if_neg e, if_neg e]
theorem xsF_next {n i : Nat} {F : Nat → Rat} : xsF n F i (F i) = fl n fun j => if j < i + 1 then ratP (F j) else rat0 := fl_congr fun j _ => by
  by_cases e : j = i
  · rw [if_neg (by omega), if_pos e, if_pos (by omega), e]
  · by_cases e2 : j < i
    · rw [if_pos e2, if_pos (by omega)]
    · rw [if_neg e2, if_neg e, if_neg (by omega)]
theorem xsF_get {n i : Nat} {F : Nat → Rat} {s : Rat} (h : i < n) : (xsF n F i s)[i + 0]? = some (ratP s) := by
  rw [Nat.add_zero, fl_get h, if_neg (Nat.lt_irrefl i), if_pos rfl]
theorem xsF_full {n : Nat} {F : Nat → Rat} : (fl n fun j => if j < n then ratP (F j) else rat0) = rats (lst n F) := by
  rw [rats, lst_fl, fl_map]; exact fl_congr fun j hj => if_pos hj
def cuX (g : GV) (y : Nat → Rat) (i : Nat) : Rat := sm g.n fun k => cuM g i k * y k
theorem csolveOne_ok (m : Nat → Bool) (m' : Bool) (g : GV) {b c : Nat} (h : CauG g b c) (y : Nat → Rat) (ht : ¬ (Inj g.A g.n ∧ Inj g.B g.n)) : CallP Try.prog 53 [genP m g, ratsM m' (lst g.n y)] (.tup [.p (ratsM false []), .p (.int .i64 9)]) [] := by
  have hk := h.k5
  have h6 := h.n6
  refine callG_of_vc (wr := wr0) Γok mixed Try.func53 (by kernel_rfl) rfl (by kernel_rfl) (le_of_ble rfl) (by simp) ?_
  refine SCmp.yes (eqT (by omega)) ?_
  refine SZ.mk (g.n : Int) (by simp [lst]) ?_
  refine SCmp.no (neF rfl) ?_
  refine SCall.pureT (cinvOne_ok m g h ht) (fun _ => rfl) ?_
  refine SCmp.yes (rfl) ?_
  exact SRet.pure (.tup rfl fun i c d e1 e2 => by
    match i, e1, e2 with
    | 0, e1, e2 => cases e1; cases e2; exact .emp 3
    | 1, e1, e2 => cases e1; cases e2; exact .p _ (.int _ _))
theorem cuM_bz {g : GV} {b c : Nat} (h : CauG g b c) {i k : Nat} (hi : i < g.n) (hk : k < g.n) : Bz (cuM g i k) 5400 := (cuF_bz h hi hk g.n (Nat.le_refl _)).mono (by have := h.n6; omega)
theorem csolve_ok (m : Nat → Bool) (m' : Bool) (g : GV) {b c : Nat} (h : CauG g b c) (ha : Inj g.A g.n) (hb : Inj g.B g.n) (y : Nat → Rat) (hy : ∀ i, i < g.n → Bz (y i) 100) :
    CallP Try.prog 53 [genP m g, ratsM m' (lst g.n y)] (.tup [.p (ratsM false (lst g.n (cuX g y))), .p (.int .i64 0)]) [] := by
  have hk := h.k5
  have h6 := h.n6
  have n1 := h.n1
  refine callG_of_vc (wr := wr0) Γok mixed Try.func53 (by kernel_rfl) rfl (by kernel_rfl) (le_of_ble rfl) (by simp) ?_
  refine SCmp.yes (eqT (by omega)) ?_
  refine SZ.mk (g.n : Int) (by simp [lst]) ?_
  refine SCmp.no (neF rfl) ?_
  refine SCall.pureT (cinv_ok m g h ha hb) (fun _ => rfl) ?_
  refine SCmp.no (rfl) ?_
  refine SZ.mk (g.n : Int) (by simp) ?_
  refine SZ.mk (g.n : Int) rfl ?_
  refine SLt.mk (by simp) ?_
  refine SMake.rat g.n rfl (by omega) ?_
  refine SZ.mk (g.n : Int) (by simp) ?_
  refine SLoop.mk Nat (fun i => ([(1, .p (ratsM m' (lst g.n y))), (6, .p (matP false false g.n g.n (cuM g))), (8, .vec 0 3 0 g.n), (34, .p (.int .i64 g.n)), (35, .p (.int .i64 i))], [.vec 37 3 (fl g.n fun j => if j < i then ratP (cuX g y j) else rat0)]))
    (fun i => i ≤ g.n) (fun i => g.n - i) 0 [1] (Nat.zero_le _) ⟨rfl, by simp, rfl, rfl, rfl, ⟨rfl, rfl, rfl, rfl, rfl, trivial⟩, ⟨congrArg _ ((fl_congr fun k hk => if_neg (by omega)).trans (replicate_fl g.n rat0).symm), trivial⟩⟩ ?_
  intro i hi
  have hi : i ≤ g.n := hi
  by_cases hin : i < g.n
  · refine SCmp.yes (decide_eq_true (by omega)) ?_
    refine SCall.pure (czero_ok) ?_
    refine SPos.mk i rfl hin ?_
    refine SLt.mk (by simp; omega) <| SEs.mk _ xsF_set0 ?_
    refine SIdx.mf i rfl hin ?_
    refine SZ.mk (g.n : Int) (by simp [lst]) ?_
    refine SLoop.mk (Nat × Rat) (fun (k, s) => ([(1, .p (ratsM m' (lst g.n y))), (6, .p (matP false false g.n g.n (cuM g))), (8, .vec 0 3 0 g.n), (9, .p (.int .i64 i)), (34, .p (.int .i64 g.n)), (35, .p (.int .i64 i)), (45, .p (ratsM false (lst g.n (cuM g i)))), (46, .p (.int .i64 g.n)), (47, .p (.int .i64 k))], [.vec 37 3 (xsF g.n (cuX g y) i s)]))
      (fun (k, s) => k ≤ g.n ∧ s = sm k (fun k => cuM g i k * y k) ∧ Bz s (1 + k * 5600)) (fun x => g.n - x.1) (0, 0) [0] ⟨Nat.zero_le _, rfl, bz_zero⟩ ⟨rfl, by simp, rfl, rfl, rfl, ⟨rfl, rfl, rfl, rfl, rfl, rfl, rfl, rfl, rfl, trivial⟩, ⟨rfl, trivial⟩⟩ ?_
    intro ⟨k, s⟩ ⟨hk, hs, zs⟩
    by_cases hkn : k < g.n
    · refine SCmp.yes (decide_eq_true (by omega)) ?_
      refine SIdx.rf k rfl hkn ?_
      have z1 := (cuM_bz h hin hkn).mul (hy k hkn)
      refine SDraw.mkX (by kernel_rfl) ?_
      repeat refine SOp.mk _ _ (And.intro rfl rfl) rfl ?_
      refine SOp.mk _ _ (SPos.mk i rfl hin (And.intro rfl rfl)) rfl ?_
      refine SOp.mk _ _ (SIdx.mk (i + 0) _ rfl (xsF_get hin) (And.intro rfl rfl)) rfl ?_
      repeat refine SOp.mk _ _ (And.intro rfl rfl) rfl ?_
      refine SOp.mk _ _ (SIdx.rf k rfl hkn (And.intro rfl rfl)) rfl ?_
      repeat refine SOp.mk _ _ (And.intro rfl rfl) rfl ?_
      refine SOp.mk _ _ (SCall.pure (ratmul_ok _ _ (cuM_bz h hin hkn).sz (hy k hkn).sz (by omega)) (And.intro rfl rfl)) rfl ?_
      refine SOp.mk _ _ (SCall.pure (ratadd_ok _ _ zs.sz z1.sz (by omega)) (And.intro rfl rfl)) rfl ?_
      refine SOp.mk _ _ (SPos.mk i rfl hin (And.intro rfl rfl)) rfl ?_
      refine SOp.mk _ _ (SLt.mk (by simp; omega) <| SEs.mk _ xsF_set (And.intro rfl rfl)) rfl ?_
      repeat refine SOp.mk _ _ (And.intro rfl rfl) rfl ?_
      refine SFin.mk (by kernel_rfl) ?_
      refine SWrap.i64z ((k + 1 : Nat) : Int) (by omega) (by omega) ?_
      exact ⟨(k + 1, _), [0], ⟨hkn, by rw [hs]; rfl, (zs.add z1).mono (by omega)⟩, by show g.n - (k + 1) < g.n - k; omega, ⟨rfl, by simp, rfl, rfl, rfl, ⟨rfl, rfl, rfl, rfl, rfl, rfl, rfl, rfl, rfl, trivial⟩, ⟨rfl, trivial⟩⟩⟩
    · refine SCmp.no (decide_eq_false (by omega)) ?_
      obtain rfl : k = g.n := by omega
      have hs : s = cuX g y i := hs
      subst hs
      refine SWrap.i64z ((i + 1 : Nat) : Int) (by omega) (by omega) ?_
      exact ⟨i + 1, [0], hin, by show g.n - (i + 1) < g.n - i; omega, ⟨rfl, by simp, rfl, rfl, rfl, ⟨rfl, rfl, rfl, rfl, rfl, trivial⟩, ⟨congrArg _ xsF_next.symm, trivial⟩⟩⟩
  · refine SCmp.no (decide_eq_false (by omega)) ?_
    obtain rfl : i = g.n := by omega
    exact SRet.pure (.tup rfl fun i c d e1 e2 => by
      match i, e1, e2 with
      | 0, e1, e2 => cases e1; cases e2; exact frzR (h := 0) (l := lst g.n (cuX g y)) (congrArg (Blk.vec 37 3) xsF_full) (by simp [lst])
      | 1, e1, e2 => cases e1; cases e2; exact .p _ (.int _ _))
end Go.Proofs.Ytkaooejeljdbnaa

namespace Go.Proofs.Ytkaooejeljdbnaa
open Go
set_option linter.unusedVariables false
set_option linter.unusedSimpArgs false
set_option maxRecDepth 10000
theorem within15_ok (a n : Int) (hn : 0 < n) (hn' : n < 4611686018427387904) : CallP Try.prog 51 [.int .i64 a, .int .i64 n] (.p (.int .i64 (a % n))) [] := by
  refine callG_of_vc (wr := wr0) Γok mixed Try.func51 (by kernel_rfl) rfl (by kernel_rfl) (le_of_ble rfl) (by simp) ?_
  have hw := within_aux (a := a) hn
  have hb := tmod_bd a hn
  obtain ⟨r, hr⟩ : ∃ r, r = a.tmod n := ⟨_, rfl⟩
  rw [← hr] at hw hb
  refine SNe.mk (by omega) ?_
  refine SZ.mk r hr.symm ?_
  by_cases h : r < 0
  · refine SCmp.yes (decide_eq_true (by omega)) ?_
    refine SWrap.i64z (r + n) rfl (by omega) ?_
    rw [if_pos h] at hw
    rw [← hw]
    exact SRet.pure (.p _ (.int _ _))
  · refine SCmp.no (decide_eq_false (by omega)) ?_
    rw [if_neg h] at hw
    rw [← hw]
    exact SRet.pure (.p _ (.int _ _))
/-- A bool, as it stands in a slot. -/
abbrev bAV (f b : Bool) : AV := match f with
  | true => .tf b
  | false => .p (.bool b)
/-- Are two nodes the same? -/
def tw (g : GV) (i j : Nat) : Prop := g.A i = g.A j ∨ g.B i = g.B j
theorem tw_iff {g : GV} : (∃ a c, a < g.n ∧ c < a ∧ tw g a c) ↔ ¬ (Inj g.A g.n ∧ Inj g.B g.n) := by
  constructor
  · rintro ⟨a, c, ha, hc, h | h⟩ ⟨h1, h2⟩
    · have := h1 a c ha (by omega) h; omega
    · have := h2 a c ha (by omega) h; omega
  · intro h
    apply Classical.byContradiction
    intro hc
    have key : ∀ i k, i < g.n → k < g.n → tw g i k → i = k := fun i k hi hk e => by
      rcases Nat.lt_trichotomy i k with c | c | c
      · exact absurd ⟨k, i, hk, c, e.imp Eq.symm Eq.symm⟩ hc
      · exact c
      · exact absurd ⟨i, k, hi, c, e⟩ hc
    exact h ⟨fun i k hi hk e => key i k hi hk (.inl e), fun i k hi hk e => key i k hi hk (.inr e)⟩
theorem CauG.setA {g : GV} {b c P Q : Nat} (h : CauG g b c) (hP : P < g.n) (hQ : Q < g.n) : CauG { g with A := upd g.A P (g.A Q) } b c := by
  have ha : ∀ i, i < g.n → ∃ j, j < g.n ∧ upd g.A P (g.A Q) i = g.A j := fun i hi => by
    by_cases e : i = P
    · exact ⟨Q, hQ, by rw [e, upd_same]⟩
    · exact ⟨i, hi, upd_other _ _ e⟩
  exact { h with
    bA := fun i hi => by
      obtain ⟨j, hj, e⟩ := ha i (by rw [← h.la]; exact hi)
      show Bz (upd g.A P (g.A Q) i) b
      rw [e]; exact h.bA j (by rw [h.la]; exact hj)
    ne := fun i k hi hk => by
      obtain ⟨j, hj, e⟩ := ha i (by rw [← h.la]; exact hi)
      show upd g.A P (g.A Q) i ≠ g.B k
      rw [e]; exact h.ne j k (by rw [h.la]; exact hj) hk }
theorem CauG.setB {g : GV} {b c P Q : Nat} (h : CauG g b c) (hP : P < g.n) (hQ : Q < g.n) : CauG { g with B := upd g.B P (g.B Q) } b c := by
  have ha : ∀ i, i < g.n → ∃ j, j < g.n ∧ upd g.B P (g.B Q) i = g.B j := fun i hi => by
    by_cases e : i = P
    · exact ⟨Q, hQ, by rw [e, upd_same]⟩
    · exact ⟨i, hi, upd_other _ _ e⟩
  exact { h with
    bB := fun i hi => by
      obtain ⟨j, hj, e⟩ := ha i (by rw [← h.lb]; exact hi)
      show Bz (upd g.B P (g.B Q) i) c
      rw [e]; exact h.bB j (by rw [h.lb]; exact hj)
    ne := fun i k hi hk => by
      obtain ⟨j, hj, e⟩ := ha k (by rw [← h.lb]; exact hk)
      show g.A i ≠ upd g.B P (g.B Q) k
      rw [e]; exact h.ne i j hi (by rw [h.lb]; exact hj) }
/-- One row of nodes is lent. -/
def m15A : Nat → Bool
  | 0 => true
  | _ => false
def m15B : Nat → Bool
  | 1 => true
  | _ => false
theorem cDet_bz {g : GV} {b c : Nat} (h : CauG g b c) : Bz (cDet g.A g.B g.n) 30000 := by
  have h6 := h.n6
  have pmb : ∀ {f : Nat → Rat} {D : Nat} (m : Nat), (∀ i, i < m → Bz (f i) D) → Bz (pm m f) (1 + m * D) := fun {f D} m => by
    induction m with
    | zero => exact fun _ => bz_one.mono (by omega)
    | succ m ih => intro hf; exact ((ih fun i hi => hf i (by omega)).mul (hf m (by omega))).mono (by rw [Nat.succ_mul]; omega)
  have u : Bz (cUp g.A g.B g.n) (1 + g.n * 2413) := pmb g.n fun i hi => by
    have : Bz (pm i fun k => (g.A i - g.A k) * (g.B k - g.B i)) (1 + i * 402) := pmb i fun k hk => (h.daa hi (by omega)).mul (h.dbb (by omega) hi)
    exact this.mono (by omega)
  have d : Bz (cDn g.A g.B g.n g.n) (1 + g.n * 1207) := pmb g.n fun i hi => by
    have : Bz (pm g.n fun k => g.A i - g.B k) (1 + g.n * 201) := pmb g.n fun k hk => h.dab hi hk
    exact this.mono (by omega)
  exact (u.div d).mono (by omega)
set_option maxHeartbeats 2000000 in
theorem cauTwins_ok (m m' : Bool) (n at' bt : Int) (ns bs : List Int) (second : Bool) (hn : I64 n) (hat : I64 at') (hbt : I64 bt) (hns : I64s ns) (hbs : I64s bs) :
    CallP Try.prog 10 [.int .i64 n, .sl m 1 (intsP ns), .int .i64 at', .int .i64 bt, .bool second, .sl m' 1 (intsP bs)] (.p (.bool true)) [] := by
  have hm := lmake13_ok m n 6 ns false hn hns (by omega) (by omega)
  have H := cauG13 n 6 ns (by omega) (by omega)
  rw [if_neg (by decide)] at hm
  generalize g13 (mkG 5 (gmN n 6) (gmR 5 n) (rowG ns)) ns = g at hm H
  have h6 := H.n6
  have n1 := H.n1
  have la := H.la
  have lb := H.lb
  have hwP := within15_ok at' g.n (by omega) (by omega)
  have hwQ := within15_ok bt g.n (by omega) (by omega)
  obtain ⟨P, hP, hPn⟩ : ∃ P : Nat, at' % (g.n : Int) = P ∧ P < g.n := ⟨(at' % (g.n : Int)).toNat, by have := Int.emod_nonneg at' (show (g.n : Int) ≠ 0 by omega); omega, by have := Int.emod_lt_of_pos at' (show (0 : Int) < g.n by omega); omega⟩
  obtain ⟨Q, hQ, hQn⟩ : ∃ Q : Nat, bt % (g.n : Int) = Q ∧ Q < g.n := ⟨(bt % (g.n : Int)).toNat, by have := Int.emod_nonneg bt (show (g.n : Int) ≠ 0 by omega); omega, by have := Int.emod_lt_of_pos bt (show (0 : Int) < g.n by omega); omega⟩
  rw [hP] at hwP
  rw [hQ] at hwQ
  have zA : ∀ i, i < g.n → Bz (g.A i) 100 := fun i hi => H.za hi
  have zB : ∀ i, i < g.n → Bz (g.B i) 100 := fun i hi => H.zb hi
  refine callG_of_vc (wr := wr0) Γok mixed Try.func10 (by kernel_rfl) rfl (by kernel_rfl) (le_of_ble rfl) (by simp) ?_
  refine SCall.pure (known15_ok) ?_
  refine SCmp.no (rfl) ?_
  refine SCall.pure (hm) ?_
  refine SRoom.mk (by simp [lst]; omega) (by simp [lst]; omega) ?_
  cases second with
  | false =>
    have hlen : (rats (lst g.la g.A)).length = g.n := by simp [lst, la]
    refine SCond.mk (fun h => by cases h) (fun _ => ?_)
    refine SDraw.mkX (by kernel_rfl) ?_
    repeat refine SOp.mk _ _ (And.intro rfl rfl) rfl ?_
    refine SOp.mk _ _ (SCall.pure (hwP) (And.intro rfl rfl)) rfl ?_
    repeat refine SOp.mk _ _ (And.intro rfl rfl) rfl ?_
    refine SOp.mk _ _ (SCall.pure (hwQ) (And.intro rfl rfl)) rfl ?_
    refine SOp.mk _ _ (SPos.mk Q rfl (by omega) (And.intro rfl rfl)) rfl ?_
    refine SOp.mk _ _ (SIdx.rv (Q + 0) (g.A Q) rfl (by omega) rfl (And.intro rfl rfl)) rfl ?_
    repeat refine SOp.mk _ _ (And.intro rfl rfl) rfl ?_
    refine SOp.mk _ _ (SCall.pure (rcopyq_ok (zA Q hQn) (by omega)) (And.intro rfl rfl)) rfl ?_
    refine SOp.mk _ _ (SPos.mk P rfl (by omega) (And.intro rfl rfl)) rfl ?_
    refine SOp.mk _ _ (SLt.rf (by omega) <| SEs.rf (And.intro rfl rfl)) rfl ?_
    repeat refine SOp.mk _ _ (And.intro rfl rfl) rfl ?_
    refine SFin.mk (by kernel_rfl) ?_
    refine SCond.mk (fun h => by cases h) (fun _ => ?_)
    let g' : GV := { g with A := upd g.A P (g.A Q) }
    have H' : CauG g' 5 13 := H.setA hPn hQn
    have gn : g'.n = g.n := rfl
    have n0 := H'.n6
    have la' : g'.la = g.n := by rw [H'.la, gn]
    have lb' : g'.lb = g.n := by rw [H'.lb, gn]
    refine SLoop.mk (Nat × Bool × Bool) (fun (i, f, t) => ([(5, .p (.sl m' 1 (intsP bs))), (13, .bptr 0 0), (15, bAV f t), (16, .p (.int .i64 i))], [.box 59 [.p (.int .i64 g.k), .p (.int .i64 g.n), .p (.int .i64 g.r), .vec 1 3 0 g.n, .p (ratsM false (lst g.lb g.B)), .p (ratsM false (lst g.lh g.G)), .p (ratsM false (lst g.lh g.H))], .vec 37 3 (rats (lst g.la (upd g.A (P + 0) (g.A Q))))]))
      (fun (i, f, t) => i ≤ g.n ∧ (t = true ↔ ∃ a c, a < i ∧ c < a ∧ tw g' a c)) (fun x => g.n - x.1) (0, true, false) [0, 1] ⟨Nat.zero_le _, by simp⟩ ⟨rfl, by simp, rfl, rfl, rfl, ⟨rfl, rfl, rfl, rfl, trivial⟩, ⟨congrArg (fun q => Blk.box 59 [.p (.int .i64 g.k), .p (.int .i64 g.n), .p (.int .i64 g.r), .vec 1 3 0 q, .p (ratsM false (lst g.lb g.B)), .p (ratsM false (lst g.lh g.G)), .p (ratsM false (lst g.lh g.H))]) hlen.symm, rfl, trivial⟩⟩ ?_
    intro ⟨i, f, t⟩ ⟨hi, ht⟩
    by_cases hin : i < g.n
    · refine SCmp.yes (decide_eq_true (by omega)) ?_
      refine SLoop.mk (Nat × Bool × Bool) (fun (j, f, t) => ([(5, .p (.sl m' 1 (intsP bs))), (13, .bptr 0 0), (15, bAV f t), (16, .p (.int .i64 i)), (17, .p (.int .i64 j))], [.box 59 [.p (.int .i64 g.k), .p (.int .i64 g.n), .p (.int .i64 g.r), .vec 1 3 0 g.n, .p (ratsM false (lst g.lb g.B)), .p (ratsM false (lst g.lh g.G)), .p (ratsM false (lst g.lh g.H))], .vec 37 3 (rats (lst g.la (upd g.A (P + 0) (g.A Q))))]))
        (fun (j, f, t) => j ≤ i ∧ (t = true ↔ (∃ a c, a < i ∧ c < a ∧ tw g' a c) ∨ ∃ c, c < j ∧ tw g' i c)) (fun x => i - x.1) (0, f, t) [0, 1] ⟨Nat.zero_le _, by rw [ht]; simp⟩ (by cases f <;> exact ⟨rfl, by simp, rfl, rfl, rfl, ⟨rfl, rfl, rfl, rfl, rfl, trivial⟩, ⟨rfl, rfl, trivial⟩⟩) ?_
      intro ⟨j, f, t⟩ ⟨hj, ht⟩
      by_cases hji : j < i
      · refine SCmp.yes (decide_eq_true (by omega)) ?_
        have hjn : j < g.n := by omega
        have hin' : i < g'.n := by omega
        have hjn' : j < g'.n := by omega
        have zai := H'.za hin'
        have zaj := H'.za hjn'
        have zbi := H'.zb hin'
        have zbj := H'.zb hjn'
        have nxt : ∀ t' : Bool, (t' = true ↔ (t = true ∨ tw g' i j)) → (t' = true ↔ (∃ a c, a < i ∧ c < a ∧ tw g' a c) ∨ ∃ c, c < j + 1 ∧ tw g' i c) := fun t' h => by
          rw [h, ht]
          constructor
          · rintro ((h | ⟨c, h1, h2⟩) | h)
            · exact .inl h
            · exact .inr ⟨c, by omega, h2⟩
            · exact .inr ⟨j, by omega, h⟩
          · rintro (h | ⟨c, h1, h2⟩)
            · exact .inl (.inl h)
            · by_cases e : c = j
              · subst e; exact .inr h2
              · exact .inl (.inr ⟨c, by omega, h2⟩)
        cases t with
        | true =>
          have nx := nxt true (by simp)
          cases f with
          | true =>
            refine SDraw.mk (by kernel_rfl) ?_
            repeat refine SOp.mk _ _ (And.intro rfl rfl) rfl ?_
            refine SWrap.i64z ((j + 1 : Nat) : Int) (by omega) (by omega) ?_
            exact ⟨(j + 1, true, true), [0, 1], ⟨hji, nx⟩, by show i - (j + 1) < i - j; omega, ⟨rfl, by simp, rfl, rfl, rfl, ⟨rfl, rfl, rfl, rfl, rfl, trivial⟩, ⟨rfl, rfl, trivial⟩⟩⟩
          | false =>
            refine SDraw.mk (by kernel_rfl) ?_
            repeat refine SOp.mk _ _ (And.intro rfl rfl) rfl ?_
            refine SWrap.i64z ((j + 1 : Nat) : Int) (by omega) (by omega) ?_
            exact ⟨(j + 1, true, true), [0, 1], ⟨hji, nx⟩, by show i - (j + 1) < i - j; omega, ⟨rfl, by simp, rfl, rfl, rfl, ⟨rfl, rfl, rfl, rfl, rfl, trivial⟩, ⟨rfl, rfl, trivial⟩⟩⟩
        | false =>
          have s1 := rsame_ok (g'.A i) (g'.A j) zai zaj (by omega)
          have s2 := rsame_ok (g'.B i) (g'.B j) zbi zbj (by omega)
          cases f with
          | true =>
            by_cases e1 : g'.A i = g'.A j
            · rw [decide_eq_true e1] at s1
              have nx := nxt true (by simp [tw, e1])
              refine SDraw.mk (by kernel_rfl) ?_
              repeat refine SOp.mk _ _ (And.intro rfl rfl) rfl ?_
              refine SOp.mk _ _ (SPos.mk i rfl hin (And.intro rfl rfl)) rfl ?_
              refine SOp.mk _ _ (SIdx.rv (i + 0) (g'.A i) rfl (by omega) rfl (And.intro rfl rfl)) rfl ?_
              repeat refine SOp.mk _ _ (And.intro rfl rfl) rfl ?_
              refine SOp.mk _ _ (SPos.mk j rfl hjn (And.intro rfl rfl)) rfl ?_
              refine SOp.mk _ _ (SIdx.rv (j + 0) (g'.A j) rfl (by omega) rfl (And.intro rfl rfl)) rfl ?_
              repeat refine SOp.mk _ _ (And.intro rfl rfl) rfl ?_
              refine SOp.mk _ _ (SCall.pure (s1) (And.intro rfl rfl)) rfl ?_
              repeat refine SOp.mk _ _ (And.intro rfl rfl) rfl ?_
              refine SWrap.i64z ((j + 1 : Nat) : Int) (by omega) (by omega) ?_
              exact ⟨(j + 1, true, true), [0, 1], ⟨hji, nx⟩, by show i - (j + 1) < i - j; omega, ⟨rfl, by simp, rfl, rfl, rfl, ⟨rfl, rfl, rfl, rfl, rfl, trivial⟩, ⟨rfl, rfl, trivial⟩⟩⟩
            · rw [decide_eq_false e1] at s1
              by_cases e2 : g'.B i = g'.B j
              · rw [decide_eq_true e2] at s2
                have nx := nxt true (by simp [tw, e2])
                refine SDraw.mk (by kernel_rfl) ?_
                repeat refine SOp.mk _ _ (And.intro rfl rfl) rfl ?_
                refine SOp.mk _ _ (SPos.mk i rfl hin (And.intro rfl rfl)) rfl ?_
                refine SOp.mk _ _ (SIdx.rv (i + 0) (g'.A i) rfl (by omega) rfl (And.intro rfl rfl)) rfl ?_
                repeat refine SOp.mk _ _ (And.intro rfl rfl) rfl ?_
                refine SOp.mk _ _ (SPos.mk j rfl hjn (And.intro rfl rfl)) rfl ?_
                refine SOp.mk _ _ (SIdx.rv (j + 0) (g'.A j) rfl (by omega) rfl (And.intro rfl rfl)) rfl ?_
                repeat refine SOp.mk _ _ (And.intro rfl rfl) rfl ?_
                refine SOp.mk _ _ (SCall.pure (s1) (And.intro rfl rfl)) rfl ?_
                repeat refine SOp.mk _ _ (And.intro rfl rfl) rfl ?_
                refine SOp.mk _ _ (SIdx.rf i rfl (by omega) (And.intro rfl rfl)) rfl ?_
                repeat refine SOp.mk _ _ (And.intro rfl rfl) rfl ?_
                refine SOp.mk _ _ (SIdx.rf j rfl (by omega) (And.intro rfl rfl)) rfl ?_
                repeat refine SOp.mk _ _ (And.intro rfl rfl) rfl ?_
                refine SOp.mk _ _ (SCall.pure (s2) (And.intro rfl rfl)) rfl ?_
                repeat refine SOp.mk _ _ (And.intro rfl rfl) rfl ?_
                refine SWrap.i64z ((j + 1 : Nat) : Int) (by omega) (by omega) ?_
                exact ⟨(j + 1, false, true), [0, 1], ⟨hji, nx⟩, by show i - (j + 1) < i - j; omega, ⟨rfl, by simp, rfl, rfl, rfl, ⟨rfl, rfl, rfl, rfl, rfl, trivial⟩, ⟨rfl, rfl, trivial⟩⟩⟩
              · rw [decide_eq_false e2] at s2
                have nx := nxt false (by simp [tw, e1, e2])
                refine SDraw.mk (by kernel_rfl) ?_
                repeat refine SOp.mk _ _ (And.intro rfl rfl) rfl ?_
                refine SOp.mk _ _ (SPos.mk i rfl hin (And.intro rfl rfl)) rfl ?_
                refine SOp.mk _ _ (SIdx.rv (i + 0) (g'.A i) rfl (by omega) rfl (And.intro rfl rfl)) rfl ?_
                repeat refine SOp.mk _ _ (And.intro rfl rfl) rfl ?_
                refine SOp.mk _ _ (SPos.mk j rfl hjn (And.intro rfl rfl)) rfl ?_
                refine SOp.mk _ _ (SIdx.rv (j + 0) (g'.A j) rfl (by omega) rfl (And.intro rfl rfl)) rfl ?_
                repeat refine SOp.mk _ _ (And.intro rfl rfl) rfl ?_
                refine SOp.mk _ _ (SCall.pure (s1) (And.intro rfl rfl)) rfl ?_
                repeat refine SOp.mk _ _ (And.intro rfl rfl) rfl ?_
                refine SOp.mk _ _ (SIdx.rf i rfl (by omega) (And.intro rfl rfl)) rfl ?_
                repeat refine SOp.mk _ _ (And.intro rfl rfl) rfl ?_
                refine SOp.mk _ _ (SIdx.rf j rfl (by omega) (And.intro rfl rfl)) rfl ?_
                repeat refine SOp.mk _ _ (And.intro rfl rfl) rfl ?_
                refine SOp.mk _ _ (SCall.pure (s2) (And.intro rfl rfl)) rfl ?_
                repeat refine SOp.mk _ _ (And.intro rfl rfl) rfl ?_
                refine SWrap.i64z ((j + 1 : Nat) : Int) (by omega) (by omega) ?_
                exact ⟨(j + 1, false, false), [0, 1], ⟨hji, nx⟩, by show i - (j + 1) < i - j; omega, ⟨rfl, by simp, rfl, rfl, rfl, ⟨rfl, rfl, rfl, rfl, rfl, trivial⟩, ⟨rfl, rfl, trivial⟩⟩⟩
          | false =>
            by_cases e1 : g'.A i = g'.A j
            · rw [decide_eq_true e1] at s1
              have nx := nxt true (by simp [tw, e1])
              refine SDraw.mk (by kernel_rfl) ?_
              repeat refine SOp.mk _ _ (And.intro rfl rfl) rfl ?_
              refine SOp.mk _ _ (SPos.mk i rfl hin (And.intro rfl rfl)) rfl ?_
              refine SOp.mk _ _ (SIdx.rv (i + 0) (g'.A i) rfl (by omega) rfl (And.intro rfl rfl)) rfl ?_
              repeat refine SOp.mk _ _ (And.intro rfl rfl) rfl ?_
              refine SOp.mk _ _ (SPos.mk j rfl hjn (And.intro rfl rfl)) rfl ?_
              refine SOp.mk _ _ (SIdx.rv (j + 0) (g'.A j) rfl (by omega) rfl (And.intro rfl rfl)) rfl ?_
              repeat refine SOp.mk _ _ (And.intro rfl rfl) rfl ?_
              refine SOp.mk _ _ (SCall.pure (s1) (And.intro rfl rfl)) rfl ?_
              repeat refine SOp.mk _ _ (And.intro rfl rfl) rfl ?_
              refine SWrap.i64z ((j + 1 : Nat) : Int) (by omega) (by omega) ?_
              exact ⟨(j + 1, true, true), [0, 1], ⟨hji, nx⟩, by show i - (j + 1) < i - j; omega, ⟨rfl, by simp, rfl, rfl, rfl, ⟨rfl, rfl, rfl, rfl, rfl, trivial⟩, ⟨rfl, rfl, trivial⟩⟩⟩
            · rw [decide_eq_false e1] at s1
              by_cases e2 : g'.B i = g'.B j
              · rw [decide_eq_true e2] at s2
                have nx := nxt true (by simp [tw, e2])
                refine SDraw.mk (by kernel_rfl) ?_
                repeat refine SOp.mk _ _ (And.intro rfl rfl) rfl ?_
                refine SOp.mk _ _ (SPos.mk i rfl hin (And.intro rfl rfl)) rfl ?_
                refine SOp.mk _ _ (SIdx.rv (i + 0) (g'.A i) rfl (by omega) rfl (And.intro rfl rfl)) rfl ?_
                repeat refine SOp.mk _ _ (And.intro rfl rfl) rfl ?_
                refine SOp.mk _ _ (SPos.mk j rfl hjn (And.intro rfl rfl)) rfl ?_
                refine SOp.mk _ _ (SIdx.rv (j + 0) (g'.A j) rfl (by omega) rfl (And.intro rfl rfl)) rfl ?_
                repeat refine SOp.mk _ _ (And.intro rfl rfl) rfl ?_
                refine SOp.mk _ _ (SCall.pure (s1) (And.intro rfl rfl)) rfl ?_
                repeat refine SOp.mk _ _ (And.intro rfl rfl) rfl ?_
                refine SOp.mk _ _ (SIdx.rf i rfl (by omega) (And.intro rfl rfl)) rfl ?_
                repeat refine SOp.mk _ _ (And.intro rfl rfl) rfl ?_
                refine SOp.mk _ _ (SIdx.rf j rfl (by omega) (And.intro rfl rfl)) rfl ?_
                repeat refine SOp.mk _ _ (And.intro rfl rfl) rfl ?_
                refine SOp.mk _ _ (SCall.pure (s2) (And.intro rfl rfl)) rfl ?_
                repeat refine SOp.mk _ _ (And.intro rfl rfl) rfl ?_
                refine SWrap.i64z ((j + 1 : Nat) : Int) (by omega) (by omega) ?_
                exact ⟨(j + 1, false, true), [0, 1], ⟨hji, nx⟩, by show i - (j + 1) < i - j; omega, ⟨rfl, by simp, rfl, rfl, rfl, ⟨rfl, rfl, rfl, rfl, rfl, trivial⟩, ⟨rfl, rfl, trivial⟩⟩⟩
              · rw [decide_eq_false e2] at s2
                have nx := nxt false (by simp [tw, e1, e2])
                refine SDraw.mk (by kernel_rfl) ?_
                repeat refine SOp.mk _ _ (And.intro rfl rfl) rfl ?_
                refine SOp.mk _ _ (SPos.mk i rfl hin (And.intro rfl rfl)) rfl ?_
                refine SOp.mk _ _ (SIdx.rv (i + 0) (g'.A i) rfl (by omega) rfl (And.intro rfl rfl)) rfl ?_
                repeat refine SOp.mk _ _ (And.intro rfl rfl) rfl ?_
                refine SOp.mk _ _ (SPos.mk j rfl hjn (And.intro rfl rfl)) rfl ?_
                refine SOp.mk _ _ (SIdx.rv (j + 0) (g'.A j) rfl (by omega) rfl (And.intro rfl rfl)) rfl ?_
                repeat refine SOp.mk _ _ (And.intro rfl rfl) rfl ?_
                refine SOp.mk _ _ (SCall.pure (s1) (And.intro rfl rfl)) rfl ?_
                repeat refine SOp.mk _ _ (And.intro rfl rfl) rfl ?_
                refine SOp.mk _ _ (SIdx.rf i rfl (by omega) (And.intro rfl rfl)) rfl ?_
                repeat refine SOp.mk _ _ (And.intro rfl rfl) rfl ?_
                refine SOp.mk _ _ (SIdx.rf j rfl (by omega) (And.intro rfl rfl)) rfl ?_
                repeat refine SOp.mk _ _ (And.intro rfl rfl) rfl ?_
                refine SOp.mk _ _ (SCall.pure (s2) (And.intro rfl rfl)) rfl ?_
                repeat refine SOp.mk _ _ (And.intro rfl rfl) rfl ?_
                refine SWrap.i64z ((j + 1 : Nat) : Int) (by omega) (by omega) ?_
                exact ⟨(j + 1, false, false), [0, 1], ⟨hji, nx⟩, by show i - (j + 1) < i - j; omega, ⟨rfl, by simp, rfl, rfl, rfl, ⟨rfl, rfl, rfl, rfl, rfl, trivial⟩, ⟨rfl, rfl, trivial⟩⟩⟩
      · refine SCmp.no (decide_eq_false (by omega)) ?_
        obtain rfl : j = i := by omega
        refine SWrap.i64z ((j + 1 : Nat) : Int) (by omega) (by omega) ?_
        refine ⟨(j + 1, f, t), [0, 1], ⟨hin, ?_⟩, by show g.n - (j + 1) < g.n - j; omega, by cases f <;> exact ⟨rfl, by simp, rfl, rfl, rfl, ⟨rfl, rfl, rfl, rfl, trivial⟩, ⟨rfl, rfl, trivial⟩⟩⟩
        rw [ht]
        constructor
        · rintro (⟨a, c, h1, h2, h3⟩ | ⟨c, h1, h2⟩)
          · exact ⟨a, c, by omega, h2, h3⟩
          · exact ⟨j, c, by omega, h1, h2⟩
        · rintro ⟨a, c, h1, h2, h3⟩
          by_cases e : a = j
          · subst e; exact .inr ⟨c, h2, h3⟩
          · exact .inl ⟨a, c, by omega, h2, h3⟩
    · refine SCmp.no (decide_eq_false (by omega)) ?_
      obtain rfl : i = g.n := by omega
      have ht : t = true ↔ ¬ (Inj g'.A g'.n ∧ Inj g'.B g'.n) := by rw [← tw_iff, gn]; exact ht
      have hd := cdet_ok m15A g' H'
      have hz := cDet_bz H'
      have hN := rnought_ok (cDet g'.A g'.B g'.n)
      have hrow := row2_ok m' bs hbs g.n (by omega)
      cases t with
      | true =>
        have hT := ht.1 rfl
        have hi := cinvOne_ok m15A g' H' hT
        have hs := csolveOne_ok m15A false g' H' (rowG bs) hT
        have hs : CallP Try.prog 53 [genP m15A g', ratsM false (lst g.n (rowG bs))] _ [] := hs
        rw [decide_eq_true ((cDet_zero fun i k hi hk => H'.nab hi hk).2 hT)] at hN
        cases f with
        | true =>
          refine SView.all (by simp [lst]; omega) <| SCall.pureT (pvs := [genP m15A g']) hd (fun _ => rfl) ?_
          refine SView.all (by simp [lst]; omega) <| SCall.pureT (pvs := [genP m15A g']) hi (fun _ => rfl) ?_
          refine SDraw.mk (by kernel_rfl) ?_
          repeat refine SOp.mk _ _ (And.intro rfl rfl) rfl ?_
          refine SOp.mk _ _ (SCall.pure (hrow) (And.intro rfl rfl)) rfl ?_
          refine SOp.mk _ _ (SView.all (by simp [lst]; omega) <| SCall.pureT (pvs := [genP m15A g', ratsM false (lst g.n (rowG bs))]) hs (fun _ => rfl) (And.intro rfl rfl)) rfl ?_
          repeat refine SOp.mk _ _ (And.intro rfl rfl) rfl ?_
          refine SCmp.no (rfl) ?_
          refine SCall.pure (hN) ?_
          refine SCmp.no (rfl) ?_
          refine SCmp.yes (rfl) ?_
          refine SCmp.no (rfl) ?_
          refine SCmp.yes (rfl) ?_
          refine SCmp.no (rfl) ?_
          refine SZ.mk 0 rfl ?_
          refine SCmp.yes (rfl) ?_
          exact SRet.pure (.tf _)
        | false =>
          refine SView.all (by simp [lst]; omega) <| SCall.pureT (pvs := [genP m15A g']) hd (fun _ => rfl) ?_
          refine SView.all (by simp [lst]; omega) <| SCall.pureT (pvs := [genP m15A g']) hi (fun _ => rfl) ?_
          refine SDraw.mk (by kernel_rfl) ?_
          repeat refine SOp.mk _ _ (And.intro rfl rfl) rfl ?_
          refine SOp.mk _ _ (SCall.pure (hrow) (And.intro rfl rfl)) rfl ?_
          refine SOp.mk _ _ (SView.all (by simp [lst]; omega) <| SCall.pureT (pvs := [genP m15A g', ratsM false (lst g.n (rowG bs))]) hs (fun _ => rfl) (And.intro rfl rfl)) rfl ?_
          repeat refine SOp.mk _ _ (And.intro rfl rfl) rfl ?_
          refine SCmp.no (rfl) ?_
          refine SCall.pure (hN) ?_
          refine SCmp.no (rfl) ?_
          refine SCmp.yes (rfl) ?_
          refine SCmp.no (rfl) ?_
          refine SCmp.yes (rfl) ?_
          refine SCmp.no (rfl) ?_
          refine SCond.mk (fun _ => ?_) (fun h => by cases h)
          refine SZ.mk 0 rfl ?_
          refine SCmp.yes (rfl) ?_
          exact SRet.pure (.tf _)
      | false =>
        have hT : Inj g'.A g'.n ∧ Inj g'.B g'.n := Classical.not_not.1 fun h => by cases ht.2 h
        have hi := cinv_ok m15A g' H' hT.1 hT.2
        have hs := csolve_ok m15A false g' H' hT.1 hT.2 (rowG bs) (fun i _ => (rowG_bz bs i).mono (by omega))
        have hs : CallP Try.prog 53 [genP m15A g', ratsM false (lst g.n (rowG bs))] _ [] := hs
        rw [decide_eq_false fun h => (cDet_zero fun i k hi hk => H'.nab hi hk).1 h hT] at hN
        cases f with
        | true =>
          refine SView.all (by simp [lst]; omega) <| SCall.pureT (pvs := [genP m15A g']) hd (fun _ => rfl) ?_
          refine SView.all (by simp [lst]; omega) <| SCall.pureT (pvs := [genP m15A g']) hi (fun _ => rfl) ?_
          refine SDraw.mk (by kernel_rfl) ?_
          repeat refine SOp.mk _ _ (And.intro rfl rfl) rfl ?_
          refine SOp.mk _ _ (SCall.pure (hrow) (And.intro rfl rfl)) rfl ?_
          refine SOp.mk _ _ (SView.all (by simp [lst]; omega) <| SCall.pureT (pvs := [genP m15A g', ratsM false (lst g.n (rowG bs))]) hs (fun _ => rfl) (And.intro rfl rfl)) rfl ?_
          repeat refine SOp.mk _ _ (And.intro rfl rfl) rfl ?_
          refine SCmp.no (rfl) ?_
          refine SCall.pure (hN) ?_
          refine SCmp.no (rfl) ?_
          refine SCmp.no (rfl) ?_
          refine SCmp.no (rfl) ?_
          refine SCmp.no (rfl) ?_
          refine SCmp.no (rfl) ?_
          refine SCmp.yes (rfl) ?_
          refine SCmp.yes (rfl) ?_
          refine SZ.mk (g.n : Int) (by simp [lst] <;> rfl) ?_
          refine SCmp.yes (eqT rfl) ?_
          exact SRet.pure (.tf _)
        | false =>
          refine SView.all (by simp [lst]; omega) <| SCall.pureT (pvs := [genP m15A g']) hd (fun _ => rfl) ?_
          refine SView.all (by simp [lst]; omega) <| SCall.pureT (pvs := [genP m15A g']) hi (fun _ => rfl) ?_
          refine SDraw.mk (by kernel_rfl) ?_
          repeat refine SOp.mk _ _ (And.intro rfl rfl) rfl ?_
          refine SOp.mk _ _ (SCall.pure (hrow) (And.intro rfl rfl)) rfl ?_
          refine SOp.mk _ _ (SView.all (by simp [lst]; omega) <| SCall.pureT (pvs := [genP m15A g', ratsM false (lst g.n (rowG bs))]) hs (fun _ => rfl) (And.intro rfl rfl)) rfl ?_
          repeat refine SOp.mk _ _ (And.intro rfl rfl) rfl ?_
          refine SCmp.no (rfl) ?_
          refine SCall.pure (hN) ?_
          refine SCmp.no (rfl) ?_
          refine SCmp.no (rfl) ?_
          refine SCmp.no (rfl) ?_
          refine SCmp.no (rfl) ?_
          refine SCmp.no (rfl) ?_
          refine SCond.mk (fun h => by cases h) (fun _ => ?_)
          refine SCmp.yes (rfl) ?_
          refine SCmp.yes (rfl) ?_
          refine SCmp.yes (rfl) ?_
          refine SZ.mk (g.n : Int) (by simp [lst] <;> rfl) ?_
          refine SCmp.yes (eqT rfl) ?_
          exact SRet.pure (.tf _)
  | true =>
    have hlen : (rats (lst g.lb g.B)).length = g.n := by simp [lst, lb]
    refine SCond.mk (fun _ => ?_) (fun h => by cases h)
    refine SRoom.mk (by simp [lst]; omega) (by simp [lst]; omega) ?_
    refine SDraw.mkX (by kernel_rfl) ?_
    repeat refine SOp.mk _ _ (And.intro rfl rfl) rfl ?_
    refine SOp.mk _ _ (SCall.pure (hwP) (And.intro rfl rfl)) rfl ?_
    repeat refine SOp.mk _ _ (And.intro rfl rfl) rfl ?_
    refine SOp.mk _ _ (SCall.pure (hwQ) (And.intro rfl rfl)) rfl ?_
    refine SOp.mk _ _ (SPos.mk Q rfl (by omega) (And.intro rfl rfl)) rfl ?_
    refine SOp.mk _ _ (SIdx.rv (Q + 0) (g.B Q) rfl (by omega) rfl (And.intro rfl rfl)) rfl ?_
    repeat refine SOp.mk _ _ (And.intro rfl rfl) rfl ?_
    refine SOp.mk _ _ (SCall.pure (rcopyq_ok (zB Q hQn) (by omega)) (And.intro rfl rfl)) rfl ?_
    refine SOp.mk _ _ (SPos.mk P rfl (by omega) (And.intro rfl rfl)) rfl ?_
    refine SOp.mk _ _ (SLt.rf (by omega) <| SEs.rf (And.intro rfl rfl)) rfl ?_
    repeat refine SOp.mk _ _ (And.intro rfl rfl) rfl ?_
    refine SFin.mk (by kernel_rfl) ?_
    refine SCond.mk (fun _ => ?_) (fun h => by cases h)
    let g' : GV := { g with B := upd g.B P (g.B Q) }
    have H' : CauG g' 5 13 := H.setB hPn hQn
    have gn : g'.n = g.n := rfl
    have n0 := H'.n6
    have la' : g'.la = g.n := by rw [H'.la, gn]
    have lb' : g'.lb = g.n := by rw [H'.lb, gn]
    refine SLoop.mk (Nat × Bool × Bool) (fun (i, f, t) => ([(5, .p (.sl m' 1 (intsP bs))), (13, .bptr 0 0), (15, bAV f t), (16, .p (.int .i64 i))], [.box 59 [.p (.int .i64 g.k), .p (.int .i64 g.n), .p (.int .i64 g.r), .p (ratsM false (lst g.la g.A)), .vec 1 3 0 g.n, .p (ratsM false (lst g.lh g.G)), .p (ratsM false (lst g.lh g.H))], .vec 37 3 (rats (lst g.lb (upd g.B (P + 0) (g.B Q))))]))
      (fun (i, f, t) => i ≤ g.n ∧ (t = true ↔ ∃ a c, a < i ∧ c < a ∧ tw g' a c)) (fun x => g.n - x.1) (0, true, false) [0, 2] ⟨Nat.zero_le _, by simp⟩ ⟨rfl, by simp, rfl, rfl, rfl, ⟨rfl, rfl, rfl, rfl, trivial⟩, ⟨congrArg (fun q => Blk.box 59 [.p (.int .i64 g.k), .p (.int .i64 g.n), .p (.int .i64 g.r), .p (ratsM false (lst g.la g.A)), .vec 2 3 0 q, .p (ratsM false (lst g.lh g.G)), .p (ratsM false (lst g.lh g.H))]) hlen.symm, rfl, trivial⟩⟩ ?_
    intro ⟨i, f, t⟩ ⟨hi, ht⟩
    by_cases hin : i < g.n
    · refine SCmp.yes (decide_eq_true (by omega)) ?_
      refine SLoop.mk (Nat × Bool × Bool) (fun (j, f, t) => ([(5, .p (.sl m' 1 (intsP bs))), (13, .bptr 0 0), (15, bAV f t), (16, .p (.int .i64 i)), (17, .p (.int .i64 j))], [.box 59 [.p (.int .i64 g.k), .p (.int .i64 g.n), .p (.int .i64 g.r), .p (ratsM false (lst g.la g.A)), .vec 1 3 0 g.n, .p (ratsM false (lst g.lh g.G)), .p (ratsM false (lst g.lh g.H))], .vec 37 3 (rats (lst g.lb (upd g.B (P + 0) (g.B Q))))]))
        (fun (j, f, t) => j ≤ i ∧ (t = true ↔ (∃ a c, a < i ∧ c < a ∧ tw g' a c) ∨ ∃ c, c < j ∧ tw g' i c)) (fun x => i - x.1) (0, f, t) [0, 1] ⟨Nat.zero_le _, by rw [ht]; simp⟩ (by cases f <;> exact ⟨rfl, by simp, rfl, rfl, rfl, ⟨rfl, rfl, rfl, rfl, rfl, trivial⟩, ⟨rfl, rfl, trivial⟩⟩) ?_
      intro ⟨j, f, t⟩ ⟨hj, ht⟩
      by_cases hji : j < i
      · refine SCmp.yes (decide_eq_true (by omega)) ?_
        have hjn : j < g.n := by omega
        have hin' : i < g'.n := by omega
        have hjn' : j < g'.n := by omega
        have zai := H'.za hin'
        have zaj := H'.za hjn'
        have zbi := H'.zb hin'
        have zbj := H'.zb hjn'
        have nxt : ∀ t' : Bool, (t' = true ↔ (t = true ∨ tw g' i j)) → (t' = true ↔ (∃ a c, a < i ∧ c < a ∧ tw g' a c) ∨ ∃ c, c < j + 1 ∧ tw g' i c) := fun t' h => by
          rw [h, ht]
          constructor
          · rintro ((h | ⟨c, h1, h2⟩) | h)
            · exact .inl h
            · exact .inr ⟨c, by omega, h2⟩
            · exact .inr ⟨j, by omega, h⟩
          · rintro (h | ⟨c, h1, h2⟩)
            · exact .inl (.inl h)
            · by_cases e : c = j
              · subst e; exact .inr h2
              · exact .inl (.inr ⟨c, by omega, h2⟩)
        cases t with
        | true =>
          have nx := nxt true (by simp)
          cases f with
          | true =>
            refine SDraw.mk (by kernel_rfl) ?_
            repeat refine SOp.mk _ _ (And.intro rfl rfl) rfl ?_
            refine SWrap.i64z ((j + 1 : Nat) : Int) (by omega) (by omega) ?_
            exact ⟨(j + 1, true, true), [0, 1], ⟨hji, nx⟩, by show i - (j + 1) < i - j; omega, ⟨rfl, by simp, rfl, rfl, rfl, ⟨rfl, rfl, rfl, rfl, rfl, trivial⟩, ⟨rfl, rfl, trivial⟩⟩⟩
          | false =>
            refine SDraw.mk (by kernel_rfl) ?_
            repeat refine SOp.mk _ _ (And.intro rfl rfl) rfl ?_
            refine SWrap.i64z ((j + 1 : Nat) : Int) (by omega) (by omega) ?_
            exact ⟨(j + 1, true, true), [0, 1], ⟨hji, nx⟩, by show i - (j + 1) < i - j; omega, ⟨rfl, by simp, rfl, rfl, rfl, ⟨rfl, rfl, rfl, rfl, rfl, trivial⟩, ⟨rfl, rfl, trivial⟩⟩⟩
        | false =>
          have s1 := rsame_ok (g'.A i) (g'.A j) zai zaj (by omega)
          have s2 := rsame_ok (g'.B i) (g'.B j) zbi zbj (by omega)
          cases f with
          | true =>
            by_cases e1 : g'.A i = g'.A j
            · rw [decide_eq_true e1] at s1
              have nx := nxt true (by simp [tw, e1])
              refine SDraw.mk (by kernel_rfl) ?_
              repeat refine SOp.mk _ _ (And.intro rfl rfl) rfl ?_
              refine SOp.mk _ _ (SIdx.rf i rfl (by omega) (And.intro rfl rfl)) rfl ?_
              repeat refine SOp.mk _ _ (And.intro rfl rfl) rfl ?_
              refine SOp.mk _ _ (SIdx.rf j rfl (by omega) (And.intro rfl rfl)) rfl ?_
              repeat refine SOp.mk _ _ (And.intro rfl rfl) rfl ?_
              refine SOp.mk _ _ (SCall.pure (s1) (And.intro rfl rfl)) rfl ?_
              repeat refine SOp.mk _ _ (And.intro rfl rfl) rfl ?_
              refine SWrap.i64z ((j + 1 : Nat) : Int) (by omega) (by omega) ?_
              exact ⟨(j + 1, true, true), [0, 1], ⟨hji, nx⟩, by show i - (j + 1) < i - j; omega, ⟨rfl, by simp, rfl, rfl, rfl, ⟨rfl, rfl, rfl, rfl, rfl, trivial⟩, ⟨rfl, rfl, trivial⟩⟩⟩
            · rw [decide_eq_false e1] at s1
              by_cases e2 : g'.B i = g'.B j
              · rw [decide_eq_true e2] at s2
                have nx := nxt true (by simp [tw, e2])
                refine SDraw.mk (by kernel_rfl) ?_
                repeat refine SOp.mk _ _ (And.intro rfl rfl) rfl ?_
                refine SOp.mk _ _ (SIdx.rf i rfl (by omega) (And.intro rfl rfl)) rfl ?_
                repeat refine SOp.mk _ _ (And.intro rfl rfl) rfl ?_
                refine SOp.mk _ _ (SIdx.rf j rfl (by omega) (And.intro rfl rfl)) rfl ?_
                repeat refine SOp.mk _ _ (And.intro rfl rfl) rfl ?_
                refine SOp.mk _ _ (SCall.pure (s1) (And.intro rfl rfl)) rfl ?_
                repeat refine SOp.mk _ _ (And.intro rfl rfl) rfl ?_
                refine SOp.mk _ _ (SPos.mk i rfl hin (And.intro rfl rfl)) rfl ?_
                refine SOp.mk _ _ (SIdx.rv (i + 0) (g'.B i) rfl (by omega) rfl (And.intro rfl rfl)) rfl ?_
                repeat refine SOp.mk _ _ (And.intro rfl rfl) rfl ?_
                refine SOp.mk _ _ (SPos.mk j rfl hjn (And.intro rfl rfl)) rfl ?_
                refine SOp.mk _ _ (SIdx.rv (j + 0) (g'.B j) rfl (by omega) rfl (And.intro rfl rfl)) rfl ?_
                repeat refine SOp.mk _ _ (And.intro rfl rfl) rfl ?_
                refine SOp.mk _ _ (SCall.pure (s2) (And.intro rfl rfl)) rfl ?_
                repeat refine SOp.mk _ _ (And.intro rfl rfl) rfl ?_
                refine SWrap.i64z ((j + 1 : Nat) : Int) (by omega) (by omega) ?_
                exact ⟨(j + 1, false, true), [0, 1], ⟨hji, nx⟩, by show i - (j + 1) < i - j; omega, ⟨rfl, by simp, rfl, rfl, rfl, ⟨rfl, rfl, rfl, rfl, rfl, trivial⟩, ⟨rfl, rfl, trivial⟩⟩⟩
              · rw [decide_eq_false e2] at s2
                have nx := nxt false (by simp [tw, e1, e2])
                refine SDraw.mk (by kernel_rfl) ?_
                repeat refine SOp.mk _ _ (And.intro rfl rfl) rfl ?_
                refine SOp.mk _ _ (SIdx.rf i rfl (by omega) (And.intro rfl rfl)) rfl ?_
                repeat refine SOp.mk _ _ (And.intro rfl rfl) rfl ?_
                refine SOp.mk _ _ (SIdx.rf j rfl (by omega) (And.intro rfl rfl)) rfl ?_
                repeat refine SOp.mk _ _ (And.intro rfl rfl) rfl ?_
                refine SOp.mk _ _ (SCall.pure (s1) (And.intro rfl rfl)) rfl ?_
                repeat refine SOp.mk _ _ (And.intro rfl rfl) rfl ?_
                refine SOp.mk _ _ (SPos.mk i rfl hin (And.intro rfl rfl)) rfl ?_
                refine SOp.mk _ _ (SIdx.rv (i + 0) (g'.B i) rfl (by omega) rfl (And.intro rfl rfl)) rfl ?_
                repeat refine SOp.mk _ _ (And.intro rfl rfl) rfl ?_
                refine SOp.mk _ _ (SPos.mk j rfl hjn (And.intro rfl rfl)) rfl ?_
                refine SOp.mk _ _ (SIdx.rv (j + 0) (g'.B j) rfl (by omega) rfl (And.intro rfl rfl)) rfl ?_
                repeat refine SOp.mk _ _ (And.intro rfl rfl) rfl ?_
                refine SOp.mk _ _ (SCall.pure (s2) (And.intro rfl rfl)) rfl ?_
                repeat refine SOp.mk _ _ (And.intro rfl rfl) rfl ?_
                refine SWrap.i64z ((j + 1 : Nat) : Int) (by omega) (by omega) ?_
                exact ⟨(j + 1, false, false), [0, 1], ⟨hji, nx⟩, by show i - (j + 1) < i - j; omega, ⟨rfl, by simp, rfl, rfl, rfl, ⟨rfl, rfl, rfl, rfl, rfl, trivial⟩, ⟨rfl, rfl, trivial⟩⟩⟩
          | false =>
            by_cases e1 : g'.A i = g'.A j
            · rw [decide_eq_true e1] at s1
              have nx := nxt true (by simp [tw, e1])
              refine SDraw.mk (by kernel_rfl) ?_
              repeat refine SOp.mk _ _ (And.intro rfl rfl) rfl ?_
              refine SOp.mk _ _ (SIdx.rf i rfl (by omega) (And.intro rfl rfl)) rfl ?_
              repeat refine SOp.mk _ _ (And.intro rfl rfl) rfl ?_
              refine SOp.mk _ _ (SIdx.rf j rfl (by omega) (And.intro rfl rfl)) rfl ?_
              repeat refine SOp.mk _ _ (And.intro rfl rfl) rfl ?_
              refine SOp.mk _ _ (SCall.pure (s1) (And.intro rfl rfl)) rfl ?_
              repeat refine SOp.mk _ _ (And.intro rfl rfl) rfl ?_
              refine SWrap.i64z ((j + 1 : Nat) : Int) (by omega) (by omega) ?_
              exact ⟨(j + 1, true, true), [0, 1], ⟨hji, nx⟩, by show i - (j + 1) < i - j; omega, ⟨rfl, by simp, rfl, rfl, rfl, ⟨rfl, rfl, rfl, rfl, rfl, trivial⟩, ⟨rfl, rfl, trivial⟩⟩⟩
            · rw [decide_eq_false e1] at s1
              by_cases e2 : g'.B i = g'.B j
              · rw [decide_eq_true e2] at s2
                have nx := nxt true (by simp [tw, e2])
                refine SDraw.mk (by kernel_rfl) ?_
                repeat refine SOp.mk _ _ (And.intro rfl rfl) rfl ?_
                refine SOp.mk _ _ (SIdx.rf i rfl (by omega) (And.intro rfl rfl)) rfl ?_
                repeat refine SOp.mk _ _ (And.intro rfl rfl) rfl ?_
                refine SOp.mk _ _ (SIdx.rf j rfl (by omega) (And.intro rfl rfl)) rfl ?_
                repeat refine SOp.mk _ _ (And.intro rfl rfl) rfl ?_
                refine SOp.mk _ _ (SCall.pure (s1) (And.intro rfl rfl)) rfl ?_
                repeat refine SOp.mk _ _ (And.intro rfl rfl) rfl ?_
                refine SOp.mk _ _ (SPos.mk i rfl hin (And.intro rfl rfl)) rfl ?_
                refine SOp.mk _ _ (SIdx.rv (i + 0) (g'.B i) rfl (by omega) rfl (And.intro rfl rfl)) rfl ?_
                repeat refine SOp.mk _ _ (And.intro rfl rfl) rfl ?_
                refine SOp.mk _ _ (SPos.mk j rfl hjn (And.intro rfl rfl)) rfl ?_
                refine SOp.mk _ _ (SIdx.rv (j + 0) (g'.B j) rfl (by omega) rfl (And.intro rfl rfl)) rfl ?_
                repeat refine SOp.mk _ _ (And.intro rfl rfl) rfl ?_
                refine SOp.mk _ _ (SCall.pure (s2) (And.intro rfl rfl)) rfl ?_
                repeat refine SOp.mk _ _ (And.intro rfl rfl) rfl ?_
                refine SWrap.i64z ((j + 1 : Nat) : Int) (by omega) (by omega) ?_
                exact ⟨(j + 1, false, true), [0, 1], ⟨hji, nx⟩, by show i - (j + 1) < i - j; omega, ⟨rfl, by simp, rfl, rfl, rfl, ⟨rfl, rfl, rfl, rfl, rfl, trivial⟩, ⟨rfl, rfl, trivial⟩⟩⟩
              · rw [decide_eq_false e2] at s2
                have nx := nxt false (by simp [tw, e1, e2])
                refine SDraw.mk (by kernel_rfl) ?_
                repeat refine SOp.mk _ _ (And.intro rfl rfl) rfl ?_
                refine SOp.mk _ _ (SIdx.rf i rfl (by omega) (And.intro rfl rfl)) rfl ?_
                repeat refine SOp.mk _ _ (And.intro rfl rfl) rfl ?_
                refine SOp.mk _ _ (SIdx.rf j rfl (by omega) (And.intro rfl rfl)) rfl ?_
                repeat refine SOp.mk _ _ (And.intro rfl rfl) rfl ?_
                refine SOp.mk _ _ (SCall.pure (s1) (And.intro rfl rfl)) rfl ?_
                repeat refine SOp.mk _ _ (And.intro rfl rfl) rfl ?_
                refine SOp.mk _ _ (SPos.mk i rfl hin (And.intro rfl rfl)) rfl ?_
                refine SOp.mk _ _ (SIdx.rv (i + 0) (g'.B i) rfl (by omega) rfl (And.intro rfl rfl)) rfl ?_
                repeat refine SOp.mk _ _ (And.intro rfl rfl) rfl ?_
                refine SOp.mk _ _ (SPos.mk j rfl hjn (And.intro rfl rfl)) rfl ?_
                refine SOp.mk _ _ (SIdx.rv (j + 0) (g'.B j) rfl (by omega) rfl (And.intro rfl rfl)) rfl ?_
                repeat refine SOp.mk _ _ (And.intro rfl rfl) rfl ?_
                refine SOp.mk _ _ (SCall.pure (s2) (And.intro rfl rfl)) rfl ?_
                repeat refine SOp.mk _ _ (And.intro rfl rfl) rfl ?_
                refine SWrap.i64z ((j + 1 : Nat) : Int) (by omega) (by omega) ?_
                exact ⟨(j + 1, false, false), [0, 1], ⟨hji, nx⟩, by show i - (j + 1) < i - j; omega, ⟨rfl, by simp, rfl, rfl, rfl, ⟨rfl, rfl, rfl, rfl, rfl, trivial⟩, ⟨rfl, rfl, trivial⟩⟩⟩
      · refine SCmp.no (decide_eq_false (by omega)) ?_
        obtain rfl : j = i := by omega
        refine SWrap.i64z ((j + 1 : Nat) : Int) (by omega) (by omega) ?_
        refine ⟨(j + 1, f, t), [0, 1], ⟨hin, ?_⟩, by show g.n - (j + 1) < g.n - j; omega, by cases f <;> exact ⟨rfl, by simp, rfl, rfl, rfl, ⟨rfl, rfl, rfl, rfl, trivial⟩, ⟨rfl, rfl, trivial⟩⟩⟩
        rw [ht]
        constructor
        · rintro (⟨a, c, h1, h2, h3⟩ | ⟨c, h1, h2⟩)
          · exact ⟨a, c, by omega, h2, h3⟩
          · exact ⟨j, c, by omega, h1, h2⟩
        · rintro ⟨a, c, h1, h2, h3⟩
          by_cases e : a = j
          · subst e; exact .inr ⟨c, h2, h3⟩
          · exact .inl ⟨a, c, by omega, h2, h3⟩
    · refine SCmp.no (decide_eq_false (by omega)) ?_
      obtain rfl : i = g.n := by omega
      have ht : t = true ↔ ¬ (Inj g'.A g'.n ∧ Inj g'.B g'.n) := by rw [← tw_iff, gn]; exact ht
      have hd := cdet_ok m15B g' H'
      have hz := cDet_bz H'
      have hN := rnought_ok (cDet g'.A g'.B g'.n)
      have hrow := row2_ok m' bs hbs g.n (by omega)
      cases t with
      | true =>
        have hT := ht.1 rfl
        have hi := cinvOne_ok m15B g' H' hT
        have hs := csolveOne_ok m15B false g' H' (rowG bs) hT
        have hs : CallP Try.prog 53 [genP m15B g', ratsM false (lst g.n (rowG bs))] _ [] := hs
        rw [decide_eq_true ((cDet_zero fun i k hi hk => H'.nab hi hk).2 hT)] at hN
        cases f with
        | true =>
          refine SView.all (by simp [lst]; omega) <| SCall.pureT (pvs := [genP m15B g']) hd (fun _ => rfl) ?_
          refine SView.all (by simp [lst]; omega) <| SCall.pureT (pvs := [genP m15B g']) hi (fun _ => rfl) ?_
          refine SDraw.mk (by kernel_rfl) ?_
          repeat refine SOp.mk _ _ (And.intro rfl rfl) rfl ?_
          refine SOp.mk _ _ (SCall.pure (hrow) (And.intro rfl rfl)) rfl ?_
          refine SOp.mk _ _ (SView.all (by simp [lst]; omega) <| SCall.pureT (pvs := [genP m15B g', ratsM false (lst g.n (rowG bs))]) hs (fun _ => rfl) (And.intro rfl rfl)) rfl ?_
          repeat refine SOp.mk _ _ (And.intro rfl rfl) rfl ?_
          refine SCmp.no (rfl) ?_
          refine SCall.pure (hN) ?_
          refine SCmp.no (rfl) ?_
          refine SCmp.yes (rfl) ?_
          refine SCmp.no (rfl) ?_
          refine SCmp.yes (rfl) ?_
          refine SCmp.no (rfl) ?_
          refine SZ.mk 0 rfl ?_
          refine SCmp.yes (rfl) ?_
          exact SRet.pure (.tf _)
        | false =>
          refine SView.all (by simp [lst]; omega) <| SCall.pureT (pvs := [genP m15B g']) hd (fun _ => rfl) ?_
          refine SView.all (by simp [lst]; omega) <| SCall.pureT (pvs := [genP m15B g']) hi (fun _ => rfl) ?_
          refine SDraw.mk (by kernel_rfl) ?_
          repeat refine SOp.mk _ _ (And.intro rfl rfl) rfl ?_
          refine SOp.mk _ _ (SCall.pure (hrow) (And.intro rfl rfl)) rfl ?_
          refine SOp.mk _ _ (SView.all (by simp [lst]; omega) <| SCall.pureT (pvs := [genP m15B g', ratsM false (lst g.n (rowG bs))]) hs (fun _ => rfl) (And.intro rfl rfl)) rfl ?_
          repeat refine SOp.mk _ _ (And.intro rfl rfl) rfl ?_
          refine SCmp.no (rfl) ?_
          refine SCall.pure (hN) ?_
          refine SCmp.no (rfl) ?_
          refine SCmp.yes (rfl) ?_
          refine SCmp.no (rfl) ?_
          refine SCmp.yes (rfl) ?_
          refine SCmp.no (rfl) ?_
          refine SCond.mk (fun _ => ?_) (fun h => by cases h)
          refine SZ.mk 0 rfl ?_
          refine SCmp.yes (rfl) ?_
          exact SRet.pure (.tf _)
      | false =>
        have hT : Inj g'.A g'.n ∧ Inj g'.B g'.n := Classical.not_not.1 fun h => by cases ht.2 h
        have hi := cinv_ok m15B g' H' hT.1 hT.2
        have hs := csolve_ok m15B false g' H' hT.1 hT.2 (rowG bs) (fun i _ => (rowG_bz bs i).mono (by omega))
        have hs : CallP Try.prog 53 [genP m15B g', ratsM false (lst g.n (rowG bs))] _ [] := hs
        rw [decide_eq_false fun h => (cDet_zero fun i k hi hk => H'.nab hi hk).1 h hT] at hN
        cases f with
        | true =>
          refine SView.all (by simp [lst]; omega) <| SCall.pureT (pvs := [genP m15B g']) hd (fun _ => rfl) ?_
          refine SView.all (by simp [lst]; omega) <| SCall.pureT (pvs := [genP m15B g']) hi (fun _ => rfl) ?_
          refine SDraw.mk (by kernel_rfl) ?_
          repeat refine SOp.mk _ _ (And.intro rfl rfl) rfl ?_
          refine SOp.mk _ _ (SCall.pure (hrow) (And.intro rfl rfl)) rfl ?_
          refine SOp.mk _ _ (SView.all (by simp [lst]; omega) <| SCall.pureT (pvs := [genP m15B g', ratsM false (lst g.n (rowG bs))]) hs (fun _ => rfl) (And.intro rfl rfl)) rfl ?_
          repeat refine SOp.mk _ _ (And.intro rfl rfl) rfl ?_
          refine SCmp.no (rfl) ?_
          refine SCall.pure (hN) ?_
          refine SCmp.no (rfl) ?_
          refine SCmp.no (rfl) ?_
          refine SCmp.no (rfl) ?_
          refine SCmp.no (rfl) ?_
          refine SCmp.no (rfl) ?_
          refine SCmp.yes (rfl) ?_
          refine SCmp.yes (rfl) ?_
          refine SZ.mk (g.n : Int) (by simp [lst] <;> rfl) ?_
          refine SCmp.yes (eqT rfl) ?_
          exact SRet.pure (.tf _)
        | false =>
          refine SView.all (by simp [lst]; omega) <| SCall.pureT (pvs := [genP m15B g']) hd (fun _ => rfl) ?_
          refine SView.all (by simp [lst]; omega) <| SCall.pureT (pvs := [genP m15B g']) hi (fun _ => rfl) ?_
          refine SDraw.mk (by kernel_rfl) ?_
          repeat refine SOp.mk _ _ (And.intro rfl rfl) rfl ?_
          refine SOp.mk _ _ (SCall.pure (hrow) (And.intro rfl rfl)) rfl ?_
          refine SOp.mk _ _ (SView.all (by simp [lst]; omega) <| SCall.pureT (pvs := [genP m15B g', ratsM false (lst g.n (rowG bs))]) hs (fun _ => rfl) (And.intro rfl rfl)) rfl ?_
          repeat refine SOp.mk _ _ (And.intro rfl rfl) rfl ?_
          refine SCmp.no (rfl) ?_
          refine SCall.pure (hN) ?_
          refine SCmp.no (rfl) ?_
          refine SCmp.no (rfl) ?_
          refine SCmp.no (rfl) ?_
          refine SCmp.no (rfl) ?_
          refine SCmp.no (rfl) ?_
          refine SCond.mk (fun h => by cases h) (fun _ => ?_)
          refine SCmp.yes (rfl) ?_
          refine SCmp.yes (rfl) ?_
          refine SCmp.yes (rfl) ?_
          refine SZ.mk (g.n : Int) (by simp [lst] <;> rfl) ?_
          refine SCmp.yes (eqT rfl) ?_
          exact SRet.pure (.tf _)
end Go.Proofs.Ytkaooejeljdbnaa

namespace Go.Proofs.Ytkaooejeljdbnaa
open Go Go.ChangeShapes Go.WideShapes Go.ChangeAt Go.RowKit Go.WideElems
set_option linter.unusedVariables false
set_option linter.unusedSimpArgs false
theorem Try.own : ownKnob Try.prog.godebug = none := by kernel_rfl
theorem Try.laidOut : laidOutB Try.prog = true := by kernel_rfl
theorem Try.cells3 : Try.prog.cellsOf 3 = 1 := by kernel_rfl
abbrev oldF (W : World) : Nat → Prop := fun b => b < W.heap.size
theorem law_call {P : Program} {f : FuncId} {pvs : List PV} (hc : CallP P f pvs (.p (.bool true)) []) {W : World} {vs : List Value} (hl : vs.length = pvs.length) (hv : ∀ (i : Nat) p v, pvs[i]? = some p → vs[i]? = some v → PR W (FBof noBor (oldF W)) p v) :
    Calls P f vs.toArray W fun e W' => e = .returned (.bool true) ∧ Below W.heap.size W W' := by
  refine (hc.run W (oldF W) noBor (fun _ => (none, 0)) vs ⟨by simp [hl], fun i a v e1 e2 => ?_, fun h => by rw [look_nil]; trivial, fun b h => h, fun b h => h.elim, fun h b hl => ?_, fun h h' b hl => ?_, fun a ha k hk => ?_, fun h k hk => ?_⟩).mono ?_
  · rw [List.getElem?_map] at e1
    cases hp : pvs[i]? with
    | none => rw [hp] at e1; cases e1
    | some p => rw [hp] at e1; cases e1; exact .p (hv i p v hp e2)
  · rw [look_nil] at hl; exact hl.elim
  · rw [look_nil] at hl; exact hl.elim
  · obtain ⟨p, _, rfl⟩ := List.mem_map.1 ha; simp only [AV.men] at hk
  · rw [look_nil] at hk; exact hk.elim
  · intro e W' ⟨v, F', β', he, hr⟩
    subst he
    refine ⟨?_, hr.os, hr.tape, hr.output, hr.size, fun b hb => hr.same b hb fun h hl => ?_⟩
    · have := hr.rel
      cases this with | p h => cases h; rfl
    · rw [look_nil] at hl; exact hl.elim
section
variable {H : Type} {enc : TypeId × Value → H} {P : Program} {W : World} {base : Nat} {sp : Nat → Bool} {held : Bool}
theorem openInt {t : TypeId} {r : Go.Reach} {b0 : Nat} {v : Value} {d : DataW H} {ps : List MemPlace} (ht : P.underlying t = some (.int .i64)) (hval : Value.okWide P W r b0 t v) (hd : DataW.Trod enc P W base sp held t v d ps) :
    ∃ n, v = .int .i64 n ∧ I64 n := by
  obtain ⟨n, h1, h2, h3, h4⟩ := open_int ht hval hd
  refine ⟨n, h1, ?_⟩
  simp [Lit.wf, IntKind.min, IntKind.max, IntKind.signed, IntKind.bits] at h4
  exact ⟨by omega, by omega⟩
theorem openInts {t e : TypeId} {r : Go.Reach} {b0 : Nat} {v : Value} {d : DataW H} {ps : List MemPlace} (ht : P.underlying t = some (.slice e)) (he : P.underlying e = some (.int .i64)) (hc : P.cellsOf e = 1) (hval : Value.okWide P W r b0 t v)
    (hd : DataW.Trod enc P W base sp held t v d ps) (hlt : ∀ x ∈ ps, x.block < W.heap.size) : ∃ zs : List Int, I64s zs ∧ PR W (FBof noBor (oldF W)) (.sl false 1 (intsP zs)) v := by
  obtain ⟨a0, len, cap, rfl⟩ := okWide_slice ht hval
  obtain ⟨fuel, hf⟩ := hd
  rcases open_ints ht he hc hf with ⟨hcs, hx⟩ | ⟨a, len', cap', zs, hcs, _, hl, hm, hz, hx, hcell, hwz⟩
  · simp [Value.cells] at hcs
    obtain ⟨rfl, rfl, rfl⟩ := hcs
    exact ⟨[], fun i => by simp [I64], .nil _ _ _⟩
  · simp [Value.cells] at hcs
    obtain ⟨rfl, rfl, rfl⟩ := hcs
    simp only [Prod.mk.injEq] at hx
    obtain ⟨_, rfl⟩ := hx
    have hlen : len ≤ zs.length := by rw [hz]; split <;> omega
    have hspot : a.spot = none := by
      simp only [Value.okWide, ht, Cell.okWide] at hval
      simp [Cell.ok, World.has] at hval
      first | exact hval.1.2.1 | exact hval.2.1 | (have := hval; simp_all)
    obtain ⟨b, off, spot⟩ := a
    simp only at hspot
    subst hspot
    refine ⟨zs.take len, fun i => ?_, ?_⟩
    · by_cases hi : i < (zs.take len).length
      · have hm : (zs.take len).getD i 0 ∈ zs := by
          have : (zs.take len).getD i 0 = (zs.take len)[i] := by simp only [List.getD, List.getElem?_eq_getElem hi, Option.getD_some]
          rw [this]
          exact List.mem_of_mem_take (List.getElem_mem hi)
        have h4 := hwz _ hm
        generalize (zs.take len).getD i 0 = q at h4 ⊢
        simp [Lit.wf, IntKind.min, IntKind.max, IntKind.signed, IntKind.bits] at h4
        exact ⟨by omega, by omega⟩
      · rw [getD_ge _ 0 (by omega)]; simp [I64]
    · have hll : (intsP (zs.take len)).length = len := by simp; omega
      have h := PR.sl (w := W) (FB := FBof noBor (oldF W)) false 1 (intsP (zs.take len)) b off cap (fun i _ => .int .i64 (zs.getD i 0)) (by rw [hll]; exact hl) (fun hne => ?_) (fun e he => ?_) (fun e he c hc => ?_) (fun i e j c e1 e2 => ?_) (fun i e j c e1 e2 => ?_)
      · rw [hll] at h; exact h
      · have hpos : 0 < zs.length := by
          rcases Nat.eq_zero_or_pos zs.length with h0 | h0
          · exact (hne (by rw [List.length_eq_zero_iff.1 h0]; simp)).elim
          · exact h0
        exact hlt (.cell b off) (MemPlace.mem_row.2 ⟨0, hpos, by simp⟩)
      · obtain ⟨z, _, rfl⟩ := List.mem_map.1 he; rfl
      · obtain ⟨z, _, rfl⟩ := List.mem_map.1 he
        have hc : c ∈ [PV.int .i64 z] := hc
        simp at hc; subst hc; rfl
      all_goals
        have hi : i < len := by have := (List.getElem?_eq_some_iff.1 e1).1; rwa [hll] at this
        have he : e = .int .i64 (zs.getD i 0) := by
          rw [List.getElem?_map, List.getElem?_take_of_lt hi, List.getElem?_eq_getElem (show i < zs.length by omega)] at e1
          simp at e1
          simp [List.getD, show i < zs.length by omega, ← e1]
        subst he
        have hj : j = 0 := by
          have := (List.getElem?_eq_some_iff.1 e2).1
          simpa [PV.cells] using this
        subst hj
        first
          | (have := hcell i (by omega)
             rw [show off + i * 1 + 0 = off + i by omega]
             rwa [Addr.add_lit] at this)
          | (have hcv : c = .int .i64 (zs.getD i 0) := by simpa [PV.cells] using e2.symm
             subst hcv
             exact .int _ _)
end
end Go.Proofs.Ytkaooejeljdbnaa

