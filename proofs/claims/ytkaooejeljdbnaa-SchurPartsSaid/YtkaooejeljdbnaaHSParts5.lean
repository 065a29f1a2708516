/- FSParts: what its proof needs, part 5. -/
import Derived.Test.YtkaooejeljdbnaaHSParts4
set_option linter.unusedVariables false
set_option linter.unusedSimpArgs false
namespace Go.Proofs.Ytkaooejeljdbnaa
open Go
set_option linter.unusedVariables false
set_option linter.unusedSimpArgs false
set_option maxRecDepth 10000
abbrev znil : PV := .raw (.slice none 0 0)
def zgen : List AV := [.p (.int .i64 0), .p (.int .i64 0), .p (.int .i64 0), .p znil, .p znil, .p znil, .p znil]
def gcells (k N r : Nat) : List AV := [.p (.int .i64 k), .p (.int .i64 N), .p (.int .i64 r), .vec 2 3 (0 + 0) (cntA k N - 0), .vec 2 3 (0 + cntA k N) (cntA k N + cntB k N - cntA k N),
  .vec 2 3 (0 + (cntA k N + cntB k N)) (cntA k N + cntB k N + cntH k N r - (cntA k N + cntB k N)), .vec 2 3 (0 + (cntA k N + cntB k N + cntH k N r)) (cntA k N + cntB k N + 2 * cntH k N r - (cntA k N + cntB k N + cntH k N r))]
theorem frzS {H : Hp} {h : Hd} {T : TypeId} {N off len l : Nat} {F g : Nat → Rat} (hB : look H h = .vec T 3 (rats (lst N F))) (hl : off + len ≤ N) (hlen : len = l) (hg : ∀ t, t < l → F (off + t) = g t) : Conv [] H (.vec h 3 off len) (.p (ratsM false (lst l g))) := by
  subst hlen
  refine .frz hB (by simp) (by simpa [lst] using hl) (pers_rats _) ?_
  apply List.ext_getElem
  · simp [lst]; omega
  · intro i h1 h2
    have hi : i < len := by simpa [lst] using h2
    simp [lst, rats, hg i hi]
theorem lmake5_ok (m : Bool) (kind n most : Int) (ns : List Int) (hkind : I64 kind) (hn : I64 n) (hns : I64s ns) (hm1 : 1 ≤ most) (hm8 : most ≤ 8) :
    CallP Try.prog 64 [.int .i64 kind, .int .i64 n, .sl m 1 (intsP ns), .int .i64 most] (.p (genP noF (mkG (gmK kind) (gmN n most) (gmR (gmK kind) n) (rowG ns)))) [] := by
  have hkz : ((gmK kind : Nat) : Int) = 1 + kind % 7 := by unfold gmK; omega
  have hmz := Int.emod_nonneg n (show most ≠ 0 by omega)
  have hmz2 := Int.emod_lt_of_pos n (show (0 : Int) < most by omega)
  have hnz : ((gmN n most : Nat) : Int) = 1 + n % most := by unfold gmN; omega
  obtain ⟨k, hk⟩ : ∃ k, k = gmK kind := ⟨_, rfl⟩
  obtain ⟨N, hN⟩ : ∃ N, N = gmN n most := ⟨_, rfl⟩
  obtain ⟨r, hr⟩ : ∃ r, r = gmR k n := ⟨_, rfl⟩
  rw [← hk] at hkz ⊢
  rw [← hN] at hnz ⊢
  rw [← hr]
  have k1 : 1 ≤ k := by omega
  have k7 : k ≤ 7 := by omega
  have n1 : 1 ≤ N := by omega
  have n8 : N ≤ 8 := by omega
  have hr3 : r ≤ 3 := by rw [hr]; unfold gmR; split <;> omega
  obtain ⟨ca, cb, ch, cbn⟩ := cnt_le (k := k) (r := r) n1 n8 hr3
  have hf : ∀ i, -20 ≤ rowG ns i ∧ rowG ns i ≤ 20 := fun i => smallQ_range _
  have hfb : ∀ i, Bz (rowG ns i) 5 := rowG_bz ns
  refine callG_of_vc (wr := wr0) Γok mixed Try.func64 (by kernel_rfl) rfl (by kernel_rfl) (le_of_ble rfl) (by simp) ?_
  refine SCall.pure (within5_ok kind 7 (by omega) (by omega)) ?_
  refine SWrap.i64z (k : Int) (by omega) (by omega) ?_
  refine SCall.pure (within5_ok n most (by omega) (by omega)) ?_
  refine SWrap.i64z (N : Int) (by omega) (by omega) ?_
  refine SCall.pure (rlike_ok k k1 k7) ?_
  by_cases hl : k = 6 ∨ k = 7
  · rw [decide_eq_true hl]
    refine SCond.mk (fun _ => ?_) (fun h => by cases h)
    have hq : -9223372036854775808 ≤ n.tdiv 8 ∧ n.tdiv 8 < 9223372036854775808 := by
      unfold I64 at hn
      rw [Int.tdiv_eq_ediv, show Int.sign 8 = 1 from rfl]; split <;> omega
    refine SNe.mk (by omega) ?_
    refine SWrap.i64z (n.tdiv 8) rfl hq ?_
    refine SCall.pure (within5_ok (n.tdiv 8) 2 (by omega) (by omega)) ?_
    have hrz : 1 + n.tdiv 8 % 2 = (r : Int) := by rw [hr]; unfold gmR; rw [if_pos hl]; omega
    refine SWrap.i64z (r : Int) hrz (by omega) ?_
    have hc := rcounts_ok k N r k1 k7 n1 n8 hr3 znil znil znil znil
    refine SCall.pureT (hc) (fun _ => rfl) ?_
    refine SWrap.i64z ((cntA k N + cntB k N : Nat) : Int) (by omega) (by omega) ?_
    refine SWrap.i64z ((2 * cntH k N r : Nat) : Int) (by omega) (by omega) ?_
    refine SWrap.i64z ((cntA k N + cntB k N + 2 * cntH k N r : Nat) : Int) (by omega) (by omega) ?_
    refine SCall.fresh (pvs := [.sl m 1 (intsP ns), .int .i64 ((cntA k N + cntB k N + 2 * cntH k N r : Nat) : Int)]) (row2v_ok m ns hns (cntA k N + cntB k N + 2 * cntH k N r) (by omega)) ?_
    refine SDraw.mkX (by kernel_rfl) ?_
    repeat refine SOp.mk _ _ (And.intro rfl rfl) rfl ?_
    refine SOp.mk _ _ (SZ.mk (cntA k N : Int) rfl <| SLt.mk (by simp) <| SCut.mk (0) (cntA k N) rfl rfl (by omega) (by omega) (And.intro rfl rfl)) rfl ?_
    repeat refine SOp.mk _ _ (And.intro rfl rfl) rfl ?_
    refine SOp.mk _ _ (SWrap.i64z ((cntA k N + cntB k N : Nat) : Int) (by omega) (by omega) (And.intro rfl rfl)) rfl ?_
    repeat refine SOp.mk _ _ (And.intro rfl rfl) rfl ?_
    refine SOp.mk _ _ (SWrap.i64z ((cntA k N + cntB k N : Nat) : Int) (by omega) (by omega) (And.intro rfl rfl)) rfl ?_
    refine SOp.mk _ _ (SZ.mk ((cntA k N + cntB k N : Nat) : Int) rfl <| SLt.mk (by simp) <| SCut.mk (cntA k N) (cntA k N + cntB k N) rfl rfl (by omega) (by omega) (And.intro rfl rfl)) rfl ?_
    repeat refine SOp.mk _ _ (And.intro rfl rfl) rfl ?_
    refine SOp.mk _ _ (SWrap.i64z ((cntA k N + cntB k N : Nat) : Int) (by omega) (by omega) (And.intro rfl rfl)) rfl ?_
    repeat refine SOp.mk _ _ (And.intro rfl rfl) rfl ?_
    refine SOp.mk _ _ (SWrap.i64z ((cntA k N + cntB k N : Nat) : Int) (by omega) (by omega) (And.intro rfl rfl)) rfl ?_
    repeat refine SOp.mk _ _ (And.intro rfl rfl) rfl ?_
    refine SOp.mk _ _ (SWrap.i64z ((cntA k N + cntB k N + cntH k N r : Nat) : Int) (by omega) (by omega) (And.intro rfl rfl)) rfl ?_
    repeat refine SOp.mk _ _ (And.intro rfl rfl) rfl ?_
    refine SOp.mk _ _ (SWrap.i64z ((cntA k N + cntB k N : Nat) : Int) (by omega) (by omega) (And.intro rfl rfl)) rfl ?_
    repeat refine SOp.mk _ _ (And.intro rfl rfl) rfl ?_
    refine SOp.mk _ _ (SWrap.i64z ((cntA k N + cntB k N + cntH k N r : Nat) : Int) (by omega) (by omega) (And.intro rfl rfl)) rfl ?_
    refine SOp.mk _ _ (SZ.mk ((cntA k N + cntB k N + cntH k N r : Nat) : Int) rfl <| SLt.mk (by simp) <| SCut.mk (cntA k N + cntB k N) (cntA k N + cntB k N + cntH k N r) rfl rfl (by omega) (by omega) (And.intro rfl rfl)) rfl ?_
    repeat refine SOp.mk _ _ (And.intro rfl rfl) rfl ?_
    refine SOp.mk _ _ (SWrap.i64z ((cntA k N + cntB k N : Nat) : Int) (by omega) (by omega) (And.intro rfl rfl)) rfl ?_
    repeat refine SOp.mk _ _ (And.intro rfl rfl) rfl ?_
    refine SOp.mk _ _ (SWrap.i64z ((cntA k N + cntB k N + cntH k N r : Nat) : Int) (by omega) (by omega) (And.intro rfl rfl)) rfl ?_
    refine SOp.mk _ _ (SCut.mk (cntA k N + cntB k N + cntH k N r) (cntA k N + cntB k N + 2 * cntH k N r) rfl rfl (by omega) (by omega) (And.intro rfl rfl)) rfl ?_
    repeat refine SOp.mk _ _ (And.intro rfl rfl) rfl ?_
    refine SFin.mk (by kernel_rfl) ?_
    refine SLoop.mk (Nat × (Nat → Rat)) (fun (j, F) => ([(8, .bptr 0 0), (9, .bptr 1 0), (10, .p (.int .i64 (cntA k N))), (11, .p (.int .i64 (cntB k N))), (14, .p (.int .i64 j))],
        [.box 59 zgen, .box 59 (gcells k N r), .vec 37 3 (rats (lst (cntA k N + cntB k N + 2 * cntH k N r) F))]))
      (fun (j, F) => j ≤ cntB k N ∧ ∀ t, t < cntA k N + cntB k N + 2 * cntH k N r → F t = if cntA k N ≤ t ∧ t < cntA k N + j then bfix (rowG ns) (t - cntA k N) (rowG ns t) (cntA k N) else rowG ns t) (fun x => cntB k N - x.1) (0, rowG ns) [0, 1, 2]
      ⟨Nat.zero_le _, fun t _ => by rw [if_neg (by omega)]⟩ ⟨rfl, by simp, rfl, rfl, rfl, ⟨rfl, rfl, rfl, rfl, rfl, trivial⟩, ⟨rfl, rfl, rfl, trivial⟩⟩ ?_
    intro ⟨j, F⟩ ⟨j1, j2⟩
    by_cases hj : j < cntB k N
    · refine SCmp.yes (decide_eq_true (by omega)) ?_
      refine SLoop.mk (Nat × (Nat → Rat)) (fun (i, F) => ([(8, .bptr 0 0), (9, .bptr 1 0), (10, .p (.int .i64 (cntA k N))), (11, .p (.int .i64 (cntB k N))), (14, .p (.int .i64 j)), (15, .p (.int .i64 i))],
          [.box 59 zgen, .box 59 (gcells k N r), .vec 37 3 (rats (lst (cntA k N + cntB k N + 2 * cntH k N r) F))]))
        (fun (i, F') => i ≤ cntA k N ∧ ∀ t, t < cntA k N + cntB k N + 2 * cntH k N r → F' t = if t = cntA k N + j then bfix (rowG ns) j (rowG ns (cntA k N + j)) i else F t) (fun x => cntA k N - x.1) (0, F) [0, 1, 2]
        ⟨Nat.zero_le _, fun t ht => by
          split
          · rename_i e; rw [j2 t ht, if_neg (by omega), e]; rfl
          · rfl⟩ ⟨rfl, by simp, rfl, rfl, rfl, ⟨rfl, rfl, rfl, rfl, rfl, rfl, trivial⟩, ⟨rfl, rfl, rfl, trivial⟩⟩ ?_
      intro ⟨i, F'⟩ ⟨i1, i2⟩
      by_cases hi : i < cntA k N
      · refine SCmp.yes (decide_eq_true (by omega)) ?_
        have eA : F' i = rowG ns i := by rw [i2 i (by omega), if_neg (by omega), j2 i (by omega), if_neg (by omega)]
        have eB : F' (cntA k N + j) = bfix (rowG ns) j (rowG ns (cntA k N + j)) i := by rw [i2 _ (by omega), if_pos rfl]
        have zA : Bz (rowG ns i) 13 := (hfb i).mono (by omega)
        have zB := bfix_bz hf (j := j) (by omega) (hf (cntA k N + j)) (hfb _) i
        refine SDraw.mk (by kernel_rfl) ?_
        repeat refine SOp.mk _ _ (And.intro rfl rfl) rfl ?_
        refine SOp.mk _ _ (SPos.mk i rfl (by omega) (And.intro rfl rfl)) rfl ?_
        refine SOp.mk _ _ (SIdx.rv (i + (0 + 0)) (rowG ns i) rfl (by omega) eA (And.intro rfl rfl)) rfl ?_
        repeat refine SOp.mk _ _ (And.intro rfl rfl) rfl ?_
        refine SOp.mk _ _ (SPos.mk j rfl (by omega) (And.intro rfl rfl)) rfl ?_
        refine SOp.mk _ _ (SIdx.rv (j + (0 + cntA k N)) (bfix (rowG ns) j (rowG ns (cntA k N + j)) i) rfl (by omega) (by rw [← eB]; congr 1; omega) (And.intro rfl rfl)) rfl ?_
        repeat refine SOp.mk _ _ (And.intro rfl rfl) rfl ?_
        refine SOp.mk _ _ (SCall.pure (rsame_ok _ _ zA zB (by omega)) (And.intro rfl rfl)) rfl ?_
        repeat refine SOp.mk _ _ (And.intro rfl rfl) rfl ?_
        by_cases heq : rowG ns i = bfix (rowG ns) j (rowG ns (cntA k N + j)) i
        · refine SCond.mk (fun _ => ?_) (fun hb => absurd heq (of_decide_eq_false hb))
          have zO : Bz (((100 + j : Nat) : Int) : Rat) 7 := int_bz (k := 7) (bitLen_le (by rw [Int.natAbs_natCast]; omega)) (by omega)
          refine SDraw.mkX (by kernel_rfl) ?_
          repeat refine SOp.mk _ _ (And.intro rfl rfl) rfl ?_
          refine SOp.mk _ _ (SPos.mk j rfl (by omega) (And.intro rfl rfl)) rfl ?_
          refine SOp.mk _ _ (SIdx.rv (j + (0 + cntA k N)) (bfix (rowG ns) j (rowG ns (cntA k N + j)) i) rfl (by omega) (by rw [← eB]; congr 1; omega) (And.intro rfl rfl)) rfl ?_
          repeat refine SOp.mk _ _ (And.intro rfl rfl) rfl ?_
          refine SOp.mk _ _ (SWrap.i64z ((100 + j : Nat) : Int) (by omega) (by omega) (And.intro rfl rfl)) rfl ?_
          refine SOp.mk _ _ (SCall.pure (rint_ok ((100 + j : Nat) : Int) (by omega)) (And.intro rfl rfl)) rfl ?_
          refine SOp.mk _ _ (SCall.pure (raddq_ok _ _ zB zO (by omega)) (And.intro rfl rfl)) rfl ?_
          refine SOp.mk _ _ (SPos.mk j rfl (by omega) (And.intro rfl rfl)) rfl ?_
          refine SOp.mk _ _ (SLt.rf (by omega) <| SEs.rf (And.intro rfl rfl)) rfl ?_
          refine SFin.mk (by kernel_rfl) ?_
          refine SWrap.i64z ((i + 1 : Nat) : Int) (by omega) (by omega) ?_
          refine ⟨(i + 1, _), [0, 1, 2], ⟨hi, fun t ht => ?_⟩, by show cntA k N - (i + 1) < cntA k N - i; omega, ⟨rfl, by simp, rfl, rfl, rfl, ⟨rfl, rfl, rfl, rfl, rfl, rfl, trivial⟩, ⟨rfl, rfl, rfl, trivial⟩⟩⟩
          by_cases e : t = cntA k N + j
          · have e' : t = j + (0 + cntA k N) := by omega
            rw [if_pos e, e', upd_same]; simp only [bfix]; rw [if_pos heq]
          · rw [if_neg e, upd_other _ _ (by omega), i2 t ht, if_neg e]
        · refine SCond.mk (fun hb => absurd (of_decide_eq_true hb) heq) (fun _ => ?_)
          refine SWrap.i64z ((i + 1 : Nat) : Int) (by omega) (by omega) ?_
          refine ⟨(i + 1, F'), [0, 1, 2], ⟨hi, fun t ht => ?_⟩, by show cntA k N - (i + 1) < cntA k N - i; omega, ⟨rfl, by simp, rfl, rfl, rfl, ⟨rfl, rfl, rfl, rfl, rfl, rfl, trivial⟩, ⟨rfl, rfl, rfl, trivial⟩⟩⟩
          rw [i2 t ht]
          by_cases e : t = cntA k N + j
          · rw [if_pos e, if_pos e]; simp only [bfix]; rw [if_neg heq]
          · rw [if_neg e, if_neg e]
      · refine SCmp.no (decide_eq_false (by omega)) ?_
        obtain rfl : i = cntA k N := by omega
        refine SWrap.i64z ((j + 1 : Nat) : Int) (by omega) (by omega) ?_
        refine ⟨(j + 1, F'), [0, 1, 2], ⟨hj, fun t ht => ?_⟩, by show cntB k N - (j + 1) < cntB k N - j; omega, ⟨rfl, by simp, rfl, rfl, rfl, ⟨rfl, rfl, rfl, rfl, rfl, trivial⟩, ⟨rfl, rfl, rfl, trivial⟩⟩⟩
        rw [i2 t ht]
        by_cases e : t = cntA k N + j
        · rw [if_pos e, if_pos (by omega), e, show cntA k N + j - cntA k N = j by omega]
        · rw [if_neg e, j2 t ht]
          by_cases e2 : cntA k N ≤ t ∧ t < cntA k N + j
          · rw [if_pos e2, if_pos (by omega)]
          · rw [if_neg e2, if_neg (by omega)]
    · refine SCmp.no (decide_eq_false (by omega)) ?_
      obtain rfl : j = cntB k N := by omega
      have hL : look [.box 59 zgen, .box 59 (gcells k N r), .vec 37 3 (rats (lst (cntA k N + cntB k N + 2 * cntH k N r) F))] (2 : Nat) = .vec 37 3 (rats (lst (cntA k N + cntB k N + 2 * cntH k N r) F)) := rfl
      refine SRet.pure (.aggp (ps := genC noF (mkG k N r (rowG ns))) (fun d hd => by simp at hd; rcases hd with rfl | rfl | rfl | rfl | rfl | rfl | rfl <;> rfl) rfl fun i c d e1 e2 => ?_)
      match i, e1, e2 with
      | 0, e1, e2 => cases e1; cases e2; exact .p _ (.int _ _)
      | 1, e1, e2 => cases e1; cases e2; exact .p _ (.int _ _)
      | 2, e1, e2 => cases e1; cases e2; exact .p _ (.int _ _)
      | 3, e1, e2 =>
        cases e1; cases e2
        exact frzS (N := cntA k N + cntB k N + 2 * cntH k N r) (F := F) rfl (by omega) (Nat.sub_zero _) fun t ht => by
          have ht : t < cntA k N := ht
          rw [j2 _ (by omega), if_neg (by omega)]; show rowG ns (0 + 0 + t) = rowG ns t; congr 1; omega
      | 4, e1, e2 =>
        cases e1; cases e2
        exact frzS (N := cntA k N + cntB k N + 2 * cntH k N r) (F := F) rfl (by omega) (by show _ = cntB k N; omega) fun t ht => by
          have ht : t < cntB k N := ht
          rw [j2 _ (by omega), if_pos (by omega)]
          show bfix _ (0 + cntA k N + t - cntA k N) _ _ = bfix _ t (rowG ns (cntA k N + t)) _
          rw [show 0 + cntA k N + t = cntA k N + t by omega, show cntA k N + t - cntA k N = t by omega]
      | 5, e1, e2 =>
        cases e1; cases e2
        exact frzS (N := cntA k N + cntB k N + 2 * cntH k N r) (F := F) rfl (by omega) (by show _ = cntH k N r; omega) fun t ht => by
          have ht : t < cntH k N r := ht
          rw [j2 _ (by omega), if_neg (by omega)]; show rowG ns _ = rowG ns (cntA k N + cntB k N + t); congr 1; omega
      | 6, e1, e2 =>
        cases e1; cases e2
        exact frzS (N := cntA k N + cntB k N + 2 * cntH k N r) (F := F) rfl (by omega) (by show _ = cntH k N r; omega) fun t ht => by
          have ht : t < cntH k N r := ht
          rw [j2 _ (by omega), if_neg (by omega)]; show rowG ns _ = rowG ns (cntA k N + cntB k N + cntH k N r + t); congr 1; omega
  · rw [decide_eq_false hl]
    refine SCond.mk (fun h => by cases h) (fun _ => ?_)
    have hr0 : r = 0 := by rw [hr]; unfold gmR; rw [if_neg hl]
    subst hr0
    have hc := rcounts_ok k N 0 k1 k7 n1 n8 hr3 znil znil znil znil
    refine SCall.pureT (hc) (fun _ => rfl) ?_
    refine SWrap.i64z ((cntA k N + cntB k N : Nat) : Int) (by omega) (by omega) ?_
    refine SWrap.i64z ((2 * cntH k N 0 : Nat) : Int) (by omega) (by omega) ?_
    refine SWrap.i64z ((cntA k N + cntB k N + 2 * cntH k N 0 : Nat) : Int) (by omega) (by omega) ?_
    refine SCall.fresh (pvs := [.sl m 1 (intsP ns), .int .i64 ((cntA k N + cntB k N + 2 * cntH k N 0 : Nat) : Int)]) (row2v_ok m ns hns (cntA k N + cntB k N + 2 * cntH k N 0) (by omega)) ?_
    refine SDraw.mkX (by kernel_rfl) ?_
    repeat refine SOp.mk _ _ (And.intro rfl rfl) rfl ?_
    refine SOp.mk _ _ (SZ.mk (cntA k N : Int) rfl <| SLt.mk (by simp) <| SCut.mk (0) (cntA k N) rfl rfl (by omega) (by omega) (And.intro rfl rfl)) rfl ?_
    repeat refine SOp.mk _ _ (And.intro rfl rfl) rfl ?_
    refine SOp.mk _ _ (SWrap.i64z ((cntA k N + cntB k N : Nat) : Int) (by omega) (by omega) (And.intro rfl rfl)) rfl ?_
    repeat refine SOp.mk _ _ (And.intro rfl rfl) rfl ?_
    refine SOp.mk _ _ (SWrap.i64z ((cntA k N + cntB k N : Nat) : Int) (by omega) (by omega) (And.intro rfl rfl)) rfl ?_
    refine SOp.mk _ _ (SZ.mk ((cntA k N + cntB k N : Nat) : Int) rfl <| SLt.mk (by simp) <| SCut.mk (cntA k N) (cntA k N + cntB k N) rfl rfl (by omega) (by omega) (And.intro rfl rfl)) rfl ?_
    repeat refine SOp.mk _ _ (And.intro rfl rfl) rfl ?_
    refine SOp.mk _ _ (SWrap.i64z ((cntA k N + cntB k N : Nat) : Int) (by omega) (by omega) (And.intro rfl rfl)) rfl ?_
    repeat refine SOp.mk _ _ (And.intro rfl rfl) rfl ?_
    refine SOp.mk _ _ (SWrap.i64z ((cntA k N + cntB k N : Nat) : Int) (by omega) (by omega) (And.intro rfl rfl)) rfl ?_
    repeat refine SOp.mk _ _ (And.intro rfl rfl) rfl ?_
    refine SOp.mk _ _ (SWrap.i64z ((cntA k N + cntB k N + cntH k N 0 : Nat) : Int) (by omega) (by omega) (And.intro rfl rfl)) rfl ?_
    repeat refine SOp.mk _ _ (And.intro rfl rfl) rfl ?_
    refine SOp.mk _ _ (SWrap.i64z ((cntA k N + cntB k N : Nat) : Int) (by omega) (by omega) (And.intro rfl rfl)) rfl ?_
    repeat refine SOp.mk _ _ (And.intro rfl rfl) rfl ?_
    refine SOp.mk _ _ (SWrap.i64z ((cntA k N + cntB k N + cntH k N 0 : Nat) : Int) (by omega) (by omega) (And.intro rfl rfl)) rfl ?_
    refine SOp.mk _ _ (SZ.mk ((cntA k N + cntB k N + cntH k N 0 : Nat) : Int) rfl <| SLt.mk (by simp) <| SCut.mk (cntA k N + cntB k N) (cntA k N + cntB k N + cntH k N 0) rfl rfl (by omega) (by omega) (And.intro rfl rfl)) rfl ?_
    repeat refine SOp.mk _ _ (And.intro rfl rfl) rfl ?_
    refine SOp.mk _ _ (SWrap.i64z ((cntA k N + cntB k N : Nat) : Int) (by omega) (by omega) (And.intro rfl rfl)) rfl ?_
    repeat refine SOp.mk _ _ (And.intro rfl rfl) rfl ?_
    refine SOp.mk _ _ (SWrap.i64z ((cntA k N + cntB k N + cntH k N 0 : Nat) : Int) (by omega) (by omega) (And.intro rfl rfl)) rfl ?_
    refine SOp.mk _ _ (SCut.mk (cntA k N + cntB k N + cntH k N 0) (cntA k N + cntB k N + 2 * cntH k N 0) rfl rfl (by omega) (by omega) (And.intro rfl rfl)) rfl ?_
    repeat refine SOp.mk _ _ (And.intro rfl rfl) rfl ?_
    refine SFin.mk (by kernel_rfl) ?_
    refine SLoop.mk (Nat × (Nat → Rat)) (fun (j, F) => ([(8, .bptr 0 0), (9, .bptr 1 0), (10, .p (.int .i64 (cntA k N))), (11, .p (.int .i64 (cntB k N))), (14, .p (.int .i64 j))],
        [.box 59 zgen, .box 59 (gcells k N 0), .vec 37 3 (rats (lst (cntA k N + cntB k N + 2 * cntH k N 0) F))]))
      (fun (j, F) => j ≤ cntB k N ∧ ∀ t, t < cntA k N + cntB k N + 2 * cntH k N 0 → F t = if cntA k N ≤ t ∧ t < cntA k N + j then bfix (rowG ns) (t - cntA k N) (rowG ns t) (cntA k N) else rowG ns t) (fun x => cntB k N - x.1) (0, rowG ns) [0, 1, 2]
      ⟨Nat.zero_le _, fun t _ => by rw [if_neg (by omega)]⟩ ⟨rfl, by simp, rfl, rfl, rfl, ⟨rfl, rfl, rfl, rfl, rfl, trivial⟩, ⟨rfl, rfl, rfl, trivial⟩⟩ ?_
    intro ⟨j, F⟩ ⟨j1, j2⟩
    by_cases hj : j < cntB k N
    · refine SCmp.yes (decide_eq_true (by omega)) ?_
      refine SLoop.mk (Nat × (Nat → Rat)) (fun (i, F) => ([(8, .bptr 0 0), (9, .bptr 1 0), (10, .p (.int .i64 (cntA k N))), (11, .p (.int .i64 (cntB k N))), (14, .p (.int .i64 j)), (15, .p (.int .i64 i))],
          [.box 59 zgen, .box 59 (gcells k N 0), .vec 37 3 (rats (lst (cntA k N + cntB k N + 2 * cntH k N 0) F))]))
        (fun (i, F') => i ≤ cntA k N ∧ ∀ t, t < cntA k N + cntB k N + 2 * cntH k N 0 → F' t = if t = cntA k N + j then bfix (rowG ns) j (rowG ns (cntA k N + j)) i else F t) (fun x => cntA k N - x.1) (0, F) [0, 1, 2]
        ⟨Nat.zero_le _, fun t ht => by
          split
          · rename_i e; rw [j2 t ht, if_neg (by omega), e]; rfl
          · rfl⟩ ⟨rfl, by simp, rfl, rfl, rfl, ⟨rfl, rfl, rfl, rfl, rfl, rfl, trivial⟩, ⟨rfl, rfl, rfl, trivial⟩⟩ ?_
      intro ⟨i, F'⟩ ⟨i1, i2⟩
      by_cases hi : i < cntA k N
      · refine SCmp.yes (decide_eq_true (by omega)) ?_
        have eA : F' i = rowG ns i := by rw [i2 i (by omega), if_neg (by omega), j2 i (by omega), if_neg (by omega)]
        have eB : F' (cntA k N + j) = bfix (rowG ns) j (rowG ns (cntA k N + j)) i := by rw [i2 _ (by omega), if_pos rfl]
        have zA : Bz (rowG ns i) 13 := (hfb i).mono (by omega)
        have zB := bfix_bz hf (j := j) (by omega) (hf (cntA k N + j)) (hfb _) i
        refine SDraw.mk (by kernel_rfl) ?_
        repeat refine SOp.mk _ _ (And.intro rfl rfl) rfl ?_
        refine SOp.mk _ _ (SPos.mk i rfl (by omega) (And.intro rfl rfl)) rfl ?_
        refine SOp.mk _ _ (SIdx.rv (i + (0 + 0)) (rowG ns i) rfl (by omega) eA (And.intro rfl rfl)) rfl ?_
        repeat refine SOp.mk _ _ (And.intro rfl rfl) rfl ?_
        refine SOp.mk _ _ (SPos.mk j rfl (by omega) (And.intro rfl rfl)) rfl ?_
        refine SOp.mk _ _ (SIdx.rv (j + (0 + cntA k N)) (bfix (rowG ns) j (rowG ns (cntA k N + j)) i) rfl (by omega) (by rw [← eB]; congr 1; omega) (And.intro rfl rfl)) rfl ?_
        repeat refine SOp.mk _ _ (And.intro rfl rfl) rfl ?_
        refine SOp.mk _ _ (SCall.pure (rsame_ok _ _ zA zB (by omega)) (And.intro rfl rfl)) rfl ?_
        repeat refine SOp.mk _ _ (And.intro rfl rfl) rfl ?_
        by_cases heq : rowG ns i = bfix (rowG ns) j (rowG ns (cntA k N + j)) i
        · refine SCond.mk (fun _ => ?_) (fun hb => absurd heq (of_decide_eq_false hb))
          have zO : Bz (((100 + j : Nat) : Int) : Rat) 7 := int_bz (k := 7) (bitLen_le (by rw [Int.natAbs_natCast]; omega)) (by omega)
          refine SDraw.mkX (by kernel_rfl) ?_
          repeat refine SOp.mk _ _ (And.intro rfl rfl) rfl ?_
          refine SOp.mk _ _ (SPos.mk j rfl (by omega) (And.intro rfl rfl)) rfl ?_
          refine SOp.mk _ _ (SIdx.rv (j + (0 + cntA k N)) (bfix (rowG ns) j (rowG ns (cntA k N + j)) i) rfl (by omega) (by rw [← eB]; congr 1; omega) (And.intro rfl rfl)) rfl ?_
          repeat refine SOp.mk _ _ (And.intro rfl rfl) rfl ?_
          refine SOp.mk _ _ (SWrap.i64z ((100 + j : Nat) : Int) (by omega) (by omega) (And.intro rfl rfl)) rfl ?_
          refine SOp.mk _ _ (SCall.pure (rint_ok ((100 + j : Nat) : Int) (by omega)) (And.intro rfl rfl)) rfl ?_
          refine SOp.mk _ _ (SCall.pure (raddq_ok _ _ zB zO (by omega)) (And.intro rfl rfl)) rfl ?_
          refine SOp.mk _ _ (SPos.mk j rfl (by omega) (And.intro rfl rfl)) rfl ?_
          refine SOp.mk _ _ (SLt.rf (by omega) <| SEs.rf (And.intro rfl rfl)) rfl ?_
          refine SFin.mk (by kernel_rfl) ?_
          refine SWrap.i64z ((i + 1 : Nat) : Int) (by omega) (by omega) ?_
          refine ⟨(i + 1, _), [0, 1, 2], ⟨hi, fun t ht => ?_⟩, by show cntA k N - (i + 1) < cntA k N - i; omega, ⟨rfl, by simp, rfl, rfl, rfl, ⟨rfl, rfl, rfl, rfl, rfl, rfl, trivial⟩, ⟨rfl, rfl, rfl, trivial⟩⟩⟩
          by_cases e : t = cntA k N + j
          · have e' : t = j + (0 + cntA k N) := by omega
            rw [if_pos e, e', upd_same]; simp only [bfix]; rw [if_pos heq]
          · rw [if_neg e, upd_other _ _ (by omega), i2 t ht, if_neg e]
        · refine SCond.mk (fun hb => absurd (of_decide_eq_true hb) heq) (fun _ => ?_)
          refine SWrap.i64z ((i + 1 : Nat) : Int) (by omega) (by omega) ?_
          refine ⟨(i + 1, F'), [0, 1, 2], ⟨hi, fun t ht => ?_⟩, by show cntA k N - (i + 1) < cntA k N - i; omega, ⟨rfl, by simp, rfl, rfl, rfl, ⟨rfl, rfl, rfl, rfl, rfl, rfl, trivial⟩, ⟨rfl, rfl, rfl, trivial⟩⟩⟩
          rw [i2 t ht]
          by_cases e : t = cntA k N + j
          · rw [if_pos e, if_pos e]; simp only [bfix]; rw [if_neg heq]
          · rw [if_neg e, if_neg e]
      · refine SCmp.no (decide_eq_false (by omega)) ?_
        obtain rfl : i = cntA k N := by omega
        refine SWrap.i64z ((j + 1 : Nat) : Int) (by omega) (by omega) ?_
        refine ⟨(j + 1, F'), [0, 1, 2], ⟨hj, fun t ht => ?_⟩, by show cntB k N - (j + 1) < cntB k N - j; omega, ⟨rfl, by simp, rfl, rfl, rfl, ⟨rfl, rfl, rfl, rfl, rfl, trivial⟩, ⟨rfl, rfl, rfl, trivial⟩⟩⟩
        rw [i2 t ht]
        by_cases e : t = cntA k N + j
        · rw [if_pos e, if_pos (by omega), e, show cntA k N + j - cntA k N = j by omega]
        · rw [if_neg e, j2 t ht]
          by_cases e2 : cntA k N ≤ t ∧ t < cntA k N + j
          · rw [if_pos e2, if_pos (by omega)]
          · rw [if_neg e2, if_neg (by omega)]
    · refine SCmp.no (decide_eq_false (by omega)) ?_
      obtain rfl : j = cntB k N := by omega
      have hL : look [.box 59 zgen, .box 59 (gcells k N 0), .vec 37 3 (rats (lst (cntA k N + cntB k N + 2 * cntH k N 0) F))] (2 : Nat) = .vec 37 3 (rats (lst (cntA k N + cntB k N + 2 * cntH k N 0) F)) := rfl
      refine SRet.pure (.aggp (ps := genC noF (mkG k N 0 (rowG ns))) (fun d hd => by simp at hd; rcases hd with rfl | rfl | rfl | rfl | rfl | rfl | rfl <;> rfl) rfl fun i c d e1 e2 => ?_)
      match i, e1, e2 with
      | 0, e1, e2 => cases e1; cases e2; exact .p _ (.int _ _)
      | 1, e1, e2 => cases e1; cases e2; exact .p _ (.int _ _)
      | 2, e1, e2 => cases e1; cases e2; exact .p _ (.int _ _)
      | 3, e1, e2 =>
        cases e1; cases e2
        exact frzS (N := cntA k N + cntB k N + 2 * cntH k N 0) (F := F) rfl (by omega) (Nat.sub_zero _) fun t ht => by
          have ht : t < cntA k N := ht
          rw [j2 _ (by omega), if_neg (by omega)]; show rowG ns (0 + 0 + t) = rowG ns t; congr 1; omega
      | 4, e1, e2 =>
        cases e1; cases e2
        exact frzS (N := cntA k N + cntB k N + 2 * cntH k N 0) (F := F) rfl (by omega) (by show _ = cntB k N; omega) fun t ht => by
          have ht : t < cntB k N := ht
          rw [j2 _ (by omega), if_pos (by omega)]
          show bfix _ (0 + cntA k N + t - cntA k N) _ _ = bfix _ t (rowG ns (cntA k N + t)) _
          rw [show 0 + cntA k N + t = cntA k N + t by omega, show cntA k N + t - cntA k N = t by omega]
      | 5, e1, e2 =>
        cases e1; cases e2
        exact frzS (N := cntA k N + cntB k N + 2 * cntH k N 0) (F := F) rfl (by omega) (by show _ = cntH k N 0; omega) fun t ht => by
          have ht : t < cntH k N 0 := ht
          rw [j2 _ (by omega), if_neg (by omega)]; show rowG ns _ = rowG ns (cntA k N + cntB k N + t); congr 1; omega
      | 6, e1, e2 =>
        cases e1; cases e2
        exact frzS (N := cntA k N + cntB k N + 2 * cntH k N 0) (F := F) rfl (by omega) (by show _ = cntH k N 0; omega) fun t ht => by
          have ht : t < cntH k N 0 := ht
          rw [j2 _ (by omega), if_neg (by omega)]; show rowG ns _ = rowG ns (cntA k N + cntB k N + cntH k N 0 + t); congr 1; omega
end Go.Proofs.Ytkaooejeljdbnaa

namespace Go.Proofs.Ytkaooejeljdbnaa
open Go
set_option linter.unusedVariables false
set_option linter.unusedSimpArgs false
set_option maxRecDepth 10000
/-- Are two nodes made the same? -/
def twin13 (N : Nat) (ns : List Int) : Prop := 1 < ns.length ∧ ns.getD 1 0 % 4 = 0 ∧ 1 < N
instance (N : Nat) (ns : List Int) : Decidable (twin13 N ns) := inferInstanceAs (Decidable (_ ∧ _ ∧ _))
end Go.Proofs.Ytkaooejeljdbnaa

namespace Go.Proofs.Ytkaooejeljdbnaa
open Go
set_option linter.unusedVariables false
set_option linter.unusedSimpArgs false
set_option maxRecDepth 10000
theorem bz_pow {q : Rat} {b : Nat} (h : Bz q b) : ∀ k, Bz (q ^ k) (b * k + 1)
  | 0 => by rw [Rat.pow_zero, Nat.mul_zero]; exact bz_one
  | k + 1 => by
    have := (bz_pow h k).mul h
    rw [Rat.pow_succ]
    exact this.mono (by rw [Nat.mul_succ]; omega)
end Go.Proofs.Ytkaooejeljdbnaa

namespace Go.Proofs.Ytkaooejeljdbnaa
open Go
set_option linter.unusedVariables false
set_option linter.unusedSimpArgs false
set_option maxRecDepth 10000
def rowS (g : GV) (i j : Nat) : Rat := sm g.r fun t => g.G (i * g.r + t) * g.H (j * g.r + t)
def ent (g : GV) (i j : Nat) : Rat :=
  if g.k = 1 then g.A (i + g.n - 1 - j) else if g.k = 2 then g.A (i + j) else if g.k = 3 then g.A ((i + g.n - j) % g.n) else if g.k = 4 then g.A i ^ j
  else if g.k = 5 then 1 / (g.A i - g.B j) else if g.k = 6 then sm (min i j + 1) fun m => rowS g (i - m) (j - m) else rowS g i j / (g.A i - g.B j)
/-- A Gen that may be, of numbers of so many digits. -/
structure Wf (g : GV) (b c : Nat) : Prop where
  k1 : 1 ≤ g.k
  k7 : g.k ≤ 7
  n1 : 1 ≤ g.n
  n6 : g.n ≤ 6
  r2 : g.r ≤ 2
  r1 : g.k = 6 ∨ g.k = 7 → 1 ≤ g.r
  r0 : g.k ≤ 5 → g.r = 0
  bA : ∀ i, i < g.la → Bz (g.A i) b
  bB : ∀ i, i < g.lb → Bz (g.B i) c
  bG : ∀ i, i < g.lh → Bz (g.G i) b
  bH : ∀ i, i < g.lh → Bz (g.H i) b
  ne : ∀ i j, i < g.la → j < g.lb → g.A i ≠ g.B j
  bc : b ≤ c
  c4 : c ≤ 100
abbrev genA (m : Nat → Bool) (g : GV) : List AV := [.p (.int .i64 g.k), .p (.int .i64 g.n), .p (.int .i64 g.r), .p (ratsM (m 0) (lst g.la g.A)), .p (ratsM (m 1) (lst g.lb g.B)), .p (ratsM (m 2) (lst g.lh g.G)), .p (ratsM (m 3) (lst g.lh g.H))]
theorem row_lt {i n r t : Nat} (hi : i < n) (ht : t < r) : i * r + t < n * r := by
  have : (i + 1) * r ≤ n * r := Nat.mul_le_mul_right _ hi
  rw [Nat.succ_mul] at this; omega
theorem sm_bz' {F : Nat → Rat} {B n : Nat} (h : ∀ i, i < n → Bz (F i) B) : ∀ k, k ≤ n → Bz (sm k F) (k * (B + 1) + 1) := by
  intro k
  induction k with
  | zero => exact fun _ => bz_zero.mono (by omega)
  | succ k ih =>
    intro hk
    exact ((ih (by omega)).add (h k (by omega))).mono (by rw [Nat.succ_mul]; omega)
theorem Wf.lh {g : GV} {b c : Nat} (h : Wf g b c) (hk : g.k = 6 ∨ g.k = 7) : g.lh = g.n * g.r := if_pos hk
theorem Wf.prod {g : GV} {b c : Nat} (h : Wf g b c) (hk : g.k = 6 ∨ g.k = 7) {i j : Nat} (hi : i < g.n) (hj : j < g.n) : ∀ t, t < g.r → Bz (g.G (i * g.r + t) * g.H (j * g.r + t)) (2 * b) := fun t ht =>
  ((h.bG _ (by rw [h.lh hk]; exact row_lt hi ht)).mul (h.bH _ (by rw [h.lh hk]; exact row_lt hj ht))).mono (by omega)
theorem Wf.bRow {g : GV} {b c : Nat} (h : Wf g b c) (hk : g.k = 6 ∨ g.k = 7) {i j : Nat} (hi : i < g.n) (hj : j < g.n) : Bz (rowS g i j) (2 * (2 * b + 1) + 1) :=
  (sm_bz' (h.prod hk hi hj) g.r (Nat.le_refl _)).mono (Nat.add_le_add_right (Nat.mul_le_mul_right _ h.r2) 1)
abbrev zratA : List AV := [.p (.bool false), .p (.sl false 1 []), .p (.sl false 1 [])]
end Go.Proofs.Ytkaooejeljdbnaa

namespace Go.Proofs.Ytkaooejeljdbnaa
open Go
set_option linter.unusedVariables false
set_option linter.unusedSimpArgs false
set_option maxRecDepth 10000
theorem ranked_ok (k : Nat) (h1 : 1 ≤ k) (h7 : k ≤ 7) : CallP Try.prog 208 [.int .i64 k] (.p (.bool (decide (k = 6 ∨ k = 7)))) [] := by
  refine callG_of_vc (wr := wr0) Γok mixed Try.func208 (by kernel_rfl) rfl (by kernel_rfl) (le_of_ble rfl) (by simp) ?_
  by_cases e6 : k = 6
  · refine SCmp.yes (decide_eq_true (by omega)) ?_
    rw [decide_eq_true (.inl e6)]
    exact SRet.pure (.tf _)
  · refine SCmp.no (decide_eq_false (by omega)) ?_
    by_cases e7 : k = 7
    · refine SCmp.yes (decide_eq_true (by omega)) ?_
      rw [decide_eq_true (.inr e7)]
      exact SRet.pure (.tf _)
    · refine SCmp.no (decide_eq_false (by omega)) ?_
      rw [decide_eq_false (by omega)]
      exact SRet.pure (.tf _)
theorem sized_ok (m : Nat → Bool) (g : GV) {b c : Nat} (h : Wf g b c) : CallP Try.prog 183 [genP m g] (.p (.bool true)) [] := by
  have h1 := h.k1
  have h7 := h.k7
  have n1 := h.n1
  have n6 := h.n6
  have r2 := h.r2
  refine callG_of_vc (wr := wr0) Γok mixed Try.func183 (by kernel_rfl) rfl (by kernel_rfl) (le_of_ble rfl) (by simp) ?_
  refine SCmp.no (decide_eq_false (by omega)) ?_
  refine SCmp.no (decide_eq_false (by omega)) ?_
  refine SCall.pure (ranked_ok g.k h1 h7) ?_
  by_cases hl : g.k = 6 ∨ g.k = 7
  · have r1 := h.r1 hl
    rw [decide_eq_true hl]
    refine SCond.mk (fun _ => ?_) (fun h => by cases h)
    refine SCmp.yes (decide_eq_true (by omega)) ?_
    refine SCmp.yes (decide_eq_true (by omega)) ?_
    exact SRet.pure (.tf _)
  · have r0 := h.r0 (by omega)
    rw [decide_eq_false hl]
    refine SCond.mk (fun h => by cases h) (fun _ => ?_)
    refine SCmp.yes (decide_eq_true (by omega)) ?_
    exact SRet.pure (.tf _)
theorem genrows_ok (m : Nat → Bool) (g : GV) : CallL Try.prog 184 [genP m g] (.agg [ratsM (m 0) (lst g.la g.A), ratsM (m 1) (lst g.lb g.B), ratsM (m 2) (lst g.lh g.G), ratsM (m 3) (lst g.lh g.H)]) := by
  refine callL_of_vc (wr := wr0) Γok mixed Try.func184 (by kernel_rfl) rfl (by kernel_rfl) (le_of_ble rfl) ?_
  exact rfl
abbrev cntK (k i : Int) : PV := .agg [.int .i64 k, .int .i64 i]
abbrev cntV (a b c : Int) : PV := .agg [.int .i64 a, .int .i64 b, .int .i64 c]
abbrev cntM : List (PV × PV) := [(cntK 1 0, cntV 2 0 (-1)), (cntK 2 0, cntV 2 0 (-1)), (cntK 3 0, cntV 1 0 0), (cntK 4 0, cntV 1 0 0), (cntK 5 0, cntV 1 0 0), (cntK 5 1, cntV 1 0 0), (cntK 6 2, cntV 0 1 0), (cntK 6 3, cntV 0 1 0), (cntK 7 0, cntV 1 0 0), (cntK 7 1, cntV 1 0 0), (cntK 7 2, cntV 0 1 0), (cntK 7 3, cntV 0 1 0)]
theorem counts_ok : CallP Try.prog 185 [] (.p (.mp false cntM)) [] := by
  refine callG_of_vc (wr := wr0) Γok mixed Try.func185 (by kernel_rfl) rfl (by kernel_rfl) (le_of_ble rfl) (by simp) ?_
  refine SDraw.mkX (by kernel_rfl) ?_
  repeat refine SOp.mk _ _ (And.intro rfl rfl) rfl ?_
  refine SOp.mk _ _ (SKeys.all rfl <| SPut.add rfl (And.intro rfl rfl)) rfl ?_
  repeat refine SOp.mk _ _ (And.intro rfl rfl) rfl ?_
  refine SOp.mk _ _ (SKeys.all rfl <| SPut.add rfl (And.intro rfl rfl)) rfl ?_
  repeat refine SOp.mk _ _ (And.intro rfl rfl) rfl ?_
  refine SOp.mk _ _ (SKeys.all rfl <| SPut.add rfl (And.intro rfl rfl)) rfl ?_
  repeat refine SOp.mk _ _ (And.intro rfl rfl) rfl ?_
  refine SOp.mk _ _ (SKeys.all rfl <| SPut.add rfl (And.intro rfl rfl)) rfl ?_
  repeat refine SOp.mk _ _ (And.intro rfl rfl) rfl ?_
  refine SOp.mk _ _ (SKeys.all rfl <| SPut.add rfl (And.intro rfl rfl)) rfl ?_
  repeat refine SOp.mk _ _ (And.intro rfl rfl) rfl ?_
  refine SOp.mk _ _ (SKeys.all rfl <| SPut.add rfl (And.intro rfl rfl)) rfl ?_
  repeat refine SOp.mk _ _ (And.intro rfl rfl) rfl ?_
  refine SOp.mk _ _ (SKeys.all rfl <| SPut.add rfl (And.intro rfl rfl)) rfl ?_
  repeat refine SOp.mk _ _ (And.intro rfl rfl) rfl ?_
  refine SOp.mk _ _ (SKeys.all rfl <| SPut.add rfl (And.intro rfl rfl)) rfl ?_
  repeat refine SOp.mk _ _ (And.intro rfl rfl) rfl ?_
  refine SOp.mk _ _ (SKeys.all rfl <| SPut.add rfl (And.intro rfl rfl)) rfl ?_
  repeat refine SOp.mk _ _ (And.intro rfl rfl) rfl ?_
  refine SOp.mk _ _ (SKeys.all rfl <| SPut.add rfl (And.intro rfl rfl)) rfl ?_
  repeat refine SOp.mk _ _ (And.intro rfl rfl) rfl ?_
  refine SOp.mk _ _ (SKeys.all rfl <| SPut.add rfl (And.intro rfl rfl)) rfl ?_
  repeat refine SOp.mk _ _ (And.intro rfl rfl) rfl ?_
  refine SOp.mk _ _ (SKeys.all rfl <| SPut.add rfl (And.intro rfl rfl)) rfl ?_
  repeat refine SOp.mk _ _ (And.intro rfl rfl) rfl ?_
  refine SFin.mkL (by kernel_rfl) ?_
  refine SLit.mk cntM rfl rfl fun es hp => ?_
  refine SRet.pure (.frzmap (es := es) rfl (by simp) hp fun e he => ?_)
  have : ∀ a b c d f : Int, Pers (cntK a b) ∧ Pers (cntV c d f) := fun a b c d f => ⟨.agg _ fun x hx => by
    simp only [List.mem_cons, List.not_mem_nil, or_false] at hx; rcases hx with rfl | rfl <;> exact .int _ _, .agg _ fun x hx => by
    simp only [List.mem_cons, List.not_mem_nil, or_false] at hx; rcases hx with rfl | rfl | rfl <;> exact .int _ _⟩
  have he := hp.mem_iff.1 he
  simp only [cntM, List.mem_cons, List.not_mem_nil, or_false] at he
  rcases he with rfl | rfl | rfl | rfl | rfl | rfl | rfl | rfl | rfl | rfl | rfl | rfl <;> exact this _ _ _ _ _
theorem bz_nlen {q : Rat} (h : Bz q 100) : nlen q.num.natAbs ≤ 4 ∧ nlen q.den ≤ 4 := by
  have : ∀ {a : Nat}, bitLen a ≤ 100 → nlen a ≤ 4 := fun {a} ha => nlen_le (Nat.lt_of_lt_of_le (bitLen_lt a) (Nat.le_trans (Nat.pow_le_pow_right (by decide) ha) (by decide)))
  exact ⟨this h.1, this h.2⟩
theorem gsmall_ok (q : Rat) (h : Bz q 100) : CallP Try.prog 188 [ratP q] (.p (.bool true)) [] := by
  obtain ⟨h1, h2⟩ := bz_nlen h
  refine callG_of_vc (wr := wr0) Γok mixed Try.func188 (by kernel_rfl) rfl (by kernel_rfl) (le_of_ble rfl) (by simp) ?_
  refine SZ.mk (nlen q.num.natAbs : Int) (by simp) ?_
  refine SCmp.yes (decide_eq_true (by omega)) ?_
  refine SZ.mk (nlen q.den : Int) (by simp) ?_
  refine SCmp.yes (decide_eq_true (by omega)) ?_
  refine SCall.pure (ratright_ok q h.sz (by omega)) ?_
  exact SRet.pure (.p _ (.bool _))
theorem check1_ok (q : Rat) (h : Bz q 100) : CallP Try.prog 187 [ratP q] (.p (.bool false)) [] := by
  refine callG_of_vc (wr := wr0) Γok mixed Try.func187 (by kernel_rfl) rfl (by kernel_rfl) (le_of_ble rfl) (by simp) ?_
  refine SCall.pure (gsmall_ok q h) ?_
  refine SCmp.no (rfl) ?_
  exact SRet.pure (.tf _)
theorem check2_ok (m : Bool) (a b : Rat) {k : Nat} (ha : Bz a k) (hb : Bz b k) (hk : k + k ≤ 1048576) : CallP Try.prog 189 [ratP b, .pel m (ratP a)] (.p (.bool (decide (a = b)))) [] := by
  refine callG_of_vc (wr := wr0) Γok mixed Try.func189 (by kernel_rfl) rfl (by kernel_rfl) (le_of_ble rfl) (by simp) ?_
  refine SCall.pure (ratsame_ok a b ha.sz hb.sz (by omega)) ?_
  exact SRet.pure (.p _ (.bool _))
theorem none1I_ok (m : Bool) (l : List Rat) (hF : ∀ i, i < l.length → CallP Try.prog 187 [ratP (l.getD i 0)] (.p (.bool false)) []) (hn : l.length ≤ 1099511627776) :
    CallP Try.prog 209 [ratsM m l, .fn 187 []] (.p (.int .i64 (-1))) [] := by
  refine callG_of_vc (wr := wr0) Γok mixed Try.func209 (by kernel_rfl) rfl (by kernel_rfl) (le_of_ble rfl) (by simp) ?_
  refine SZ.mk (l.length : Int) (by simp) ?_
  refine SLoop.mk Nat (fun i => ([(0, .p (ratsM m l)), (1, .p (.fn 187 [])), (7, .p (.int .i64 l.length)), (8, .p (.int .i64 i))], []))
    (fun i => i ≤ l.length) (fun i => l.length - i) 0 [] (Nat.zero_le _) ⟨rfl, .nil, rfl, rfl, rfl, ⟨rfl, rfl, rfl, rfl, trivial⟩, trivial⟩ ?_
  intro i h1
  have h1 : i ≤ l.length := h1
  by_cases hi : i < l.length
  · refine SCmp.yes (decide_eq_true (by omega)) ?_
    refine SIdx.rb i rfl hi ?_
    refine SCall.pure (pvs := [ratP (l.getD i 0)]) (hF i hi) ?_
    refine SCond.mk (fun h => by cases h) (fun _ => ?_)
    refine SWrap.i64z ((i + 1 : Nat) : Int) (by omega) (by omega) ?_
    exact ⟨i + 1, [], hi, by show l.length - (i + 1) < l.length - i; omega, ⟨rfl, .nil, rfl, rfl, rfl, ⟨rfl, rfl, rfl, rfl, trivial⟩, trivial⟩⟩
  · refine SCmp.no (decide_eq_false (by omega)) ?_
    exact SRet.pure (.p _ (.int _ _))
theorem none1_ok (m : Bool) (l : List Rat) (hF : ∀ i, i < l.length → CallP Try.prog 187 [ratP (l.getD i 0)] (.p (.bool false)) []) (hn : l.length ≤ 1099511627776) :
    CallP Try.prog 186 [ratsM m l, .fn 187 []] (.p (.bool false)) [] := by
  refine callG_of_vc (wr := wr0) Γok mixed Try.func186 (by kernel_rfl) rfl (by kernel_rfl) (le_of_ble rfl) (by simp) ?_
  refine SCall.pure (pvs := [ratsM m l, .fn 187 []]) (none1I_ok m l hF hn) ?_
  refine SCmp.no (rfl) ?_
  exact SRet.pure (.tf _)
theorem none2I_ok (m : Bool) (m2 : Bool) (a : Rat) (l : List Rat) (hF : ∀ i, i < l.length → CallP Try.prog 189 [ratP (l.getD i 0), .pel m2 (ratP a)] (.p (.bool false)) []) (hn : l.length ≤ 1099511627776) :
    CallP Try.prog 209 [ratsM m l, .fn 189 [.pel m2 (ratP a)]] (.p (.int .i64 (-1))) [] := by
  refine callG_of_vc (wr := wr0) Γok mixed Try.func209 (by kernel_rfl) rfl (by kernel_rfl) (le_of_ble rfl) (by simp) ?_
  refine SZ.mk (l.length : Int) (by simp) ?_
  refine SLoop.mk Nat (fun i => ([(0, .p (ratsM m l)), (1, .p (.fn 189 [.pel m2 (ratP a)])), (7, .p (.int .i64 l.length)), (8, .p (.int .i64 i))], []))
    (fun i => i ≤ l.length) (fun i => l.length - i) 0 [] (Nat.zero_le _) ⟨rfl, .nil, rfl, rfl, rfl, ⟨rfl, rfl, rfl, rfl, trivial⟩, trivial⟩ ?_
  intro i h1
  have h1 : i ≤ l.length := h1
  by_cases hi : i < l.length
  · refine SCmp.yes (decide_eq_true (by omega)) ?_
    refine SIdx.rb i rfl hi ?_
    refine SCall.pure (pvs := [ratP (l.getD i 0), .pel m2 (ratP a)]) (hF i hi) ?_
    refine SCond.mk (fun h => by cases h) (fun _ => ?_)
    refine SWrap.i64z ((i + 1 : Nat) : Int) (by omega) (by omega) ?_
    exact ⟨i + 1, [], hi, by show l.length - (i + 1) < l.length - i; omega, ⟨rfl, .nil, rfl, rfl, rfl, ⟨rfl, rfl, rfl, rfl, trivial⟩, trivial⟩⟩
  · refine SCmp.no (decide_eq_false (by omega)) ?_
    exact SRet.pure (.p _ (.int _ _))
theorem none2_ok (m : Bool) (m2 : Bool) (a : Rat) (l : List Rat) (hF : ∀ i, i < l.length → CallP Try.prog 189 [ratP (l.getD i 0), .pel m2 (ratP a)] (.p (.bool false)) []) (hn : l.length ≤ 1099511627776) :
    CallP Try.prog 186 [ratsM m l, .fn 189 [.pel m2 (ratP a)]] (.p (.bool false)) [] := by
  refine callG_of_vc (wr := wr0) Γok mixed Try.func186 (by kernel_rfl) rfl (by kernel_rfl) (le_of_ble rfl) (by simp) ?_
  refine SCall.pure (pvs := [ratsM m l, .fn 189 [.pel m2 (ratP a)]]) (none2I_ok m m2 a l hF hn) ?_
  refine SCmp.no (rfl) ?_
  exact SRet.pure (.tf _)
end Go.Proofs.Ytkaooejeljdbnaa

namespace Go.Proofs.Ytkaooejeljdbnaa
open Go
set_option linter.unusedVariables false
set_option linter.unusedSimpArgs false
set_option maxRecDepth 10000
abbrev pairP (i k : Nat) : PV := .agg [.int .i64 (i : Int), .int .i64 (k : Int)]
abbrev tabF (n : Nat) (f : Nat → Nat → Rat) (c : Nat) : List (PV × PV) := fl c fun t => (pairP (t / n) (t % n), ratP (f (t / n) (t % n)))
theorem keq_pair (a b c d : Nat) : PV.keq (pairP a b) (pairP c d) = decide (a = c ∧ b = d) := by
  show (decide (IntKind.i64 = IntKind.i64) && (((a : Int) == (c : Int)) && (decide (IntKind.i64 = IntKind.i64) && (((b : Int) == (d : Int)) && true)))) = _
  have hd : decide (IntKind.i64 = IntKind.i64) = true := rfl
  rw [hd, Bool.true_and, Bool.true_and, Bool.and_true]
  by_cases e1 : a = c
  · by_cases e2 : b = d
    · rw [decide_eq_true (show a = c ∧ b = d from ⟨e1, e2⟩), e1, e2]; simp
    · rw [decide_eq_false (show ¬ (a = c ∧ b = d) from fun h => e2 h.2), beq_eq_false_iff_ne.2 (show (b : Int) ≠ d by omega), Bool.and_false]
  · rw [decide_eq_false (show ¬ (a = c ∧ b = d) from fun h => e1 h.1), beq_eq_false_iff_ne.2 (show (a : Int) ≠ c by omega), Bool.false_and]
theorem at_div {i k n : Nat} (hk : k < n) : (i * n + k) / n = i := by
  rw [Nat.add_comm, Nat.add_mul_div_right _ _ (by omega), Nat.div_eq_of_lt hk, Nat.zero_add]
theorem at_mod {i k n : Nat} (hk : k < n) : (i * n + k) % n = k := by
  rw [Nat.add_comm, Nat.add_mul_mod_self_right, Nat.mod_eq_of_lt hk]
theorem at_eq {t n i k : Nat} (hk : k < n) (h1 : t / n = i) (h2 : t % n = k) : t = i * n + k := by
  rw [← h1, ← h2]
  have := Nat.div_add_mod t n
  rw [Nat.mul_comm]; exact this.symm
theorem tabF_key {n : Nat} {f : Nat → Nat → Rat} {c : Nat} {e : PV × PV} (h : e ∈ tabF n f c) : ∃ t, t < c ∧ e = (pairP (t / n) (t % n), ratP (f (t / n) (t % n))) := by
  obtain ⟨t, ht, e⟩ := fl_mem h
  exact ⟨t, ht, e.symm⟩
theorem SKeys.tab {b : PV → Bool} {n : Nat} {f : Nat → Nat → Rat} {c : Nat} {K : Prop} (hb : ∀ i k : Nat, b (pairP i k) = true) (hk : K) : SKeys b (tabF n f c) K :=
  .mk (fun e he => by obtain ⟨t, _, rfl⟩ := tabF_key he; exact hb _ _) hk
theorem tabF_snoc {n i k : Nat} {f : Nat → Nat → Rat} (hk : k < n) : tabF n f (i * n + k + 1) = tabF n f (i * n + k) ++ [(pairP i k, ratP (f i k))] := by
  rw [tabF, fl_snoc, at_div hk, at_mod hk]
theorem SPut.tab {n i k : Nat} {f : Nat → Nat → Rat} {v : PV} {K : List (PV × PV) → Prop} (hk : k < n) (hv : v = ratP (f i k)) (hK : K (tabF n f (i * n + k + 1))) : SPut (tabF n f (i * n + k)) (pairP i k) v K := by
  subst hv
  refine .new _ (fun e he => ?_) (tabF_snoc hk).symm hK
  obtain ⟨t, ht, rfl⟩ := tabF_key he
  rw [keq_pair]
  exact decide_eq_false fun ⟨h1, h2⟩ => by have := at_eq hk h1.symm h2.symm; omega
theorem at_lt {i k m n : Nat} (hi : i < m) (hk : k < n) : i * n + k < m * n := by
  have : (i + 1) * n ≤ m * n := Nat.mul_le_mul_right _ hi
  rw [Nat.succ_mul] at this; omega
theorem SGet.tab {n m i k : Nat} {f : Nat → Nat → Rat} {K : Option PV → Prop} (hi : i < m) (hk : k < n) (hK : K (some (ratP (f i k)))) : SGet (tabF n f (m * n)) (pairP i k) K := by
  refine .yes (i * n + k) (pairP i k, ratP (f i k)) ?_ ?_ (fun j e' hj hj' => ?_) hK
  · rw [tabF, fl_get (at_lt hi hk), at_div hk, at_mod hk]
  · rw [keq_pair]; exact decide_eq_true ⟨rfl, rfl⟩
  · obtain ⟨hjc, rfl⟩ := fl_get_iff.1 hj'
    rw [keq_pair]
    exact decide_eq_false fun ⟨h1, h2⟩ => hj (at_eq hk h1.symm h2.symm)
/-- An entry is written anew. -/
theorem SPut.tabset {n m i k : Nat} {f : Nat → Nat → Rat} {q : Rat} {K : List (PV × PV) → Prop} (hi : i < m) (hk : k < n) (hK : K (tabF n (fun a b => if a = i ∧ b = k then q else f a b) (m * n))) : SPut (tabF n f (m * n)) (pairP i k) (ratP q) K := by
  refine .old (i * n + k) (pairP i k, ratP (f i k)) _ ?_ ?_ (fun j e' hj hj' => ?_) ?_ hK
  · rw [tabF, fl_get (at_lt hi hk), at_div hk, at_mod hk]
  · rw [keq_pair]; exact decide_eq_true ⟨rfl, rfl⟩
  · obtain ⟨hjc, rfl⟩ := fl_get_iff.1 hj'
    rw [keq_pair]
    exact decide_eq_false fun ⟨h1, h2⟩ => by have := at_eq hk h1.symm h2.symm; omega
  · rw [tabF, fl_set]
    refine fl_congr fun t ht => ?_
    unfold upd
    by_cases e : t = i * n + k
    · rw [if_pos e]; subst e
      show _ = (pairP ((i * n + k) / n) ((i * n + k) % n), ratP (if (i * n + k) / n = i ∧ (i * n + k) % n = k then q else _))
      rw [at_div hk, at_mod hk, if_pos ⟨rfl, rfl⟩]
    · rw [if_neg e]
      show _ = (pairP (t / n) (t % n), ratP (if t / n = i ∧ t % n = k then q else _))
      rw [if_neg fun ⟨h1, h2⟩ => e (at_eq hk h1 h2)]
theorem pers_pair (i k : Nat) : Pers (pairP i k) := .agg _ fun x hx => by
  simp only [List.mem_cons, List.not_mem_nil, or_false] at hx; rcases hx with rfl | rfl <;> exact .int _ _
theorem pers_tab {n : Nat} {f : Nat → Nat → Rat} {c : Nat} : ∀ e ∈ tabF n f c, Pers e.1 ∧ Pers e.2 := fun e he => by
  obtain ⟨t, _, rfl⟩ := tabF_key he
  exact ⟨pers_pair _ _, pers_rat _ _ _⟩
end Go.Proofs.Ytkaooejeljdbnaa

namespace Go.Proofs.Ytkaooejeljdbnaa
open Go
set_option linter.unusedVariables false
set_option linter.unusedSimpArgs false
/-- A call that makes blocks and answers with them. -/
theorem SCall.news {P : Program} {wr : Bool} {f : FuncId} {L : Hd → Blk} {base : Nat} {K : AV → List (Hd × Blk) → Prop} {pvs : List PV} {r : AV} {nb : List Blk} (hc : CallP P f pvs r nb) (hf : ∀ B ∈ nb, B ≠ .free)
    (hk : K (r.ren (renOf [] base)) (nb.zipIdx.map fun x => (.t (renN [] base x.2), x.1.ren (renOf [] base)))) {raw : List AV} : SCall P wr f raw (pvs.map .p) L base K :=
  .mk [] (pvs.map .p) r [] nb (fun _ => rfl) .nil (fun _ h => by simp at h) (by rw [AV.renL_eq, List.map_map]; exact List.map_congr_left fun _ _ => rfl) rfl (fun i h B e => by simp at e) (fun _ h => by simp at h) (fun _ h => by simp at h) (Nat.zero_le _) hf
    (fun a ha k hk => by obtain ⟨v, _, rfl⟩ := List.mem_map.1 ha; simp only [AV.men] at hk) hc hk
/-- A call that is handed three blocks and hands them back. -/
theorem SCall.three {P : Program} {f : FuncId} {L : Hd → Blk} {base : Nat} {K : AV → List (Hd × Blk) → Prop} {args args' : List AV} {r : AV} {B0 B1 B2 C0 C1 C2 : Blk} (h0 h1 h2 : Nat) (hc : CallG P f args' [B0, B1, B2] r [C0, C1, C2])
    (hn : [h0, h1, h2].Nodup) (hb0 : h0 < base) (hb1 : h1 < base) (hb2 : h2 < base) (ha : AV.renL (renOf [h0, h1, h2] base) args' = args)
    (e0 : L (.t h0) = (B0.ren (renOf [h0, h1, h2] base)).top ∧ ∀ k, L (.r h0 k) = B0.row k) (e1 : L (.t h1) = (B1.ren (renOf [h0, h1, h2] base)).top ∧ ∀ k, L (.r h1 k) = B1.row k) (e2 : L (.t h2) = (B2.ren (renOf [h0, h1, h2] base)).top ∧ ∀ k, L (.r h2 k) = B2.row k)
    (hl : ∀ B ∈ [B0, B1, B2], B ≠ .free ∧ B ≠ .dead) (hm : ∀ B ∈ [B0, B1, B2], ∀ k, B.men k → k.key < 3) (hf : ∀ B ∈ [C0, C1, C2], B ≠ .free) (hargs : ∀ a ∈ args', ∀ k, a.men k → k.key < 3)
    (hk : K (r.ren (renOf [h0, h1, h2] base)) [(.t h0, C0.ren (renOf [h0, h1, h2] base)), (.t h1, C1.ren (renOf [h0, h1, h2] base)), (.t h2, C2.ren (renOf [h0, h1, h2] base))]) {raw : List AV} : SCall P true f raw args L base K :=
  .mk [h0, h1, h2] args' r [B0, B1, B2] [C0, C1, C2] (fun e => by cases e) hn (fun h hh => by simp at hh; rcases hh with rfl | rfl | rfl <;> assumption) ha rfl (fun i h B g1 g2 => by
    match i, g1, g2 with
    | 0, g1, g2 => cases g1; cases g2; exact e0
    | 1, g1, g2 => cases g1; cases g2; exact e1
    | 2, g1, g2 => cases g1; cases g2; exact e2) hl hm (Nat.le_refl _) hf hargs hc hk
/-- What was handed over is handed back. -/
theorem SRet.keep {nin : Hp} {av : AV} {H : Hp} {r : AV} {Hout : Hp} (hl : Hout.length = nin.length) (hp : ∀ B ∈ nin, ∀ k, B.row k = .free) (hlv : ∀ i, i < nin.length → (H.getD i .free).top.live)
    (hb : ∀ (i : Nat) B, Hout[i]? = some B → ConvB (List.range nin.length) H (H.getD i .free) B) (hv : Conv (List.range nin.length) H av r) : SRet nin av H r Hout := by
  have key : ∀ h : Hd, look nin h ≠ .free → ∃ i, h = .t i ∧ i < nin.length := fun h hh => by
    have hk := look_lt hh
    cases h with
    | t i => exact ⟨i, rfl, hk⟩
    | r i k =>
      exfalso
      have hk : i < nin.length := hk
      refine hh ?_
      simp only [look]
      have : nin.getD i .free = nin[i] := by simp [List.getD, List.getElem?_eq_getElem hk]
      rw [this]; exact hp _ (List.getElem_mem hk) k
  have lv : ∀ h : Hd, look nin h ≠ .free → (look H h).live := fun h hh => by
    obtain ⟨i, rfl, hi⟩ := key h hh
    exact hlv i hi
  refine .mk (List.range nin.length) (by simp) List.nodup_range (by simp [hl]) (by simp) (fun h hh => lv h (Blk.live_ne hh)) (fun h hh => Blk.live_ne (lv h hh)) (fun i h B e1 e2 => ?_) hv
  have hi : i < nin.length := by have := (List.getElem?_eq_some_iff.1 e1).1; simpa using this
  rw [List.getElem?_range hi] at e1
  cases e1
  exact hb i B e2
end Go.Proofs.Ytkaooejeljdbnaa

namespace Go.Proofs.Ytkaooejeljdbnaa
/-- The first place from p on, among so many, with no nought in column j. -/
def pvG (A : Nat → Nat → Rat) (j : Nat) : Nat → Nat → Nat
  | 0, p => p
  | d + 1, p => if A p j = 0 then pvG A j d (p + 1) else p
def pv (A : Nat → Nat → Rat) (j n r : Nat) : Nat := pvG A j (n - r) r
theorem pvG_eq {A : Nat → Nat → Rat} {j : Nat} : ∀ (d r p : Nat), r ≤ p → p ≤ r + d → (∀ i, r ≤ i → i < p → A i j = 0) → (p = r + d ∨ A p j ≠ 0) → pvG A j d r = p := by
  intro d
  induction d with
  | zero => intro r p h1 h2 _ _; simp only [pvG]; omega
  | succ d ih =>
    intro r p h1 h2 h3 h4
    simp only [pvG]
    by_cases e : r = p
    · subst e
      rcases h4 with h4 | h4
      · omega
      · rw [if_neg h4]
    · rw [if_pos (h3 r (Nat.le_refl _) (by omega))]
      exact ih (r + 1) p (by omega) (by omega) (fun i hi => h3 i (by omega)) (h4.imp (fun h => by omega) id)
theorem pv_eq {A : Nat → Nat → Rat} {j n r p : Nat} (h1 : r ≤ p) (h2 : p ≤ n) (h3 : ∀ i, r ≤ i → i < p → A i j = 0) (h4 : p = n ∨ A p j ≠ 0) : pv A j n r = p :=
  pvG_eq _ _ _ h1 (by omega) h3 (h4.imp (fun h => by omega) id)
theorem pvG_spec {A : Nat → Nat → Rat} {j : Nat} : ∀ (d r : Nat), r ≤ pvG A j d r ∧ pvG A j d r ≤ r + d ∧ (∀ i, r ≤ i → i < pvG A j d r → A i j = 0) ∧ (pvG A j d r = r + d ∨ A (pvG A j d r) j ≠ 0) := by
  intro d
  induction d with
  | zero => intro r; simp only [pvG]; exact ⟨Nat.le_refl _, Nat.le_refl _, fun i h1 h2 => by omega, .inl rfl⟩
  | succ d ih =>
    intro r
    simp only [pvG]
    by_cases e : A r j = 0
    · rw [if_pos e]
      obtain ⟨h1, h2, h3, h4⟩ := ih (r + 1)
      refine ⟨by omega, by omega, fun i hi hi2 => ?_, h4.imp (fun h => by omega) id⟩
      by_cases ei : i = r
      · subst ei; exact e
      · exact h3 i (by omega) hi2
    · rw [if_neg e]; exact ⟨Nat.le_refl _, by omega, fun i h1 h2 => by omega, .inr e⟩
theorem pv_spec {A : Nat → Nat → Rat} {j n r : Nat} (h : r ≤ n) : r ≤ pv A j n r ∧ pv A j n r ≤ n ∧ (∀ i, r ≤ i → i < pv A j n r → A i j = 0) ∧ (pv A j n r = n ∨ A (pv A j n r) j ≠ 0) := by
  obtain ⟨h1, h2, h3, h4⟩ := pvG_spec (A := A) (j := j) (n - r) r
  have e : r + (n - r) = n := by omega
  rw [e] at h2 h4
  exact ⟨h1, h2, h3, h4⟩
def swpM (A : Nat → Nat → Rat) (p r : Nat) : Nat → Nat → Rat := fun i => A (if i = p then r else if i = r then p else i)
/-- Column j is cleared below row r. -/
def redM (B : Nat → Nat → Rat) (r j : Nat) : Nat → Nat → Rat := fun i k => if r < i ∧ j ≤ k then B i k - B i j / B r j * B r k else B i k
structure ElS where
  A : Nat → Nat → Rat
  det : Rat
  r : Nat
/-- The round of column j. -/
def elS (n j : Nat) (s : ElS) : ElS :=
  if n ≤ pv s.A j n s.r then ⟨s.A, 0, s.r⟩ else
    ⟨redM (swpM s.A (pv s.A j n s.r) s.r) s.r j, (if pv s.A j n s.r = s.r then s.det else -s.det) * swpM s.A (pv s.A j n s.r) s.r s.r j, s.r + 1⟩
def elim (n : Nat) (A : Nat → Nat → Rat) (j : Nat) : ElS := iter (elS n) j ⟨A, 1, 0⟩
theorem elim_succ {n : Nat} {A : Nat → Nat → Rat} {j : Nat} : elim n A (j + 1) = elS n j (elim n A j) := rfl
theorem elim_r_n {n : Nat} {A : Nat → Nat → Rat} : ∀ j, (elim n A j).r ≤ n := by
  intro j
  induction j with
  | zero => exact Nat.zero_le _
  | succ j ih =>
    rw [elim_succ]; unfold elS
    split
    · exact ih
    · rename_i h
      have := (pv_spec (A := (elim n A j).A) (j := j) ih).1
      show (elim n A j).r + 1 ≤ n; omega
/-- How many digits there may be in a row that was turned so often; in the determinant. -/
def bb (b : Nat) : Nat → Nat
  | 0 => b
  | k + 1 => 4 * bb b k + 1
/-- The same, where the first round is known to be a mild one. -/
def b1 (b c : Nat) : Nat → Nat
  | 0 => b
  | k + 1 => bb c k
def dR (R : Nat → Nat) : Nat → Nat
  | 0 => 1
  | k + 1 => dR R k + R k
theorem Rmono {R : Nat → Nat} (h : ∀ k, R k ≤ R (k + 1)) {i j : Nat} (hij : i ≤ j) : R i ≤ R j := by
  induction j with
  | zero => rw [Nat.le_zero.1 hij]; exact Nat.le_refl _
  | succ j ih =>
    by_cases e : i = j + 1
    · rw [e]; exact Nat.le_refl _
    · exact Nat.le_trans (ih (by omega)) (h j)
theorem dR_mono {R : Nat → Nat} {i j : Nat} (h : i ≤ j) : dR R i ≤ dR R j := Rmono (fun k => Nat.le_add_right _ _) h
theorem dR_pos {R : Nat → Nat} {k : Nat} : 1 ≤ dR R k := dR_mono (R := R) (Nat.zero_le k)
theorem dR_lt {R : Nat → Nat} {k n : Nat} (h : k < n) : R k + 1 ≤ dR R n := by
  have h1 := dR_mono (R := R) (show k + 1 ≤ n from h)
  have h2 := dR_pos (R := R) (k := k)
  simp only [dR] at h1; omega
/-- The rows' digits. -/
def RowB (R : Nat → Nat) (n w : Nat) (A : Nat → Nat → Rat) (r : Nat) : Prop := ∀ i k, i < n → k < w → Bz (A i k) (R (min i r))
theorem RowB.swp {R : Nat → Nat} {n w : Nat} {A : Nat → Nat → Rat} {r p : Nat} (h : RowB R n w A r) (hp : r ≤ p) (hpn : p < n) : RowB R n w (swpM A p r) r := by
  intro i k hi hk
  unfold swpM
  by_cases e1 : i = p
  · rw [if_pos e1]
    have := h r k (by omega) hk
    rw [Nat.min_self] at this
    rw [Nat.min_eq_right (by omega)]; exact this
  · rw [if_neg e1]
    by_cases e2 : i = r
    · rw [if_pos e2]
      have := h p k hpn hk
      rw [Nat.min_eq_right hp] at this
      rw [e2, Nat.min_self]; exact this
    · rw [if_neg e2]; exact h i k hi hk
theorem RowB.quo {R : Nat → Nat} {n w : Nat} {B : Nat → Nat → Rat} {r : Nat} (h : RowB R n w B r) {i j : Nat} (hi : i < n) (hr : r < i) (hj : j < w) : Bz (B i j / B r j) (R r + R r) := by
  have h1 := h i j hi hj
  have h2 := h r j (by omega) hj
  rw [Nat.min_eq_right (by omega)] at h1
  rw [Nat.min_self] at h2
  exact h1.div h2
theorem RowB.red {R : Nat → Nat} {n w : Nat} {B : Nat → Nat → Rat} {r j : Nat} (hR : 4 * R r + 1 ≤ R (r + 1)) (hm : ∀ k, R k ≤ R (k + 1)) (h : RowB R n w B r) (hj : j < w) : RowB R n w (redM B r j) (r + 1) := by
  intro i k hi hk
  unfold redM
  by_cases c : r < i ∧ j ≤ k
  · rw [if_pos c]
    have h1 := h i k hi hk
    have h2 := h r k (by omega) hk
    have h3 := h.quo hi c.1 hj
    rw [Nat.min_eq_right (by omega)] at h1
    rw [Nat.min_self] at h2
    rw [Nat.min_eq_right (by omega)]
    exact (h1.sub (h3.mul h2)).mono (by omega)
  · rw [if_neg c]
    exact (h i k hi hk).mono (Rmono hm (by omega))
theorem swpM_self {A : Nat → Nat → Rat} {r : Nat} : swpM A r r = A := by
  funext i
  unfold swpM
  by_cases e : i = r
  · rw [if_pos e, e]
  · rw [if_neg e, if_neg e]
theorem redM_le {B : Nat → Nat → Rat} {r j i k : Nat} (h : i ≤ r ∨ k < j) : redM B r j i k = B i k := if_neg (by omega)
theorem redM_gt {B : Nat → Nat → Rat} {r j i k : Nat} (h1 : r < i) (h2 : j ≤ k) : redM B r j i k = B i k - B i j / B r j * B r k := if_pos ⟨h1, h2⟩
/-- What is known of the digits, all the way down. -/
structure RB (R : Nat → Nat) (n w : Nat) (A : Nat → Nat → Rat) : Prop where
  row : ∀ j, j ≤ n → RowB R n w (elim n A j).A (elim n A j).r
  mono : ∀ k, R k ≤ R (k + 1)
  lim : ∀ k, k + 1 < n → 4 * R k + 1 ≤ 1048576
  dlim : dR R n ≤ 1048576
theorem RB.det {R : Nat → Nat} {n w : Nat} {A : Nat → Nat → Rat} (h : RB R n w A) (hw : n ≤ w) : ∀ j, j ≤ n → Bz (elim n A j).det (dR R (elim n A j).r) := by
  intro j
  induction j with
  | zero => exact fun _ => bz_one
  | succ j ih =>
    intro hj
    have h2 := ih (by omega)
    have h1 := h.row j (by omega)
    have hr := elim_r_n (n := n) (A := A) j
    rw [elim_succ]
    unfold elS
    split
    · exact bz_zero.mono dR_pos
    · rename_i hp
      obtain ⟨p1, p2, _, _⟩ := pv_spec (A := (elim n A j).A) (j := j) hr
      have h3 := h1.swp p1 (by omega)
      have h4 := h3 (elim n A j).r j (by omega) (by omega)
      rw [Nat.min_self] at h4
      have h5 : Bz (if pv (elim n A j).A j n (elim n A j).r = (elim n A j).r then (elim n A j).det else -(elim n A j).det) (dR R (elim n A j).r) := by
        split
        · exact h2
        · exact h2.neg
      exact (h5.mul h4).mono (by simp only [dR]; omega)
/-- From the round m on. -/
theorem elim_b {R : Nat → Nat} {n w : Nat} {A : Nat → Nat → Rat} (m : Nat) (hm : ∀ k, R k ≤ R (k + 1)) (h4 : ∀ k, m ≤ k → 4 * R k + 1 ≤ R (k + 1)) (hw : n ≤ w)
    (h0 : ∀ j, j ≤ m → j ≤ n → RowB R n w (elim n A j).A (elim n A j).r) (hrm : m ≤ n → (elim n A m).r = m) : ∀ j, j ≤ n → RowB R n w (elim n A j).A (elim n A j).r ∧ (m ≤ j → m ≤ (elim n A j).r) := by
  intro j
  induction j with
  | zero => intro hj; exact ⟨h0 0 (Nat.zero_le _) hj, fun e => by omega⟩
  | succ j ih =>
    intro hj
    by_cases hjm : j + 1 ≤ m
    · refine ⟨h0 _ hjm hj, fun e => ?_⟩
      have e : m = j + 1 := by omega
      rw [← e, hrm (by omega)]; exact Nat.le_refl _
    obtain ⟨h1, h2⟩ := ih (by omega)
    have h2 := h2 (by omega)
    have hr := elim_r_n (n := n) (A := A) j
    rw [elim_succ]
    unfold elS
    split
    · exact ⟨h1, fun _ => h2⟩
    · rename_i hp
      obtain ⟨p1, p2, _, _⟩ := pv_spec (A := (elim n A j).A) (j := j) hr
      have h3 := h1.swp p1 (by omega)
      exact ⟨h3.red (h4 _ h2) hm (by omega), fun _ => Nat.le_succ_of_le h2⟩
theorem bb_step {b : Nat} (k : Nat) : bb b k ≤ bb b (k + 1) := by simp only [bb]; omega
/-- Where the first place is no nought. -/
theorem RB.one {n w b c : Nat} {A : Nat → Nat → Rat} (hA : ∀ i k, i < n → k < w → Bz (A i k) b) (hw : n ≤ w) (hbc : b ≤ c) (hc : 4 * b + 1 ≤ 1048576) (hb : dR (b1 b c) n ≤ 1048576) (h00 : A 0 0 ≠ 0)
    (h1 : ∀ i k, 0 < i → i < n → k < w → Bz (A i k - A i 0 / A 0 0 * A 0 k) c) : RB (b1 b c) n w A where
  row := fun j hj => (elim_b 1 (fun k => by cases k with
      | zero => exact hbc
      | succ k => exact bb_step k) (fun k hk => by cases k with
      | zero => omega
      | succ k => exact Nat.le_refl _) hw (fun j hj1 hjn => by
    have h0 : RowB (b1 b c) n w A 0 := fun i k hi hk => by rw [Nat.min_zero]; exact hA i k hi hk
    by_cases e : j = 0
    · subst e; exact h0
    · obtain rfl : j = 1 := by omega
      have hpv : pv A 0 n 0 = 0 := pv_eq (Nat.le_refl _) (Nat.zero_le _) (fun i h1 h2 => absurd h2 (Nat.not_lt_zero _)) (.inr h00)
      show RowB (b1 b c) n w (elS n 0 ⟨A, 1, 0⟩).A (elS n 0 ⟨A, 1, 0⟩).r
      unfold elS
      dsimp only
      rw [hpv, if_neg (by omega), swpM_self]
      intro i k hi hk
      show Bz (redM A 0 0 i k) _
      by_cases hi0 : 0 < i
      · rw [redM_gt hi0 (Nat.zero_le _), Nat.min_eq_right hi0]; exact h1 i k hi0 hi hk
      · rw [redM_le (.inl (by omega)), Nat.min_eq_left (by show i ≤ 0 + 1; omega)]
        obtain rfl : i = 0 := by omega
        exact hA 0 k hi hk) (fun hn => by
      have hpv : pv A 0 n 0 = 0 := pv_eq (Nat.le_refl _) (Nat.zero_le _) (fun i h1 h2 => absurd h2 (Nat.not_lt_zero _)) (.inr h00)
      show (elS n 0 ⟨A, 1, 0⟩).r = 1
      unfold elS
      dsimp only
      rw [hpv, if_neg (by omega)]) j hj).1
  mono := fun k => by cases k with
      | zero => exact hbc
      | succ k => exact bb_step k
  lim := fun k hk => by
    cases k with
    | zero => exact hc
    | succ k => have := dR_lt (R := b1 b c) hk; simp only [b1, bb] at this ⊢; omega
  dlim := hb
end Go.Proofs.Ytkaooejeljdbnaa

namespace Go.Proofs.Ytkaooejeljdbnaa
open Go
set_option linter.unusedVariables false
set_option linter.unusedSimpArgs false
set_option maxRecDepth 10000
theorem matP_congr {m m' : Bool} {n w : Nat} {A B : Nat → Nat → Rat} (h : ∀ i k, i < n → k < w → A i k = B i k) : matP m m' n w A = matP m m' n w B :=
  congrArg (PV.sl m 1) (fl_congr fun i hi => by rw [lst_congr fun k hk => h i k hi hk])
end Go.Proofs.Ytkaooejeljdbnaa

namespace Go.Proofs.Ytkaooejeljdbnaa
open Go
set_option linter.unusedVariables false
set_option linter.unusedSimpArgs false
set_option maxRecDepth 10000
/-- s0, less so many products. -/
def sb (a x : Nat → Rat) (s0 : Rat) (from' : Nat) : Nat → Rat
  | 0 => s0
  | d + 1 => sb a x s0 from' d - a (from' + d) * x (from' + d)
/-- What is known behind so many rounds, from the last row on. -/
def bk (A : Nat → Nat → Rat) (n : Nat) : Nat → Nat → Rat
  | 0 => fun _ => 0
  | t + 1 => upd (bk A n t) (n - 1 - t) (sb (A (n - 1 - t)) (bk A n t) (A (n - 1 - t) n) (n - t) t / A (n - 1 - t) (n - 1 - t))
/-- Digits, added up. -/
def xs (R : Nat → Nat) (n : Nat) : Nat → Nat
  | 0 => 0
  | t + 1 => xs R n t + (2 * R (n - 1 - t) + t * (R (n - 1 - t) + 1) + xs R n t)
theorem SIdx.fl {n : Nat} {f : Nat → PV} {i : Int} {K : Nat → PV → Prop} (j : Nat) (v : PV) (hi : i = j) (hj : j < n) (hv : f j = v) (hk : K j v) : SIdx (fl n f) i K := by
  subst hv; exact .mk j _ hi (fl_get hj) hk
theorem replicate_fl {α : Type} (n : Nat) (z : α) : List.replicate n z = fl n fun _ => z := by
  apply List.ext_getElem (by simp)
  intro i h1 h2
  simp [Go.Proofs.Ytkaooejeljdbnaa.fl]
end Go.Proofs.Ytkaooejeljdbnaa

namespace Go.Proofs.Ytkaooejeljdbnaa
def Ker (n w : Nat) (A : Nat → Nat → Rat) (v : Nat → Rat) : Prop := ∀ i, i < n → sm w (fun k => A i k * v k) = 0
theorem Ker.swp {n w p r : Nat} {A : Nat → Nat → Rat} {v : Nat → Rat} (hp : p < n) (hr : r < n) : Ker n w (swpM A p r) v ↔ Ker n w A v := by
  constructor
  · intro h i hi
    by_cases e1 : i = p
    · have := h r hr
      unfold swpM at this
      by_cases e2 : r = p
      · rw [if_pos e2] at this; rw [e1, ← e2]; exact this
      · rw [if_neg e2, if_pos rfl] at this; rw [e1]; exact this
    · by_cases e2 : i = r
      · have := h p hp
        unfold swpM at this
        rw [if_pos rfl] at this; rw [e2]; exact this
      · have := h i hi
        unfold swpM at this
        rw [if_neg e1, if_neg e2] at this; exact this
  · intro h i hi
    unfold swpM
    split
    · exact h r hr
    · split
      · exact h p hp
      · exact h i hi
theorem red_row {B : Nat → Nat → Rat} {r j i : Nat} (hz : ∀ k, k < j → B r k = 0) (hi : r < i) (k : Nat) : redM B r j i k = B i k - B i j / B r j * B r k := by
  by_cases e : j ≤ k
  · exact redM_gt hi e
  · rw [redM_le (.inr (by omega)), hz k (by omega)]; grind
theorem Ker.red {n w r j : Nat} {B : Nat → Nat → Rat} {v : Nat → Rat} (hz : ∀ k, k < j → B r k = 0) (hr : r < n) : Ker n w (redM B r j) v ↔ Ker n w B v := by
  have row : ∀ i, r < i → sm w (fun k => redM B r j i k * v k) = sm w (fun k => B i k * v k) - B i j / B r j * sm w (fun k => B r k * v k) := by
    intro i hi
    rw [← sm_smul, ← sm_sub]
    refine sm_congr fun k _ => ?_
    rw [red_row hz hi]; grind
  have low : ∀ i, ¬ r < i → (fun k => redM B r j i k * v k) = fun k => B i k * v k := by
    intro i hi
    funext k
    rw [redM_le (.inl (by omega))]
  constructor
  · intro h i hi
    have h0 : sm w (fun k => B r k * v k) = 0 := by have := h r hr; rw [low r (Nat.lt_irrefl r)] at this; exact this
    have := h i hi
    by_cases e : r < i
    · rw [row i e, h0] at this; grind
    · rw [low i e] at this; exact this
  · intro h i hi
    by_cases e : r < i
    · rw [row i e, h i hi, h r hr]; grind
    · rw [low i e]; exact h i hi
end Go.Proofs.Ytkaooejeljdbnaa

namespace Go.Proofs.Ytkaooejeljdbnaa
def pm : Nat → (Nat → Rat) → Rat
  | 0, _ => 1
  | n + 1, f => pm n f * f n
def pmx (n k : Nat) (f : Nat → Rat) : Rat := pm n fun t => if t = k then 1 else f t
theorem pm_congr {f g : Nat → Rat} : ∀ {n : Nat}, (∀ i, i < n → f i = g i) → pm n f = pm n g := by
  intro n
  induction n with
  | zero => exact fun _ => rfl
  | succ n ih => intro h; simp only [pm]; rw [ih fun i hi => h i (by omega), h n (by omega)]
theorem pm_ne {f : Nat → Rat} : ∀ {n : Nat}, (∀ i, i < n → f i ≠ 0) → pm n f ≠ 0 := by
  intro n
  induction n with
  | zero => intro _; simp only [pm]; decide
  | succ n ih =>
    intro h e
    rcases Rat.mul_eq_zero.1 e with e | e
    · exact ih (fun i hi => h i (by omega)) e
    · exact h n (by omega) e
theorem pm_zero {f : Nat → Rat} {k : Nat} : ∀ {n : Nat}, k < n → f k = 0 → pm n f = 0 := by
  intro n
  induction n with
  | zero => intro h; exact absurd h (Nat.not_lt_zero _)
  | succ n ih =>
    intro h e
    simp only [pm]
    by_cases c : k = n
    · rw [← c, e]; exact Rat.mul_zero _
    · rw [ih (by omega) e]; exact Rat.zero_mul _
theorem pmx_ne {f : Nat → Rat} {n k : Nat} (h : ∀ i, i < n → i ≠ k → f i ≠ 0) : pmx n k f ≠ 0 :=
  pm_ne fun i hi => by
    by_cases e : i = k
    · rw [if_pos e]; decide
    · rw [if_neg e]; exact h i hi e
theorem pmx_zero {f : Nat → Rat} {n k l : Nat} (hl : l < n) (hk : l ≠ k) (h : f l = 0) : pmx n k f = 0 := pm_zero hl (by rw [if_neg hk]; exact h)
theorem pmx_ge {f : Nat → Rat} {n k : Nat} (h : n ≤ k) : pmx n k f = pm n f := pm_congr fun i hi => if_neg (by omega)
theorem pmx_succ {f : Nat → Rat} {n k : Nat} (h : n ≠ k) : pmx (n + 1) k f = pmx n k f * f n := by
  show pm n _ * (if n = k then 1 else f n) = _
  rw [if_neg h]; rfl
theorem pmx_self {f : Nat → Rat} {n : Nat} : pmx (n + 1) n f = pm n f := by
  show pm n _ * (if n = n then 1 else f n) = _
  rw [if_pos rfl, Rat.mul_one]; exact pmx_ge (Nat.le_refl n)
theorem pm_split {f : Nat → Rat} {k : Nat} : ∀ {n : Nat}, k < n → pm n f = f k * pmx n k f := by
  intro n
  induction n with
  | zero => intro h; exact absurd h (Nat.not_lt_zero _)
  | succ n ih =>
    intro h
    by_cases c : k = n
    · subst c; rw [pmx_self]; simp only [pm]; exact Rat.mul_comm _ _
    · rw [pmx_succ (by omega)]; simp only [pm]; rw [ih (by omega)]; grind
def PolE (k : Nat) (g : Rat → Rat) : Prop := ∃ c : Nat → Rat, ∀ X, pev k c X = g X
theorem PolE.zero (k : Nat) : PolE k fun _ => 0 := ⟨fun i => 0 * (0 : Rat), fun X => by rw [pev_smul k 0 (fun _ => 0) X]; exact Rat.zero_mul _⟩
theorem PolE.add {k : Nat} {g h : Rat → Rat} (hg : PolE k g) (hh : PolE k h) : PolE k fun X => g X + h X := by
  obtain ⟨c, hc⟩ := hg
  obtain ⟨d, hd⟩ := hh
  exact ⟨fun i => c i + d i, fun X => by rw [pev_add, hc, hd]⟩
theorem PolE.smul {k : Nat} {g : Rat → Rat} (b : Rat) (hg : PolE k g) : PolE k fun X => b * g X := by
  obtain ⟨c, hc⟩ := hg
  exact ⟨fun i => b * c i, fun X => by rw [pev_smul, hc]⟩
theorem PolE.mulX {k : Nat} {g : Rat → Rat} (hg : PolE k g) (r : Rat) : PolE (k + 1) fun X => g X * (r - X) := by
  obtain ⟨c, hc⟩ := hg
  obtain ⟨d, _, hd⟩ := (Pol.mulX (g := g) ⟨c, rfl, hc⟩ r).smul (-1)
  exact ⟨d, fun X => by rw [hd]; grind⟩
theorem PolE.pm (a : Nat → Rat) : ∀ n, PolE n fun X => pm n fun t => a t - X := by
  intro n
  induction n with
  | zero => exact ⟨fun _ => 1, fun X => rfl⟩
  | succ n ih => exact ih.mulX (a n)
theorem PolE.pmx (a : Nat → Rat) (j : Nat) : ∀ n, j < n + 1 → PolE n fun X => pmx (n + 1) j fun t => a t - X := by
  intro n
  induction n with
  | zero =>
    intro h
    obtain rfl : j = 0 := by omega
    have : (fun X : Rat => Go.Proofs.Ytkaooejeljdbnaa.pmx (0 + 1) 0 fun t => a t - X) = fun X => Go.Proofs.Ytkaooejeljdbnaa.pm 0 fun t => a t - X := by funext X; exact pmx_self
    rw [this]; exact PolE.pm a 0
  | succ n ih =>
    intro h
    by_cases e : j = n + 1
    · subst e
      have : (fun X : Rat => Go.Proofs.Ytkaooejeljdbnaa.pmx (n + 1 + 1) (n + 1) fun t => a t - X) = fun X => Go.Proofs.Ytkaooejeljdbnaa.pm (n + 1) fun t => a t - X := by funext X; exact pmx_self
      rw [this]; exact PolE.pm a (n + 1)
    · have : (fun X : Rat => Go.Proofs.Ytkaooejeljdbnaa.pmx (n + 1 + 1) j fun t => a t - X) = fun X => (Go.Proofs.Ytkaooejeljdbnaa.pmx (n + 1) j fun t => a t - X) * (a (n + 1) - X) := by funext X; exact pmx_succ (by omega)
      rw [this]; exact (ih (by omega)).mulX _
theorem PolE.sum {k : Nat} {G : Nat → Rat → Rat} : ∀ m, (∀ t, t < m → PolE k (G t)) → PolE k fun X => sm m fun t => G t X := by
  intro m
  induction m with
  | zero => exact fun _ => PolE.zero k
  | succ m ih => intro h; exact (ih fun t ht => h t (by omega)).add (h m (by omega))
theorem PolE.eq {k : Nat} {g h : Rat → Rat} {r : Nat → Rat} (hg : PolE k g) (hh : PolE k h) (hi : Inj r (k + 1)) (he : ∀ l, l < k + 1 → g (r l) = h (r l)) (X : Rat) : g X = h X := by
  obtain ⟨c, hc⟩ := hg
  obtain ⟨d, hd⟩ := hh
  rw [← hc, ← hd]
  exact pev_congr k X (pev_eq hi fun l hl => by rw [hc, hd]; exact he l hl)
structure CauH (n : Nat) (a b : Nat → Rat) : Prop where
  ia : Inj a n
  ib : Inj b n
  ne : ∀ i k, i < n → k < n → a i ≠ b k
theorem rsub_ne {a b : Rat} (h : a ≠ b) : a - b ≠ 0 := fun e => h (by grind)
/-- Parts of a quotient of polynomials. -/
theorem parts {n : Nat} {b : Nat → Rat} (hb : Inj b n) {g : Rat → Rat} (hn : 1 ≤ n) (hg : PolE (n - 1) g) {x : Rat} (hx : ∀ k, k < n → x ≠ b k) :
    sm n (fun k => 1 / (x - b k) * (g (b k) / pmx n k fun t => b t - b k)) = -(g x / pm n fun t => b t - x) := by
  obtain ⟨m, rfl⟩ : ∃ m, n = m + 1 := ⟨n - 1, by omega⟩
  have hnz : ∀ k, k < m + 1 → (pmx (m + 1) k fun t => b t - b k) ≠ 0 := fun k hk => pmx_ne fun t ht e => rsub_ne fun c => e (hb t k ht hk c)
  have key := PolE.eq (g := fun X => sm (m + 1) fun k => g (b k) / (pmx (m + 1) k fun t => b t - b k) * pmx (m + 1) k fun t => b t - X) (PolE.sum (m + 1) fun k hk => (PolE.pmx b k m hk).smul _) hg hb (fun l hl => by
    show (sm (m + 1) fun k => g (b k) / (pmx (m + 1) k fun t => b t - b k) * pmx (m + 1) k fun t => b t - b l) = g (b l)
    have : (sm (m + 1) fun k => g (b k) / (pmx (m + 1) k fun t => b t - b k) * pmx (m + 1) k fun t => b t - b l) = sm (m + 1) fun k => g (b k) * (if k = l then 1 else 0) := sm_congr fun k hk => by
      by_cases e : k = l
      · subst e; rw [if_pos rfl]; have := hnz k hk; grind
      · rw [if_neg e, pmx_zero (f := fun t => b t - b l) (l := l) hl (Ne.symm e) (by grind)]; grind
    rw [this]; exact sm_one hl _) x
  have hp : pm (m + 1) (fun t => b t - x) ≠ 0 := pm_ne fun t ht => rsub_ne fun c => hx t ht c.symm
  have key : (sm (m + 1) fun k => g (b k) / (pmx (m + 1) k fun t => b t - b k) * pmx (m + 1) k fun t => b t - x) = g x := key
  rw [← key]
  have : (sm (m + 1) fun k => g (b k) / (pmx (m + 1) k fun t => b t - b k) * pmx (m + 1) k fun t => b t - x) = -(pm (m + 1) fun t => b t - x) * sm (m + 1) (fun k => 1 / (x - b k) * (g (b k) / pmx (m + 1) k fun t => b t - b k)) := by
    rw [← sm_smul]
    refine sm_congr fun k hk => ?_
    rw [pm_split hk]
    have h1 := hnz k hk
    have h2 : x - b k ≠ 0 := rsub_ne (hx k hk)
    generalize (pmx (m + 1) k fun t => b t - x) = u
    generalize (pmx (m + 1) k fun t => b t - b k) = v at h1
    generalize g (b k) = y
    generalize b k = z at h2
    grind
  rw [this]
  generalize (sm (m + 1) fun k => 1 / (x - b k) * (g (b k) / pmx (m + 1) k fun t => b t - b k)) = S
  generalize pm (m + 1) (fun t => b t - x) = p at hp
  grind
end Go.Proofs.Ytkaooejeljdbnaa

namespace Go.Proofs.Ytkaooejeljdbnaa
set_option linter.unusedVariables false
/-- What is left behind so many steps without pivots. -/
def gs (A : Nat → Nat → Rat) : Nat → Nat → Nat → Rat
  | 0 => A
  | k + 1 => redM (gs A k) k k
def piv (A : Nat → Nat → Rat) (k : Nat) : Rat := gs A k k k
theorem gs_gt {A : Nat → Nat → Rat} {k i j : Nat} (h1 : k < i) (h2 : k ≤ j) : gs A (k + 1) i j = gs A k i j - gs A k i k / gs A k k k * gs A k k j := redM_gt h1 h2
theorem gs_le {A : Nat → Nat → Rat} {k i j : Nat} (h : i ≤ k ∨ j < k) : gs A (k + 1) i j = gs A k i j := redM_le h
/-- A row stays from its own step on. -/
theorem gs_row {A : Nat → Nat → Rat} {i j : Nat} : ∀ d, gs A (i + d) i j = gs A i i j := by
  intro d
  induction d with
  | zero => rfl
  | succ d ih => rw [← ih, ← Nat.add_assoc]; exact gs_le (.inl (by omega))
theorem gs_row' {A : Nat → Nat → Rat} {i j k : Nat} (h : i ≤ k) : gs A k i j = gs A i i j := by
  obtain ⟨d, rfl⟩ : ∃ d, k = i + d := ⟨k - i, by omega⟩
  exact gs_row d
theorem gs_congr {A B : Nat → Nat → Rat} {n : Nat} (h : ∀ i j, i < n → j < n → A i j = B i j) : ∀ k, k ≤ n → ∀ i j, i < n → j < n → gs A k i j = gs B k i j := by
  intro k
  induction k with
  | zero => intro _; exact h
  | succ k ih =>
    intro hk i j hi hj
    have ih := ih (by omega)
    by_cases c : k < i ∧ k ≤ j
    · rw [gs_gt c.1 c.2, gs_gt c.1 c.2, ih i j hi hj, ih i k hi (by omega), ih k k (by omega) (by omega), ih k j (by omega) hj]
    · rw [gs_le (by omega), gs_le (by omega)]; exact ih i j hi hj
def lowM (A : Nat → Nat → Rat) (i j : Nat) : Rat := if i = j then 1 else if j < i then gs A j i j / gs A j j j else 0
def uppM (A : Nat → Nat → Rat) (i j : Nat) : Rat := if j < i then 0 else gs A i i j
/-- The first step at which there is nought: behind all of n, n. -/
def brk (A : Nat → Nat → Rat) (n : Nat) : Nat → Nat
  | 0 => n
  | d + 1 => if piv A (n - (d + 1)) = 0 then n - (d + 1) else brk A n d
def brkN (A : Nat → Nat → Rat) (n : Nat) : Nat := brk A n n
theorem brk_spec {A : Nat → Nat → Rat} {n : Nat} : ∀ d, d ≤ n → n - d ≤ brk A n d ∧ brk A n d ≤ n ∧ (∀ t, n - d ≤ t → t < brk A n d → piv A t ≠ 0) ∧ (brk A n d < n → piv A (brk A n d) = 0) := by
  intro d
  induction d with
  | zero => intro _; simp only [brk]; exact ⟨by omega, Nat.le_refl _, fun t h1 h2 => by omega, fun h => absurd h (Nat.lt_irrefl _)⟩
  | succ d ih =>
    intro hd
    obtain ⟨h1, h2, h3, h4⟩ := ih (by omega)
    simp only [brk]
    by_cases e : piv A (n - (d + 1)) = 0
    · rw [if_pos e]; exact ⟨Nat.le_refl _, by omega, fun t h1 h2 => by omega, fun _ => e⟩
    · rw [if_neg e]
      refine ⟨by omega, h2, fun t h5 h6 => ?_, h4⟩
      by_cases et : t = n - (d + 1)
      · rw [et]; exact e
      · exact h3 t (by omega) h6
theorem brkN_spec (A : Nat → Nat → Rat) (n : Nat) : brkN A n ≤ n ∧ (∀ t, t < brkN A n → piv A t ≠ 0) ∧ (brkN A n < n → piv A (brkN A n) = 0) := by
  obtain ⟨h1, h2, h3, h4⟩ := brk_spec (A := A) (n := n) n (Nat.le_refl _)
  exact ⟨h2, fun t ht => h3 t (by omega) ht, h4⟩
end Go.Proofs.Ytkaooejeljdbnaa

namespace Go.Proofs.Ytkaooejeljdbnaa
open Go
set_option linter.unusedVariables false
set_option linter.unusedSimpArgs false
set_option maxRecDepth 10000
theorem Wf.dif {g : GV} {b c : Nat} (h : Wf g b c) {i j : Nat} (hi : i < g.la) (hj : j < g.lb) : Bz (g.A i - g.B j) (b + c + 1) ∧ g.A i - g.B j ≠ 0 :=
  ⟨(h.bA i hi).sub (h.bB j hj), fun e => h.ne i j hi hj (by grind)⟩
/-- How many digits an entry has. -/
def eb (b c : Nat) : Nat := 24 * b + c + 30
theorem Wf.la12 {g : GV} {b c : Nat} (h : Wf g b c) (hk : g.k = 1 ∨ g.k = 2) : g.la = 2 * g.n - 1 := by unfold GV.la cntA; rw [if_pos hk]
theorem Wf.la3 {g : GV} {b c : Nat} (h : Wf g b c) (hk : g.k = 3 ∨ g.k = 4 ∨ g.k = 5 ∨ g.k = 7) : g.la = g.n := by unfold GV.la cntA; rw [if_neg (by omega), if_neg (by omega)]
theorem Wf.lb5 {g : GV} {b c : Nat} (h : Wf g b c) (hk : g.k = 5 ∨ g.k = 7) : g.lb = g.n := by unfold GV.lb cntB; rw [if_pos hk]
theorem Wf.bSum {g : GV} {b c : Nat} (h : Wf g b c) (hk : g.k = 6 ∨ g.k = 7) {i j : Nat} (hi : i < g.n) (hj : j < g.n) : ∀ k, k ≤ min i j + 1 → Bz (sm k fun m => rowS g (i - m) (j - m)) (k * (2 * (2 * b + 1) + 1 + 1) + 1) :=
  sm_bz' (F := fun m => rowS g (i - m) (j - m)) (n := min i j + 1) fun m hm => h.bRow hk (by omega) (by omega)
theorem Wf.bEnt {g : GV} {b c : Nat} (h : Wf g b c) {i j : Nat} (hi : i < g.n) (hj : j < g.n) : Bz (ent g i j) (eb b c) := by
  have h8 := h.n6
  unfold ent eb
  rcases k_cases h.k1 h.k7 with e | e | e | e | e | e | e
  · rw [if_pos e]
    exact (h.bA _ (by rw [h.la12 (by omega)]; omega)).mono (by omega)
  · rw [if_neg (by omega), if_pos e]
    exact (h.bA _ (by rw [h.la12 (by omega)]; omega)).mono (by omega)
  · rw [if_neg (by omega), if_neg (by omega), if_pos e]
    exact (h.bA _ (by rw [h.la3 (by omega)]; exact Nat.mod_lt _ (by omega))).mono (by omega)
  · rw [if_neg (by omega), if_neg (by omega), if_neg (by omega), if_pos e]
    have hj7 : b * j ≤ b * 5 := Nat.mul_le_mul_left _ (by omega)
    exact (bz_pow (h.bA i (by rw [h.la3 (by omega)]; exact hi)) j).mono (by omega)
  · rw [if_neg (by omega), if_neg (by omega), if_neg (by omega), if_neg (by omega), if_pos e]
    have := h.dif (i := i) (j := j) (by rw [h.la3 (by omega)]; exact hi) (by rw [h.lb5 (by omega)]; exact hj)
    exact (bz_one.div this.1).mono (by omega)
  · rw [if_neg (by omega), if_neg (by omega), if_neg (by omega), if_neg (by omega), if_neg (by omega), if_pos e]
    have z := h.bSum (.inl e) hi hj (min i j + 1) (Nat.le_refl _)
    have := Nat.mul_le_mul_right (2 * (2 * b + 1) + 1 + 1) (show min i j + 1 ≤ 6 by omega)
    exact z.mono (by omega)
  · rw [if_neg (by omega), if_neg (by omega), if_neg (by omega), if_neg (by omega), if_neg (by omega), if_neg (by omega)]
    have := h.dif (i := i) (j := j) (by rw [h.la3 (by omega)]; exact hi) (by rw [h.lb5 (by omega)]; exact hj)
    exact ((h.bRow (.inr e) hi hj).div this.1).mono (by omega)
end Go.Proofs.Ytkaooejeljdbnaa

namespace Go.Proofs.Ytkaooejeljdbnaa
open Go
set_option linter.unusedVariables false
set_option linter.unusedSimpArgs false
set_option maxRecDepth 10000
theorem gcheck1_ok (m : Nat → Bool) (n r : Nat) (A B G H : Nat → Rat) {b c : Nat} (h : Wf ⟨1, n, r, A, B, G, H⟩ b c) : CallP Try.prog 150 [genP m ⟨1, n, r, A, B, G, H⟩] (.p (.int .i64 0)) [] := by
  have n6 : n ≤ 6 := h.n6
  have n1 : 1 ≤ n := h.n1
  have r2 : r ≤ 2 := h.r2
  have hnr : n * r ≤ 12 := Nat.mul_le_mul n6 r2
  have hc4 := h.c4
  have hbc := h.bc
  have cc := cnt_le (k := 1) (r := r) n1 (show n ≤ 8 by omega) (show r ≤ 3 by omega)
  have cb : ∀ i : Nat, (if i = 0 then cntA 1 n else if i = 1 then cntB 1 n else cntH 1 n r) ≤ 24 := fun i => by split <;> (try split) <;> omega
  show CallP Try.prog 150 [.agg [.int .i64 ((1 : Nat) : Int), .int .i64 (n : Int), .int .i64 (r : Int), ratsM (m 0) (lst (cntA 1 n) A), ratsM (m 1) (lst (cntB 1 n) B), ratsM (m 2) (lst (cntH 1 n r) G), ratsM (m 3) (lst (cntH 1 n r) H)]] (.p (.int .i64 0)) []
  refine callG_of_vc (wr := wr0) Γok mixed Try.func150 (by kernel_rfl) rfl (by kernel_rfl) (le_of_ble rfl) (by simp) ?_
  refine SCmp.no (decide_eq_false (by omega)) ?_
  refine SCmp.no (decide_eq_false (by omega)) ?_
  refine SCall.pure (sized_ok m ⟨1, n, r, A, B, G, H⟩ h) ?_
  refine SCmp.no (rfl) ?_
  refine SCall.lent [genP m ⟨1, n, r, A, B, G, H⟩] _ rfl (genrows_ok m ⟨1, n, r, A, B, G, H⟩) ?_
  refine SCall.pure (counts_ok) ?_
  refine SLoop.mk Nat (fun i => ([(1, .bptr 0 0), (3, .bptr 1 0), (4, .p (.mp false cntM)), (28, .p (.agg [ratsM (m 0) (lst (cntA 1 n) A), ratsM (m 1) (lst (cntB 1 n) B), ratsM (m 2) (lst (cntH 1 n r) G), ratsM (m 3) (lst (cntH 1 n r) H)])), (29, .p (.int .i64 i))], [.box 59 [.p (.int .i64 ((1 : Nat) : Int)), .p (.int .i64 (n : Int)), .p (.int .i64 (r : Int)), .p (ratsM (m 0) (lst (cntA 1 n) A)), .p (ratsM (m 1) (lst (cntB 1 n) B)), .p (ratsM (m 2) (lst (cntH 1 n r) G)), .p (ratsM (m 3) (lst (cntH 1 n r) H))], .box 189 [.p (ratsM (m 0) (lst (cntA 1 n) A)), .p (ratsM (m 1) (lst (cntB 1 n) B)), .p (ratsM (m 2) (lst (cntH 1 n r) G)), .p (ratsM (m 3) (lst (cntH 1 n r) H))]]))
    (fun i => i ≤ 4) (fun i => 4 - i) 0 [0, 1] (Nat.zero_le _) ⟨rfl, by simp, rfl, rfl, rfl, ⟨rfl, rfl, rfl, rfl, rfl, trivial⟩, ⟨rfl, rfl, trivial⟩⟩ ?_
  intro i hi
  have hi : i ≤ 4 := hi
  rcases (show i = 0 ∨ i = 1 ∨ i = 2 ∨ i = 3 ∨ i = 4 by omega) with rfl | rfl | rfl | rfl | rfl
  · refine SCmp.yes (rfl) ?_
    refine SIdx.mk 0 _ rfl rfl ?_
    refine SKeys.all rfl <| SGet.at 0 _ rfl rfl rfl ?_
    refine SZ.mk ((cntA 1 n : Nat) : Int) (by simp [lst]) ?_
    refine SPos.mk 0 rfl (by decide) ?_
    refine SWrap.i64z ((2 * n : Nat) : Int) (by omega) (by omega) ?_
    refine SPos.mk 1 rfl (by decide) ?_
    refine SWrap.i64z ((0 * n : Nat) : Int) (by omega) (by omega) ?_
    refine SWrap.i64z ((0 : Nat) : Int) (by simp) (by omega) ?_
    refine SWrap.i64z ((2 * n + 0 : Nat) : Int) (by omega) (by omega) ?_
    refine SPos.mk 2 rfl (by decide) ?_
    refine SWrap.i64z ((cntA 1 n : Nat) : Int) (by simp [cntA, cntB, cntH] <;> omega) (by have := cnt_le (k := 1) (r := r) n1 (show n ≤ 8 by omega) (show r ≤ 3 by omega); omega) ?_
    refine SCmp.no (neF rfl) ?_
    refine SWrap.i64z ((0 + 1 : Nat) : Int) (by omega) (by omega) ?_
    exact ⟨0 + 1, [0, 1], by decide, by decide, ⟨rfl, by simp, rfl, rfl, rfl, ⟨rfl, rfl, rfl, rfl, rfl, trivial⟩, ⟨rfl, rfl, trivial⟩⟩⟩
  · refine SCmp.yes (rfl) ?_
    refine SIdx.mk 1 _ rfl rfl ?_
    refine SKeys.all rfl <| SGet.none rfl ?_
    refine SZ.mk ((cntB 1 n : Nat) : Int) (by simp [lst]) ?_
    refine SPos.mk 0 rfl (by decide) ?_
    refine SWrap.i64z ((0 * n : Nat) : Int) (by omega) (by omega) ?_
    refine SPos.mk 1 rfl (by decide) ?_
    refine SWrap.i64z ((0 * n : Nat) : Int) (by omega) (by omega) ?_
    refine SWrap.i64z ((0 : Nat) : Int) (by simp) (by omega) ?_
    refine SWrap.i64z ((0 * n + 0 : Nat) : Int) (by omega) (by omega) ?_
    refine SPos.mk 2 rfl (by decide) ?_
    refine SWrap.i64z ((cntB 1 n : Nat) : Int) (by simp [cntA, cntB, cntH] <;> omega) (by have := cnt_le (k := 1) (r := r) n1 (show n ≤ 8 by omega) (show r ≤ 3 by omega); omega) ?_
    refine SCmp.no (neF rfl) ?_
    refine SWrap.i64z ((1 + 1 : Nat) : Int) (by omega) (by omega) ?_
    exact ⟨1 + 1, [0, 1], by decide, by decide, ⟨rfl, by simp, rfl, rfl, rfl, ⟨rfl, rfl, rfl, rfl, rfl, trivial⟩, ⟨rfl, rfl, trivial⟩⟩⟩
  · refine SCmp.yes (rfl) ?_
    refine SIdx.mk 2 _ rfl rfl ?_
    refine SKeys.all rfl <| SGet.none rfl ?_
    refine SZ.mk ((cntH 1 n r : Nat) : Int) (by simp [lst]) ?_
    refine SPos.mk 0 rfl (by decide) ?_
    refine SWrap.i64z ((0 * n : Nat) : Int) (by omega) (by omega) ?_
    refine SPos.mk 1 rfl (by decide) ?_
    refine SWrap.i64z ((0 * n : Nat) : Int) (by omega) (by omega) ?_
    refine SWrap.i64z ((0 : Nat) : Int) (by simp) (by omega) ?_
    refine SWrap.i64z ((0 * n + 0 : Nat) : Int) (by omega) (by omega) ?_
    refine SPos.mk 2 rfl (by decide) ?_
    refine SWrap.i64z ((cntH 1 n r : Nat) : Int) (by simp [cntA, cntB, cntH] <;> omega) (by have := cnt_le (k := 1) (r := r) n1 (show n ≤ 8 by omega) (show r ≤ 3 by omega); omega) ?_
    refine SCmp.no (neF rfl) ?_
    refine SWrap.i64z ((2 + 1 : Nat) : Int) (by omega) (by omega) ?_
    exact ⟨2 + 1, [0, 1], by decide, by decide, ⟨rfl, by simp, rfl, rfl, rfl, ⟨rfl, rfl, rfl, rfl, rfl, trivial⟩, ⟨rfl, rfl, trivial⟩⟩⟩
  · refine SCmp.yes (rfl) ?_
    refine SIdx.mk 3 _ rfl rfl ?_
    refine SKeys.all rfl <| SGet.none rfl ?_
    refine SZ.mk ((cntH 1 n r : Nat) : Int) (by simp [lst]) ?_
    refine SPos.mk 0 rfl (by decide) ?_
    refine SWrap.i64z ((0 * n : Nat) : Int) (by omega) (by omega) ?_
    refine SPos.mk 1 rfl (by decide) ?_
    refine SWrap.i64z ((0 * n : Nat) : Int) (by omega) (by omega) ?_
    refine SWrap.i64z ((0 : Nat) : Int) (by simp) (by omega) ?_
    refine SWrap.i64z ((0 * n + 0 : Nat) : Int) (by omega) (by omega) ?_
    refine SPos.mk 2 rfl (by decide) ?_
    refine SWrap.i64z ((cntH 1 n r : Nat) : Int) (by simp [cntA, cntB, cntH] <;> omega) (by have := cnt_le (k := 1) (r := r) n1 (show n ≤ 8 by omega) (show r ≤ 3 by omega); omega) ?_
    refine SCmp.no (neF rfl) ?_
    refine SWrap.i64z ((3 + 1 : Nat) : Int) (by omega) (by omega) ?_
    exact ⟨3 + 1, [0, 1], by decide, by decide, ⟨rfl, by simp, rfl, rfl, rfl, ⟨rfl, rfl, rfl, rfl, rfl, trivial⟩, ⟨rfl, rfl, trivial⟩⟩⟩
  · refine SCmp.no (rfl) ?_
    refine SLoop.mk Nat (fun i => ([(1, .bptr 0 0), (60, .p (.agg [ratsM (m 0) (lst (cntA 1 n) A), ratsM (m 1) (lst (cntB 1 n) B), ratsM (m 2) (lst (cntH 1 n r) G), ratsM (m 3) (lst (cntH 1 n r) H)])), (61, .p (.int .i64 i))], [.box 59 [.p (.int .i64 ((1 : Nat) : Int)), .p (.int .i64 (n : Int)), .p (.int .i64 (r : Int)), .p (ratsM (m 0) (lst (cntA 1 n) A)), .p (ratsM (m 1) (lst (cntB 1 n) B)), .p (ratsM (m 2) (lst (cntH 1 n r) G)), .p (ratsM (m 3) (lst (cntH 1 n r) H))], .box 189 [.p (ratsM (m 0) (lst (cntA 1 n) A)), .p (ratsM (m 1) (lst (cntB 1 n) B)), .p (ratsM (m 2) (lst (cntH 1 n r) G)), .p (ratsM (m 3) (lst (cntH 1 n r) H))]]))
      (fun i => i ≤ 4) (fun i => 4 - i) 0 [0, 1] (Nat.zero_le _) ⟨rfl, by simp, rfl, rfl, rfl, ⟨rfl, rfl, rfl, trivial⟩, ⟨rfl, rfl, trivial⟩⟩ ?_
    intro i hi
    have hi : i ≤ 4 := hi
    rcases (show i = 0 ∨ i = 1 ∨ i = 2 ∨ i = 3 ∨ i = 4 by omega) with rfl | rfl | rfl | rfl | rfl
    · refine SCmp.yes (rfl) ?_
      refine SIdx.mk 0 _ rfl rfl ?_
      refine SCall.pure (none1_ok (m 0) (lst (cntA 1 n) A) (fun i hi => by rw [lst_length] at hi; rw [lst_getD hi]; exact check1_ok _ ((h.bA i hi).mono (by omega))) (by rw [lst_length]; exact Nat.le_trans (cb 0) (by decide))) ?_
      refine SCond.mk (fun h => by cases h) (fun _ => ?_)
      refine SWrap.i64z ((0 + 1 : Nat) : Int) (by omega) (by omega) ?_
      exact ⟨0 + 1, [0, 1], by decide, by decide, ⟨rfl, by simp, rfl, rfl, rfl, ⟨rfl, rfl, rfl, trivial⟩, ⟨rfl, rfl, trivial⟩⟩⟩
    · refine SCmp.yes (rfl) ?_
      refine SIdx.mk 1 _ rfl rfl ?_
      refine SCall.pure (none1_ok (m 1) (lst (cntB 1 n) B) (fun i hi => by rw [lst_length] at hi; rw [lst_getD hi]; exact check1_ok _ ((h.bB i hi).mono (by omega))) (by rw [lst_length]; exact Nat.le_trans (cb 1) (by decide))) ?_
      refine SCond.mk (fun h => by cases h) (fun _ => ?_)
      refine SWrap.i64z ((1 + 1 : Nat) : Int) (by omega) (by omega) ?_
      exact ⟨1 + 1, [0, 1], by decide, by decide, ⟨rfl, by simp, rfl, rfl, rfl, ⟨rfl, rfl, rfl, trivial⟩, ⟨rfl, rfl, trivial⟩⟩⟩
    · refine SCmp.yes (rfl) ?_
      refine SIdx.mk 2 _ rfl rfl ?_
      refine SCall.pure (none1_ok (m 2) (lst (cntH 1 n r) G) (fun i hi => by rw [lst_length] at hi; rw [lst_getD hi]; exact check1_ok _ ((h.bG i hi).mono (by omega))) (by rw [lst_length]; exact Nat.le_trans (cb 2) (by decide))) ?_
      refine SCond.mk (fun h => by cases h) (fun _ => ?_)
      refine SWrap.i64z ((2 + 1 : Nat) : Int) (by omega) (by omega) ?_
      exact ⟨2 + 1, [0, 1], by decide, by decide, ⟨rfl, by simp, rfl, rfl, rfl, ⟨rfl, rfl, rfl, trivial⟩, ⟨rfl, rfl, trivial⟩⟩⟩
    · refine SCmp.yes (rfl) ?_
      refine SIdx.mk 3 _ rfl rfl ?_
      refine SCall.pure (none1_ok (m 3) (lst (cntH 1 n r) H) (fun i hi => by rw [lst_length] at hi; rw [lst_getD hi]; exact check1_ok _ ((h.bH i hi).mono (by omega))) (by rw [lst_length]; exact Nat.le_trans (cb 3) (by decide))) ?_
      refine SCond.mk (fun h => by cases h) (fun _ => ?_)
      refine SWrap.i64z ((3 + 1 : Nat) : Int) (by omega) (by omega) ?_
      exact ⟨3 + 1, [0, 1], by decide, by decide, ⟨rfl, by simp, rfl, rfl, rfl, ⟨rfl, rfl, rfl, trivial⟩, ⟨rfl, rfl, trivial⟩⟩⟩
    · refine SCmp.no (rfl) ?_
      refine SZ.mk ((cntA 1 n : Nat) : Int) (by simp [lst]) ?_
      refine SLoop.mk Nat (fun i => ([(1, .bptr 0 0), (68, .p (ratsM (m 0) (lst (cntA 1 n) A))), (69, .p (.int .i64 ((cntA 1 n : Nat) : Int))), (70, .p (.int .i64 i))], [.box 59 [.p (.int .i64 ((1 : Nat) : Int)), .p (.int .i64 (n : Int)), .p (.int .i64 (r : Int)), .p (ratsM (m 0) (lst (cntA 1 n) A)), .p (ratsM (m 1) (lst (cntB 1 n) B)), .p (ratsM (m 2) (lst (cntH 1 n r) G)), .p (ratsM (m 3) (lst (cntH 1 n r) H))], .box 189 [.p (ratsM (m 0) (lst (cntA 1 n) A)), .p (ratsM (m 1) (lst (cntB 1 n) B)), .p (ratsM (m 2) (lst (cntH 1 n r) G)), .p (ratsM (m 3) (lst (cntH 1 n r) H))]]))
        (fun i => i ≤ cntA 1 n) (fun i => cntA 1 n - i) 0 [0, 1] (Nat.zero_le _) ⟨rfl, by simp, rfl, rfl, rfl, ⟨rfl, rfl, rfl, rfl, trivial⟩, ⟨rfl, rfl, trivial⟩⟩ ?_
      intro i hi
      have hi : i ≤ cntA 1 n := hi
      have cA := cb 0
      by_cases hia : i < cntA 1 n
      · refine SCmp.yes (decide_eq_true (by omega)) ?_
        refine SIdx.rf i rfl hia ?_
        have hz := (h.bA i hia).mono (show b ≤ c by omega)
        have hc2 := none2_ok (m 1) true (A i) (lst (cntB 1 n) B) (fun j hj => by
          rw [lst_length] at hj; rw [lst_getD hj]
          have := check2_ok true (A i) (B j) hz (h.bB j hj) (by omega)
          rw [decide_eq_false (h.ne i j hia hj)] at this
          exact this) (by rw [lst_length]; exact Nat.le_trans (cb 1) (by decide))
        refine SCall.pure (pvs := [ratsM (m 1) (lst (cntB 1 n) B), .fn 189 [.pel true (ratP (A i))]]) hc2 ?_
        refine SCond.mk (fun h => by cases h) (fun _ => ?_)
        refine SWrap.i64z ((i + 1 : Nat) : Int) (by omega) (by omega) ?_
        exact ⟨i + 1, [0, 1], hia, by show cntA 1 n - (i + 1) < cntA 1 n - i; omega, ⟨rfl, by simp, rfl, rfl, rfl, ⟨rfl, rfl, rfl, rfl, trivial⟩, ⟨rfl, rfl, trivial⟩⟩⟩
      · refine SCmp.no (decide_eq_false (by omega)) ?_
        exact SRet.pure (.p _ (.int _ _))
theorem gcheck2_ok (m : Nat → Bool) (n r : Nat) (A B G H : Nat → Rat) {b c : Nat} (h : Wf ⟨2, n, r, A, B, G, H⟩ b c) : CallP Try.prog 150 [genP m ⟨2, n, r, A, B, G, H⟩] (.p (.int .i64 0)) [] := by
  have n6 : n ≤ 6 := h.n6
  have n1 : 1 ≤ n := h.n1
  have r2 : r ≤ 2 := h.r2
  have hnr : n * r ≤ 12 := Nat.mul_le_mul n6 r2
  have hc4 := h.c4
  have hbc := h.bc
  have cc := cnt_le (k := 2) (r := r) n1 (show n ≤ 8 by omega) (show r ≤ 3 by omega)
  have cb : ∀ i : Nat, (if i = 0 then cntA 2 n else if i = 1 then cntB 2 n else cntH 2 n r) ≤ 24 := fun i => by split <;> (try split) <;> omega
  show CallP Try.prog 150 [.agg [.int .i64 ((2 : Nat) : Int), .int .i64 (n : Int), .int .i64 (r : Int), ratsM (m 0) (lst (cntA 2 n) A), ratsM (m 1) (lst (cntB 2 n) B), ratsM (m 2) (lst (cntH 2 n r) G), ratsM (m 3) (lst (cntH 2 n r) H)]] (.p (.int .i64 0)) []
  refine callG_of_vc (wr := wr0) Γok mixed Try.func150 (by kernel_rfl) rfl (by kernel_rfl) (le_of_ble rfl) (by simp) ?_
  refine SCmp.no (decide_eq_false (by omega)) ?_
  refine SCmp.no (decide_eq_false (by omega)) ?_
  refine SCall.pure (sized_ok m ⟨2, n, r, A, B, G, H⟩ h) ?_
  refine SCmp.no (rfl) ?_
  refine SCall.lent [genP m ⟨2, n, r, A, B, G, H⟩] _ rfl (genrows_ok m ⟨2, n, r, A, B, G, H⟩) ?_
  refine SCall.pure (counts_ok) ?_
  refine SLoop.mk Nat (fun i => ([(1, .bptr 0 0), (3, .bptr 1 0), (4, .p (.mp false cntM)), (28, .p (.agg [ratsM (m 0) (lst (cntA 2 n) A), ratsM (m 1) (lst (cntB 2 n) B), ratsM (m 2) (lst (cntH 2 n r) G), ratsM (m 3) (lst (cntH 2 n r) H)])), (29, .p (.int .i64 i))], [.box 59 [.p (.int .i64 ((2 : Nat) : Int)), .p (.int .i64 (n : Int)), .p (.int .i64 (r : Int)), .p (ratsM (m 0) (lst (cntA 2 n) A)), .p (ratsM (m 1) (lst (cntB 2 n) B)), .p (ratsM (m 2) (lst (cntH 2 n r) G)), .p (ratsM (m 3) (lst (cntH 2 n r) H))], .box 189 [.p (ratsM (m 0) (lst (cntA 2 n) A)), .p (ratsM (m 1) (lst (cntB 2 n) B)), .p (ratsM (m 2) (lst (cntH 2 n r) G)), .p (ratsM (m 3) (lst (cntH 2 n r) H))]]))
    (fun i => i ≤ 4) (fun i => 4 - i) 0 [0, 1] (Nat.zero_le _) ⟨rfl, by simp, rfl, rfl, rfl, ⟨rfl, rfl, rfl, rfl, rfl, trivial⟩, ⟨rfl, rfl, trivial⟩⟩ ?_
  intro i hi
  have hi : i ≤ 4 := hi
  rcases (show i = 0 ∨ i = 1 ∨ i = 2 ∨ i = 3 ∨ i = 4 by omega) with rfl | rfl | rfl | rfl | rfl
  · refine SCmp.yes (rfl) ?_
    refine SIdx.mk 0 _ rfl rfl ?_
    refine SKeys.all rfl <| SGet.at 1 _ rfl rfl rfl ?_
    refine SZ.mk ((cntA 2 n : Nat) : Int) (by simp [lst]) ?_
    refine SPos.mk 0 rfl (by decide) ?_
    refine SWrap.i64z ((2 * n : Nat) : Int) (by omega) (by omega) ?_
    refine SPos.mk 1 rfl (by decide) ?_
    refine SWrap.i64z ((0 * n : Nat) : Int) (by omega) (by omega) ?_
    refine SWrap.i64z ((0 : Nat) : Int) (by simp) (by omega) ?_
    refine SWrap.i64z ((2 * n + 0 : Nat) : Int) (by omega) (by omega) ?_
    refine SPos.mk 2 rfl (by decide) ?_
    refine SWrap.i64z ((cntA 2 n : Nat) : Int) (by simp [cntA, cntB, cntH] <;> omega) (by have := cnt_le (k := 2) (r := r) n1 (show n ≤ 8 by omega) (show r ≤ 3 by omega); omega) ?_
    refine SCmp.no (neF rfl) ?_
    refine SWrap.i64z ((0 + 1 : Nat) : Int) (by omega) (by omega) ?_
    exact ⟨0 + 1, [0, 1], by decide, by decide, ⟨rfl, by simp, rfl, rfl, rfl, ⟨rfl, rfl, rfl, rfl, rfl, trivial⟩, ⟨rfl, rfl, trivial⟩⟩⟩
  · refine SCmp.yes (rfl) ?_
    refine SIdx.mk 1 _ rfl rfl ?_
    refine SKeys.all rfl <| SGet.none rfl ?_
    refine SZ.mk ((cntB 2 n : Nat) : Int) (by simp [lst]) ?_
    refine SPos.mk 0 rfl (by decide) ?_
    refine SWrap.i64z ((0 * n : Nat) : Int) (by omega) (by omega) ?_
    refine SPos.mk 1 rfl (by decide) ?_
    refine SWrap.i64z ((0 * n : Nat) : Int) (by omega) (by omega) ?_
    refine SWrap.i64z ((0 : Nat) : Int) (by simp) (by omega) ?_
    refine SWrap.i64z ((0 * n + 0 : Nat) : Int) (by omega) (by omega) ?_
    refine SPos.mk 2 rfl (by decide) ?_
    refine SWrap.i64z ((cntB 2 n : Nat) : Int) (by simp [cntA, cntB, cntH] <;> omega) (by have := cnt_le (k := 2) (r := r) n1 (show n ≤ 8 by omega) (show r ≤ 3 by omega); omega) ?_
    refine SCmp.no (neF rfl) ?_
    refine SWrap.i64z ((1 + 1 : Nat) : Int) (by omega) (by omega) ?_
    exact ⟨1 + 1, [0, 1], by decide, by decide, ⟨rfl, by simp, rfl, rfl, rfl, ⟨rfl, rfl, rfl, rfl, rfl, trivial⟩, ⟨rfl, rfl, trivial⟩⟩⟩
  · refine SCmp.yes (rfl) ?_
    refine SIdx.mk 2 _ rfl rfl ?_
    refine SKeys.all rfl <| SGet.none rfl ?_
    refine SZ.mk ((cntH 2 n r : Nat) : Int) (by simp [lst]) ?_
    refine SPos.mk 0 rfl (by decide) ?_
    refine SWrap.i64z ((0 * n : Nat) : Int) (by omega) (by omega) ?_
    refine SPos.mk 1 rfl (by decide) ?_
    refine SWrap.i64z ((0 * n : Nat) : Int) (by omega) (by omega) ?_
    refine SWrap.i64z ((0 : Nat) : Int) (by simp) (by omega) ?_
    refine SWrap.i64z ((0 * n + 0 : Nat) : Int) (by omega) (by omega) ?_
    refine SPos.mk 2 rfl (by decide) ?_
    refine SWrap.i64z ((cntH 2 n r : Nat) : Int) (by simp [cntA, cntB, cntH] <;> omega) (by have := cnt_le (k := 2) (r := r) n1 (show n ≤ 8 by omega) (show r ≤ 3 by omega); omega) ?_
    refine SCmp.no (neF rfl) ?_
    refine SWrap.i64z ((2 + 1 : Nat) : Int) (by omega) (by omega) ?_
    exact ⟨2 + 1, [0, 1], by decide, by decide, ⟨rfl, by simp, rfl, rfl, rfl, ⟨rfl, rfl, rfl, rfl, rfl, trivial⟩, ⟨rfl, rfl, trivial⟩⟩⟩
  · refine SCmp.yes (rfl) ?_
    refine SIdx.mk 3 _ rfl rfl ?_
    refine SKeys.all rfl <| SGet.none rfl ?_
    refine SZ.mk ((cntH 2 n r : Nat) : Int) (by simp [lst]) ?_
    refine SPos.mk 0 rfl (by decide) ?_
    refine SWrap.i64z ((0 * n : Nat) : Int) (by omega) (by omega) ?_
    refine SPos.mk 1 rfl (by decide) ?_
    refine SWrap.i64z ((0 * n : Nat) : Int) (by omega) (by omega) ?_
    refine SWrap.i64z ((0 : Nat) : Int) (by simp) (by omega) ?_
    refine SWrap.i64z ((0 * n + 0 : Nat) : Int) (by omega) (by omega) ?_
    refine SPos.mk 2 rfl (by decide) ?_
    refine SWrap.i64z ((cntH 2 n r : Nat) : Int) (by simp [cntA, cntB, cntH] <;> omega) (by have := cnt_le (k := 2) (r := r) n1 (show n ≤ 8 by omega) (show r ≤ 3 by omega); omega) ?_
    refine SCmp.no (neF rfl) ?_
    refine SWrap.i64z ((3 + 1 : Nat) : Int) (by omega) (by omega) ?_
    exact ⟨3 + 1, [0, 1], by decide, by decide, ⟨rfl, by simp, rfl, rfl, rfl, ⟨rfl, rfl, rfl, rfl, rfl, trivial⟩, ⟨rfl, rfl, trivial⟩⟩⟩
  · refine SCmp.no (rfl) ?_
    refine SLoop.mk Nat (fun i => ([(1, .bptr 0 0), (60, .p (.agg [ratsM (m 0) (lst (cntA 2 n) A), ratsM (m 1) (lst (cntB 2 n) B), ratsM (m 2) (lst (cntH 2 n r) G), ratsM (m 3) (lst (cntH 2 n r) H)])), (61, .p (.int .i64 i))], [.box 59 [.p (.int .i64 ((2 : Nat) : Int)), .p (.int .i64 (n : Int)), .p (.int .i64 (r : Int)), .p (ratsM (m 0) (lst (cntA 2 n) A)), .p (ratsM (m 1) (lst (cntB 2 n) B)), .p (ratsM (m 2) (lst (cntH 2 n r) G)), .p (ratsM (m 3) (lst (cntH 2 n r) H))], .box 189 [.p (ratsM (m 0) (lst (cntA 2 n) A)), .p (ratsM (m 1) (lst (cntB 2 n) B)), .p (ratsM (m 2) (lst (cntH 2 n r) G)), .p (ratsM (m 3) (lst (cntH 2 n r) H))]]))
      (fun i => i ≤ 4) (fun i => 4 - i) 0 [0, 1] (Nat.zero_le _) ⟨rfl, by simp, rfl, rfl, rfl, ⟨rfl, rfl, rfl, trivial⟩, ⟨rfl, rfl, trivial⟩⟩ ?_
    intro i hi
    have hi : i ≤ 4 := hi
    rcases (show i = 0 ∨ i = 1 ∨ i = 2 ∨ i = 3 ∨ i = 4 by omega) with rfl | rfl | rfl | rfl | rfl
    · refine SCmp.yes (rfl) ?_
      refine SIdx.mk 0 _ rfl rfl ?_
      refine SCall.pure (none1_ok (m 0) (lst (cntA 2 n) A) (fun i hi => by rw [lst_length] at hi; rw [lst_getD hi]; exact check1_ok _ ((h.bA i hi).mono (by omega))) (by rw [lst_length]; exact Nat.le_trans (cb 0) (by decide))) ?_
      refine SCond.mk (fun h => by cases h) (fun _ => ?_)
      refine SWrap.i64z ((0 + 1 : Nat) : Int) (by omega) (by omega) ?_
      exact ⟨0 + 1, [0, 1], by decide, by decide, ⟨rfl, by simp, rfl, rfl, rfl, ⟨rfl, rfl, rfl, trivial⟩, ⟨rfl, rfl, trivial⟩⟩⟩
    · refine SCmp.yes (rfl) ?_
      refine SIdx.mk 1 _ rfl rfl ?_
      refine SCall.pure (none1_ok (m 1) (lst (cntB 2 n) B) (fun i hi => by rw [lst_length] at hi; rw [lst_getD hi]; exact check1_ok _ ((h.bB i hi).mono (by omega))) (by rw [lst_length]; exact Nat.le_trans (cb 1) (by decide))) ?_
      refine SCond.mk (fun h => by cases h) (fun _ => ?_)
      refine SWrap.i64z ((1 + 1 : Nat) : Int) (by omega) (by omega) ?_
      exact ⟨1 + 1, [0, 1], by decide, by decide, ⟨rfl, by simp, rfl, rfl, rfl, ⟨rfl, rfl, rfl, trivial⟩, ⟨rfl, rfl, trivial⟩⟩⟩
    · refine SCmp.yes (rfl) ?_
      refine SIdx.mk 2 _ rfl rfl ?_
      refine SCall.pure (none1_ok (m 2) (lst (cntH 2 n r) G) (fun i hi => by rw [lst_length] at hi; rw [lst_getD hi]; exact check1_ok _ ((h.bG i hi).mono (by omega))) (by rw [lst_length]; exact Nat.le_trans (cb 2) (by decide))) ?_
      refine SCond.mk (fun h => by cases h) (fun _ => ?_)
      refine SWrap.i64z ((2 + 1 : Nat) : Int) (by omega) (by omega) ?_
      exact ⟨2 + 1, [0, 1], by decide, by decide, ⟨rfl, by simp, rfl, rfl, rfl, ⟨rfl, rfl, rfl, trivial⟩, ⟨rfl, rfl, trivial⟩⟩⟩
    · refine SCmp.yes (rfl) ?_
      refine SIdx.mk 3 _ rfl rfl ?_
      refine SCall.pure (none1_ok (m 3) (lst (cntH 2 n r) H) (fun i hi => by rw [lst_length] at hi; rw [lst_getD hi]; exact check1_ok _ ((h.bH i hi).mono (by omega))) (by rw [lst_length]; exact Nat.le_trans (cb 3) (by decide))) ?_
      refine SCond.mk (fun h => by cases h) (fun _ => ?_)
      refine SWrap.i64z ((3 + 1 : Nat) : Int) (by omega) (by omega) ?_
      exact ⟨3 + 1, [0, 1], by decide, by decide, ⟨rfl, by simp, rfl, rfl, rfl, ⟨rfl, rfl, rfl, trivial⟩, ⟨rfl, rfl, trivial⟩⟩⟩
    · refine SCmp.no (rfl) ?_
      refine SZ.mk ((cntA 2 n : Nat) : Int) (by simp [lst]) ?_
      refine SLoop.mk Nat (fun i => ([(1, .bptr 0 0), (68, .p (ratsM (m 0) (lst (cntA 2 n) A))), (69, .p (.int .i64 ((cntA 2 n : Nat) : Int))), (70, .p (.int .i64 i))], [.box 59 [.p (.int .i64 ((2 : Nat) : Int)), .p (.int .i64 (n : Int)), .p (.int .i64 (r : Int)), .p (ratsM (m 0) (lst (cntA 2 n) A)), .p (ratsM (m 1) (lst (cntB 2 n) B)), .p (ratsM (m 2) (lst (cntH 2 n r) G)), .p (ratsM (m 3) (lst (cntH 2 n r) H))], .box 189 [.p (ratsM (m 0) (lst (cntA 2 n) A)), .p (ratsM (m 1) (lst (cntB 2 n) B)), .p (ratsM (m 2) (lst (cntH 2 n r) G)), .p (ratsM (m 3) (lst (cntH 2 n r) H))]]))
        (fun i => i ≤ cntA 2 n) (fun i => cntA 2 n - i) 0 [0, 1] (Nat.zero_le _) ⟨rfl, by simp, rfl, rfl, rfl, ⟨rfl, rfl, rfl, rfl, trivial⟩, ⟨rfl, rfl, trivial⟩⟩ ?_
      intro i hi
      have hi : i ≤ cntA 2 n := hi
      have cA := cb 0
      by_cases hia : i < cntA 2 n
      · refine SCmp.yes (decide_eq_true (by omega)) ?_
        refine SIdx.rf i rfl hia ?_
        have hz := (h.bA i hia).mono (show b ≤ c by omega)
        have hc2 := none2_ok (m 1) true (A i) (lst (cntB 2 n) B) (fun j hj => by
          rw [lst_length] at hj; rw [lst_getD hj]
          have := check2_ok true (A i) (B j) hz (h.bB j hj) (by omega)
          rw [decide_eq_false (h.ne i j hia hj)] at this
          exact this) (by rw [lst_length]; exact Nat.le_trans (cb 1) (by decide))
        refine SCall.pure (pvs := [ratsM (m 1) (lst (cntB 2 n) B), .fn 189 [.pel true (ratP (A i))]]) hc2 ?_
        refine SCond.mk (fun h => by cases h) (fun _ => ?_)
        refine SWrap.i64z ((i + 1 : Nat) : Int) (by omega) (by omega) ?_
        exact ⟨i + 1, [0, 1], hia, by show cntA 2 n - (i + 1) < cntA 2 n - i; omega, ⟨rfl, by simp, rfl, rfl, rfl, ⟨rfl, rfl, rfl, rfl, trivial⟩, ⟨rfl, rfl, trivial⟩⟩⟩
      · refine SCmp.no (decide_eq_false (by omega)) ?_
        exact SRet.pure (.p _ (.int _ _))
theorem gcheck3_ok (m : Nat → Bool) (n r : Nat) (A B G H : Nat → Rat) {b c : Nat} (h : Wf ⟨3, n, r, A, B, G, H⟩ b c) : CallP Try.prog 150 [genP m ⟨3, n, r, A, B, G, H⟩] (.p (.int .i64 0)) [] := by
  have n6 : n ≤ 6 := h.n6
  have n1 : 1 ≤ n := h.n1
  have r2 : r ≤ 2 := h.r2
  have hnr : n * r ≤ 12 := Nat.mul_le_mul n6 r2
  have hc4 := h.c4
  have hbc := h.bc
  have cc := cnt_le (k := 3) (r := r) n1 (show n ≤ 8 by omega) (show r ≤ 3 by omega)
  have cb : ∀ i : Nat, (if i = 0 then cntA 3 n else if i = 1 then cntB 3 n else cntH 3 n r) ≤ 24 := fun i => by split <;> (try split) <;> omega
  show CallP Try.prog 150 [.agg [.int .i64 ((3 : Nat) : Int), .int .i64 (n : Int), .int .i64 (r : Int), ratsM (m 0) (lst (cntA 3 n) A), ratsM (m 1) (lst (cntB 3 n) B), ratsM (m 2) (lst (cntH 3 n r) G), ratsM (m 3) (lst (cntH 3 n r) H)]] (.p (.int .i64 0)) []
  refine callG_of_vc (wr := wr0) Γok mixed Try.func150 (by kernel_rfl) rfl (by kernel_rfl) (le_of_ble rfl) (by simp) ?_
  refine SCmp.no (decide_eq_false (by omega)) ?_
  refine SCmp.no (decide_eq_false (by omega)) ?_
  refine SCall.pure (sized_ok m ⟨3, n, r, A, B, G, H⟩ h) ?_
  refine SCmp.no (rfl) ?_
  refine SCall.lent [genP m ⟨3, n, r, A, B, G, H⟩] _ rfl (genrows_ok m ⟨3, n, r, A, B, G, H⟩) ?_
  refine SCall.pure (counts_ok) ?_
  refine SLoop.mk Nat (fun i => ([(1, .bptr 0 0), (3, .bptr 1 0), (4, .p (.mp false cntM)), (28, .p (.agg [ratsM (m 0) (lst (cntA 3 n) A), ratsM (m 1) (lst (cntB 3 n) B), ratsM (m 2) (lst (cntH 3 n r) G), ratsM (m 3) (lst (cntH 3 n r) H)])), (29, .p (.int .i64 i))], [.box 59 [.p (.int .i64 ((3 : Nat) : Int)), .p (.int .i64 (n : Int)), .p (.int .i64 (r : Int)), .p (ratsM (m 0) (lst (cntA 3 n) A)), .p (ratsM (m 1) (lst (cntB 3 n) B)), .p (ratsM (m 2) (lst (cntH 3 n r) G)), .p (ratsM (m 3) (lst (cntH 3 n r) H))], .box 189 [.p (ratsM (m 0) (lst (cntA 3 n) A)), .p (ratsM (m 1) (lst (cntB 3 n) B)), .p (ratsM (m 2) (lst (cntH 3 n r) G)), .p (ratsM (m 3) (lst (cntH 3 n r) H))]]))
    (fun i => i ≤ 4) (fun i => 4 - i) 0 [0, 1] (Nat.zero_le _) ⟨rfl, by simp, rfl, rfl, rfl, ⟨rfl, rfl, rfl, rfl, rfl, trivial⟩, ⟨rfl, rfl, trivial⟩⟩ ?_
  intro i hi
  have hi : i ≤ 4 := hi
  rcases (show i = 0 ∨ i = 1 ∨ i = 2 ∨ i = 3 ∨ i = 4 by omega) with rfl | rfl | rfl | rfl | rfl
  · refine SCmp.yes (rfl) ?_
    refine SIdx.mk 0 _ rfl rfl ?_
    refine SKeys.all rfl <| SGet.at 2 _ rfl rfl rfl ?_
    refine SZ.mk ((cntA 3 n : Nat) : Int) (by simp [lst]) ?_
    refine SPos.mk 0 rfl (by decide) ?_
    refine SWrap.i64z ((1 * n : Nat) : Int) (by omega) (by omega) ?_
    refine SPos.mk 1 rfl (by decide) ?_
    refine SWrap.i64z ((0 * n : Nat) : Int) (by omega) (by omega) ?_
    refine SWrap.i64z ((0 : Nat) : Int) (by simp) (by omega) ?_
    refine SWrap.i64z ((1 * n + 0 : Nat) : Int) (by omega) (by omega) ?_
    refine SPos.mk 2 rfl (by decide) ?_
    refine SWrap.i64z ((cntA 3 n : Nat) : Int) (by simp [cntA, cntB, cntH] <;> omega) (by have := cnt_le (k := 3) (r := r) n1 (show n ≤ 8 by omega) (show r ≤ 3 by omega); omega) ?_
    refine SCmp.no (neF rfl) ?_
    refine SWrap.i64z ((0 + 1 : Nat) : Int) (by omega) (by omega) ?_
    exact ⟨0 + 1, [0, 1], by decide, by decide, ⟨rfl, by simp, rfl, rfl, rfl, ⟨rfl, rfl, rfl, rfl, rfl, trivial⟩, ⟨rfl, rfl, trivial⟩⟩⟩
  · refine SCmp.yes (rfl) ?_
    refine SIdx.mk 1 _ rfl rfl ?_
    refine SKeys.all rfl <| SGet.none rfl ?_
    refine SZ.mk ((cntB 3 n : Nat) : Int) (by simp [lst]) ?_
    refine SPos.mk 0 rfl (by decide) ?_
    refine SWrap.i64z ((0 * n : Nat) : Int) (by omega) (by omega) ?_
    refine SPos.mk 1 rfl (by decide) ?_
    refine SWrap.i64z ((0 * n : Nat) : Int) (by omega) (by omega) ?_
    refine SWrap.i64z ((0 : Nat) : Int) (by simp) (by omega) ?_
    refine SWrap.i64z ((0 * n + 0 : Nat) : Int) (by omega) (by omega) ?_
    refine SPos.mk 2 rfl (by decide) ?_
    refine SWrap.i64z ((cntB 3 n : Nat) : Int) (by simp [cntA, cntB, cntH] <;> omega) (by have := cnt_le (k := 3) (r := r) n1 (show n ≤ 8 by omega) (show r ≤ 3 by omega); omega) ?_
    refine SCmp.no (neF rfl) ?_
    refine SWrap.i64z ((1 + 1 : Nat) : Int) (by omega) (by omega) ?_
    exact ⟨1 + 1, [0, 1], by decide, by decide, ⟨rfl, by simp, rfl, rfl, rfl, ⟨rfl, rfl, rfl, rfl, rfl, trivial⟩, ⟨rfl, rfl, trivial⟩⟩⟩
  · refine SCmp.yes (rfl) ?_
    refine SIdx.mk 2 _ rfl rfl ?_
    refine SKeys.all rfl <| SGet.none rfl ?_
    refine SZ.mk ((cntH 3 n r : Nat) : Int) (by simp [lst]) ?_
    refine SPos.mk 0 rfl (by decide) ?_
    refine SWrap.i64z ((0 * n : Nat) : Int) (by omega) (by omega) ?_
    refine SPos.mk 1 rfl (by decide) ?_
    refine SWrap.i64z ((0 * n : Nat) : Int) (by omega) (by omega) ?_
    refine SWrap.i64z ((0 : Nat) : Int) (by simp) (by omega) ?_
    refine SWrap.i64z ((0 * n + 0 : Nat) : Int) (by omega) (by omega) ?_
    refine SPos.mk 2 rfl (by decide) ?_
    refine SWrap.i64z ((cntH 3 n r : Nat) : Int) (by simp [cntA, cntB, cntH] <;> omega) (by have := cnt_le (k := 3) (r := r) n1 (show n ≤ 8 by omega) (show r ≤ 3 by omega); omega) ?_
    refine SCmp.no (neF rfl) ?_
    refine SWrap.i64z ((2 + 1 : Nat) : Int) (by omega) (by omega) ?_
    exact ⟨2 + 1, [0, 1], by decide, by decide, ⟨rfl, by simp, rfl, rfl, rfl, ⟨rfl, rfl, rfl, rfl, rfl, trivial⟩, ⟨rfl, rfl, trivial⟩⟩⟩
  · refine SCmp.yes (rfl) ?_
    refine SIdx.mk 3 _ rfl rfl ?_
    refine SKeys.all rfl <| SGet.none rfl ?_
    refine SZ.mk ((cntH 3 n r : Nat) : Int) (by simp [lst]) ?_
    refine SPos.mk 0 rfl (by decide) ?_
    refine SWrap.i64z ((0 * n : Nat) : Int) (by omega) (by omega) ?_
    refine SPos.mk 1 rfl (by decide) ?_
    refine SWrap.i64z ((0 * n : Nat) : Int) (by omega) (by omega) ?_
    refine SWrap.i64z ((0 : Nat) : Int) (by simp) (by omega) ?_
    refine SWrap.i64z ((0 * n + 0 : Nat) : Int) (by omega) (by omega) ?_
    refine SPos.mk 2 rfl (by decide) ?_
    refine SWrap.i64z ((cntH 3 n r : Nat) : Int) (by simp [cntA, cntB, cntH] <;> omega) (by have := cnt_le (k := 3) (r := r) n1 (show n ≤ 8 by omega) (show r ≤ 3 by omega); omega) ?_
    refine SCmp.no (neF rfl) ?_
    refine SWrap.i64z ((3 + 1 : Nat) : Int) (by omega) (by omega) ?_
    exact ⟨3 + 1, [0, 1], by decide, by decide, ⟨rfl, by simp, rfl, rfl, rfl, ⟨rfl, rfl, rfl, rfl, rfl, trivial⟩, ⟨rfl, rfl, trivial⟩⟩⟩
  · refine SCmp.no (rfl) ?_
    refine SLoop.mk Nat (fun i => ([(1, .bptr 0 0), (60, .p (.agg [ratsM (m 0) (lst (cntA 3 n) A), ratsM (m 1) (lst (cntB 3 n) B), ratsM (m 2) (lst (cntH 3 n r) G), ratsM (m 3) (lst (cntH 3 n r) H)])), (61, .p (.int .i64 i))], [.box 59 [.p (.int .i64 ((3 : Nat) : Int)), .p (.int .i64 (n : Int)), .p (.int .i64 (r : Int)), .p (ratsM (m 0) (lst (cntA 3 n) A)), .p (ratsM (m 1) (lst (cntB 3 n) B)), .p (ratsM (m 2) (lst (cntH 3 n r) G)), .p (ratsM (m 3) (lst (cntH 3 n r) H))], .box 189 [.p (ratsM (m 0) (lst (cntA 3 n) A)), .p (ratsM (m 1) (lst (cntB 3 n) B)), .p (ratsM (m 2) (lst (cntH 3 n r) G)), .p (ratsM (m 3) (lst (cntH 3 n r) H))]]))
      (fun i => i ≤ 4) (fun i => 4 - i) 0 [0, 1] (Nat.zero_le _) ⟨rfl, by simp, rfl, rfl, rfl, ⟨rfl, rfl, rfl, trivial⟩, ⟨rfl, rfl, trivial⟩⟩ ?_
    intro i hi
    have hi : i ≤ 4 := hi
    rcases (show i = 0 ∨ i = 1 ∨ i = 2 ∨ i = 3 ∨ i = 4 by omega) with rfl | rfl | rfl | rfl | rfl
    · refine SCmp.yes (rfl) ?_
      refine SIdx.mk 0 _ rfl rfl ?_
      refine SCall.pure (none1_ok (m 0) (lst (cntA 3 n) A) (fun i hi => by rw [lst_length] at hi; rw [lst_getD hi]; exact check1_ok _ ((h.bA i hi).mono (by omega))) (by rw [lst_length]; exact Nat.le_trans (cb 0) (by decide))) ?_
      refine SCond.mk (fun h => by cases h) (fun _ => ?_)
      refine SWrap.i64z ((0 + 1 : Nat) : Int) (by omega) (by omega) ?_
      exact ⟨0 + 1, [0, 1], by decide, by decide, ⟨rfl, by simp, rfl, rfl, rfl, ⟨rfl, rfl, rfl, trivial⟩, ⟨rfl, rfl, trivial⟩⟩⟩
    · refine SCmp.yes (rfl) ?_
      refine SIdx.mk 1 _ rfl rfl ?_
      refine SCall.pure (none1_ok (m 1) (lst (cntB 3 n) B) (fun i hi => by rw [lst_length] at hi; rw [lst_getD hi]; exact check1_ok _ ((h.bB i hi).mono (by omega))) (by rw [lst_length]; exact Nat.le_trans (cb 1) (by decide))) ?_
      refine SCond.mk (fun h => by cases h) (fun _ => ?_)
      refine SWrap.i64z ((1 + 1 : Nat) : Int) (by omega) (by omega) ?_
      exact ⟨1 + 1, [0, 1], by decide, by decide, ⟨rfl, by simp, rfl, rfl, rfl, ⟨rfl, rfl, rfl, trivial⟩, ⟨rfl, rfl, trivial⟩⟩⟩
    · refine SCmp.yes (rfl) ?_
      refine SIdx.mk 2 _ rfl rfl ?_
      refine SCall.pure (none1_ok (m 2) (lst (cntH 3 n r) G) (fun i hi => by rw [lst_length] at hi; rw [lst_getD hi]; exact check1_ok _ ((h.bG i hi).mono (by omega))) (by rw [lst_length]; exact Nat.le_trans (cb 2) (by decide))) ?_
      refine SCond.mk (fun h => by cases h) (fun _ => ?_)
      refine SWrap.i64z ((2 + 1 : Nat) : Int) (by omega) (by omega) ?_
      exact ⟨2 + 1, [0, 1], by decide, by decide, ⟨rfl, by simp, rfl, rfl, rfl, ⟨rfl, rfl, rfl, trivial⟩, ⟨rfl, rfl, trivial⟩⟩⟩
    · refine SCmp.yes (rfl) ?_
      refine SIdx.mk 3 _ rfl rfl ?_
      refine SCall.pure (none1_ok (m 3) (lst (cntH 3 n r) H) (fun i hi => by rw [lst_length] at hi; rw [lst_getD hi]; exact check1_ok _ ((h.bH i hi).mono (by omega))) (by rw [lst_length]; exact Nat.le_trans (cb 3) (by decide))) ?_
      refine SCond.mk (fun h => by cases h) (fun _ => ?_)
      refine SWrap.i64z ((3 + 1 : Nat) : Int) (by omega) (by omega) ?_
      exact ⟨3 + 1, [0, 1], by decide, by decide, ⟨rfl, by simp, rfl, rfl, rfl, ⟨rfl, rfl, rfl, trivial⟩, ⟨rfl, rfl, trivial⟩⟩⟩
    · refine SCmp.no (rfl) ?_
      refine SZ.mk ((cntA 3 n : Nat) : Int) (by simp [lst]) ?_
      refine SLoop.mk Nat (fun i => ([(1, .bptr 0 0), (68, .p (ratsM (m 0) (lst (cntA 3 n) A))), (69, .p (.int .i64 ((cntA 3 n : Nat) : Int))), (70, .p (.int .i64 i))], [.box 59 [.p (.int .i64 ((3 : Nat) : Int)), .p (.int .i64 (n : Int)), .p (.int .i64 (r : Int)), .p (ratsM (m 0) (lst (cntA 3 n) A)), .p (ratsM (m 1) (lst (cntB 3 n) B)), .p (ratsM (m 2) (lst (cntH 3 n r) G)), .p (ratsM (m 3) (lst (cntH 3 n r) H))], .box 189 [.p (ratsM (m 0) (lst (cntA 3 n) A)), .p (ratsM (m 1) (lst (cntB 3 n) B)), .p (ratsM (m 2) (lst (cntH 3 n r) G)), .p (ratsM (m 3) (lst (cntH 3 n r) H))]]))
        (fun i => i ≤ cntA 3 n) (fun i => cntA 3 n - i) 0 [0, 1] (Nat.zero_le _) ⟨rfl, by simp, rfl, rfl, rfl, ⟨rfl, rfl, rfl, rfl, trivial⟩, ⟨rfl, rfl, trivial⟩⟩ ?_
      intro i hi
      have hi : i ≤ cntA 3 n := hi
      have cA := cb 0
      by_cases hia : i < cntA 3 n
      · refine SCmp.yes (decide_eq_true (by omega)) ?_
        refine SIdx.rf i rfl hia ?_
        have hz := (h.bA i hia).mono (show b ≤ c by omega)
        have hc2 := none2_ok (m 1) true (A i) (lst (cntB 3 n) B) (fun j hj => by
          rw [lst_length] at hj; rw [lst_getD hj]
          have := check2_ok true (A i) (B j) hz (h.bB j hj) (by omega)
          rw [decide_eq_false (h.ne i j hia hj)] at this
          exact this) (by rw [lst_length]; exact Nat.le_trans (cb 1) (by decide))
        refine SCall.pure (pvs := [ratsM (m 1) (lst (cntB 3 n) B), .fn 189 [.pel true (ratP (A i))]]) hc2 ?_
        refine SCond.mk (fun h => by cases h) (fun _ => ?_)
        refine SWrap.i64z ((i + 1 : Nat) : Int) (by omega) (by omega) ?_
        exact ⟨i + 1, [0, 1], hia, by show cntA 3 n - (i + 1) < cntA 3 n - i; omega, ⟨rfl, by simp, rfl, rfl, rfl, ⟨rfl, rfl, rfl, rfl, trivial⟩, ⟨rfl, rfl, trivial⟩⟩⟩
      · refine SCmp.no (decide_eq_false (by omega)) ?_
        exact SRet.pure (.p _ (.int _ _))
theorem gcheck4_ok (m : Nat → Bool) (n r : Nat) (A B G H : Nat → Rat) {b c : Nat} (h : Wf ⟨4, n, r, A, B, G, H⟩ b c) : CallP Try.prog 150 [genP m ⟨4, n, r, A, B, G, H⟩] (.p (.int .i64 0)) [] := by
  have n6 : n ≤ 6 := h.n6
  have n1 : 1 ≤ n := h.n1
  have r2 : r ≤ 2 := h.r2
  have hnr : n * r ≤ 12 := Nat.mul_le_mul n6 r2
  have hc4 := h.c4
  have hbc := h.bc
  have cc := cnt_le (k := 4) (r := r) n1 (show n ≤ 8 by omega) (show r ≤ 3 by omega)
  have cb : ∀ i : Nat, (if i = 0 then cntA 4 n else if i = 1 then cntB 4 n else cntH 4 n r) ≤ 24 := fun i => by split <;> (try split) <;> omega
  show CallP Try.prog 150 [.agg [.int .i64 ((4 : Nat) : Int), .int .i64 (n : Int), .int .i64 (r : Int), ratsM (m 0) (lst (cntA 4 n) A), ratsM (m 1) (lst (cntB 4 n) B), ratsM (m 2) (lst (cntH 4 n r) G), ratsM (m 3) (lst (cntH 4 n r) H)]] (.p (.int .i64 0)) []
  refine callG_of_vc (wr := wr0) Γok mixed Try.func150 (by kernel_rfl) rfl (by kernel_rfl) (le_of_ble rfl) (by simp) ?_
  refine SCmp.no (decide_eq_false (by omega)) ?_
  refine SCmp.no (decide_eq_false (by omega)) ?_
  refine SCall.pure (sized_ok m ⟨4, n, r, A, B, G, H⟩ h) ?_
  refine SCmp.no (rfl) ?_
  refine SCall.lent [genP m ⟨4, n, r, A, B, G, H⟩] _ rfl (genrows_ok m ⟨4, n, r, A, B, G, H⟩) ?_
  refine SCall.pure (counts_ok) ?_
  refine SLoop.mk Nat (fun i => ([(1, .bptr 0 0), (3, .bptr 1 0), (4, .p (.mp false cntM)), (28, .p (.agg [ratsM (m 0) (lst (cntA 4 n) A), ratsM (m 1) (lst (cntB 4 n) B), ratsM (m 2) (lst (cntH 4 n r) G), ratsM (m 3) (lst (cntH 4 n r) H)])), (29, .p (.int .i64 i))], [.box 59 [.p (.int .i64 ((4 : Nat) : Int)), .p (.int .i64 (n : Int)), .p (.int .i64 (r : Int)), .p (ratsM (m 0) (lst (cntA 4 n) A)), .p (ratsM (m 1) (lst (cntB 4 n) B)), .p (ratsM (m 2) (lst (cntH 4 n r) G)), .p (ratsM (m 3) (lst (cntH 4 n r) H))], .box 189 [.p (ratsM (m 0) (lst (cntA 4 n) A)), .p (ratsM (m 1) (lst (cntB 4 n) B)), .p (ratsM (m 2) (lst (cntH 4 n r) G)), .p (ratsM (m 3) (lst (cntH 4 n r) H))]]))
    (fun i => i ≤ 4) (fun i => 4 - i) 0 [0, 1] (Nat.zero_le _) ⟨rfl, by simp, rfl, rfl, rfl, ⟨rfl, rfl, rfl, rfl, rfl, trivial⟩, ⟨rfl, rfl, trivial⟩⟩ ?_
  intro i hi
  have hi : i ≤ 4 := hi
  rcases (show i = 0 ∨ i = 1 ∨ i = 2 ∨ i = 3 ∨ i = 4 by omega) with rfl | rfl | rfl | rfl | rfl
  · refine SCmp.yes (rfl) ?_
    refine SIdx.mk 0 _ rfl rfl ?_
    refine SKeys.all rfl <| SGet.at 3 _ rfl rfl rfl ?_
    refine SZ.mk ((cntA 4 n : Nat) : Int) (by simp [lst]) ?_
    refine SPos.mk 0 rfl (by decide) ?_
    refine SWrap.i64z ((1 * n : Nat) : Int) (by omega) (by omega) ?_
    refine SPos.mk 1 rfl (by decide) ?_
    refine SWrap.i64z ((0 * n : Nat) : Int) (by omega) (by omega) ?_
    refine SWrap.i64z ((0 : Nat) : Int) (by simp) (by omega) ?_
    refine SWrap.i64z ((1 * n + 0 : Nat) : Int) (by omega) (by omega) ?_
    refine SPos.mk 2 rfl (by decide) ?_
    refine SWrap.i64z ((cntA 4 n : Nat) : Int) (by simp [cntA, cntB, cntH] <;> omega) (by have := cnt_le (k := 4) (r := r) n1 (show n ≤ 8 by omega) (show r ≤ 3 by omega); omega) ?_
    refine SCmp.no (neF rfl) ?_
    refine SWrap.i64z ((0 + 1 : Nat) : Int) (by omega) (by omega) ?_
    exact ⟨0 + 1, [0, 1], by decide, by decide, ⟨rfl, by simp, rfl, rfl, rfl, ⟨rfl, rfl, rfl, rfl, rfl, trivial⟩, ⟨rfl, rfl, trivial⟩⟩⟩
  · refine SCmp.yes (rfl) ?_
    refine SIdx.mk 1 _ rfl rfl ?_
    refine SKeys.all rfl <| SGet.none rfl ?_
    refine SZ.mk ((cntB 4 n : Nat) : Int) (by simp [lst]) ?_
    refine SPos.mk 0 rfl (by decide) ?_
    refine SWrap.i64z ((0 * n : Nat) : Int) (by omega) (by omega) ?_
    refine SPos.mk 1 rfl (by decide) ?_
    refine SWrap.i64z ((0 * n : Nat) : Int) (by omega) (by omega) ?_
    refine SWrap.i64z ((0 : Nat) : Int) (by simp) (by omega) ?_
    refine SWrap.i64z ((0 * n + 0 : Nat) : Int) (by omega) (by omega) ?_
    refine SPos.mk 2 rfl (by decide) ?_
    refine SWrap.i64z ((cntB 4 n : Nat) : Int) (by simp [cntA, cntB, cntH] <;> omega) (by have := cnt_le (k := 4) (r := r) n1 (show n ≤ 8 by omega) (show r ≤ 3 by omega); omega) ?_
    refine SCmp.no (neF rfl) ?_
    refine SWrap.i64z ((1 + 1 : Nat) : Int) (by omega) (by omega) ?_
    exact ⟨1 + 1, [0, 1], by decide, by decide, ⟨rfl, by simp, rfl, rfl, rfl, ⟨rfl, rfl, rfl, rfl, rfl, trivial⟩, ⟨rfl, rfl, trivial⟩⟩⟩
  · refine SCmp.yes (rfl) ?_
    refine SIdx.mk 2 _ rfl rfl ?_
    refine SKeys.all rfl <| SGet.none rfl ?_
    refine SZ.mk ((cntH 4 n r : Nat) : Int) (by simp [lst]) ?_
    refine SPos.mk 0 rfl (by decide) ?_
    refine SWrap.i64z ((0 * n : Nat) : Int) (by omega) (by omega) ?_
    refine SPos.mk 1 rfl (by decide) ?_
    refine SWrap.i64z ((0 * n : Nat) : Int) (by omega) (by omega) ?_
    refine SWrap.i64z ((0 : Nat) : Int) (by simp) (by omega) ?_
    refine SWrap.i64z ((0 * n + 0 : Nat) : Int) (by omega) (by omega) ?_
    refine SPos.mk 2 rfl (by decide) ?_
    refine SWrap.i64z ((cntH 4 n r : Nat) : Int) (by simp [cntA, cntB, cntH] <;> omega) (by have := cnt_le (k := 4) (r := r) n1 (show n ≤ 8 by omega) (show r ≤ 3 by omega); omega) ?_
    refine SCmp.no (neF rfl) ?_
    refine SWrap.i64z ((2 + 1 : Nat) : Int) (by omega) (by omega) ?_
    exact ⟨2 + 1, [0, 1], by decide, by decide, ⟨rfl, by simp, rfl, rfl, rfl, ⟨rfl, rfl, rfl, rfl, rfl, trivial⟩, ⟨rfl, rfl, trivial⟩⟩⟩
  · refine SCmp.yes (rfl) ?_
    refine SIdx.mk 3 _ rfl rfl ?_
    refine SKeys.all rfl <| SGet.none rfl ?_
    refine SZ.mk ((cntH 4 n r : Nat) : Int) (by simp [lst]) ?_
    refine SPos.mk 0 rfl (by decide) ?_
    refine SWrap.i64z ((0 * n : Nat) : Int) (by omega) (by omega) ?_
    refine SPos.mk 1 rfl (by decide) ?_
    refine SWrap.i64z ((0 * n : Nat) : Int) (by omega) (by omega) ?_
    refine SWrap.i64z ((0 : Nat) : Int) (by simp) (by omega) ?_
    refine SWrap.i64z ((0 * n + 0 : Nat) : Int) (by omega) (by omega) ?_
    refine SPos.mk 2 rfl (by decide) ?_
    refine SWrap.i64z ((cntH 4 n r : Nat) : Int) (by simp [cntA, cntB, cntH] <;> omega) (by have := cnt_le (k := 4) (r := r) n1 (show n ≤ 8 by omega) (show r ≤ 3 by omega); omega) ?_
    refine SCmp.no (neF rfl) ?_
    refine SWrap.i64z ((3 + 1 : Nat) : Int) (by omega) (by omega) ?_
    exact ⟨3 + 1, [0, 1], by decide, by decide, ⟨rfl, by simp, rfl, rfl, rfl, ⟨rfl, rfl, rfl, rfl, rfl, trivial⟩, ⟨rfl, rfl, trivial⟩⟩⟩
  · refine SCmp.no (rfl) ?_
    refine SLoop.mk Nat (fun i => ([(1, .bptr 0 0), (60, .p (.agg [ratsM (m 0) (lst (cntA 4 n) A), ratsM (m 1) (lst (cntB 4 n) B), ratsM (m 2) (lst (cntH 4 n r) G), ratsM (m 3) (lst (cntH 4 n r) H)])), (61, .p (.int .i64 i))], [.box 59 [.p (.int .i64 ((4 : Nat) : Int)), .p (.int .i64 (n : Int)), .p (.int .i64 (r : Int)), .p (ratsM (m 0) (lst (cntA 4 n) A)), .p (ratsM (m 1) (lst (cntB 4 n) B)), .p (ratsM (m 2) (lst (cntH 4 n r) G)), .p (ratsM (m 3) (lst (cntH 4 n r) H))], .box 189 [.p (ratsM (m 0) (lst (cntA 4 n) A)), .p (ratsM (m 1) (lst (cntB 4 n) B)), .p (ratsM (m 2) (lst (cntH 4 n r) G)), .p (ratsM (m 3) (lst (cntH 4 n r) H))]]))
      (fun i => i ≤ 4) (fun i => 4 - i) 0 [0, 1] (Nat.zero_le _) ⟨rfl, by simp, rfl, rfl, rfl, ⟨rfl, rfl, rfl, trivial⟩, ⟨rfl, rfl, trivial⟩⟩ ?_
    intro i hi
    have hi : i ≤ 4 := hi
    rcases (show i = 0 ∨ i = 1 ∨ i = 2 ∨ i = 3 ∨ i = 4 by omega) with rfl | rfl | rfl | rfl | rfl
    · refine SCmp.yes (rfl) ?_
      refine SIdx.mk 0 _ rfl rfl ?_
      refine SCall.pure (none1_ok (m 0) (lst (cntA 4 n) A) (fun i hi => by rw [lst_length] at hi; rw [lst_getD hi]; exact check1_ok _ ((h.bA i hi).mono (by omega))) (by rw [lst_length]; exact Nat.le_trans (cb 0) (by decide))) ?_
      refine SCond.mk (fun h => by cases h) (fun _ => ?_)
      refine SWrap.i64z ((0 + 1 : Nat) : Int) (by omega) (by omega) ?_
      exact ⟨0 + 1, [0, 1], by decide, by decide, ⟨rfl, by simp, rfl, rfl, rfl, ⟨rfl, rfl, rfl, trivial⟩, ⟨rfl, rfl, trivial⟩⟩⟩
    · refine SCmp.yes (rfl) ?_
      refine SIdx.mk 1 _ rfl rfl ?_
      refine SCall.pure (none1_ok (m 1) (lst (cntB 4 n) B) (fun i hi => by rw [lst_length] at hi; rw [lst_getD hi]; exact check1_ok _ ((h.bB i hi).mono (by omega))) (by rw [lst_length]; exact Nat.le_trans (cb 1) (by decide))) ?_
      refine SCond.mk (fun h => by cases h) (fun _ => ?_)
      refine SWrap.i64z ((1 + 1 : Nat) : Int) (by omega) (by omega) ?_
      exact ⟨1 + 1, [0, 1], by decide, by decide, ⟨rfl, by simp, rfl, rfl, rfl, ⟨rfl, rfl, rfl, trivial⟩, ⟨rfl, rfl, trivial⟩⟩⟩
    · refine SCmp.yes (rfl) ?_
      refine SIdx.mk 2 _ rfl rfl ?_
      refine SCall.pure (none1_ok (m 2) (lst (cntH 4 n r) G) (fun i hi => by rw [lst_length] at hi; rw [lst_getD hi]; exact check1_ok _ ((h.bG i hi).mono (by omega))) (by rw [lst_length]; exact Nat.le_trans (cb 2) (by decide))) ?_
      refine SCond.mk (fun h => by cases h) (fun _ => ?_)
      refine SWrap.i64z ((2 + 1 : Nat) : Int) (by omega) (by omega) ?_
      exact ⟨2 + 1, [0, 1], by decide, by decide, ⟨rfl, by simp, rfl, rfl, rfl, ⟨rfl, rfl, rfl, trivial⟩, ⟨rfl, rfl, trivial⟩⟩⟩
    · refine SCmp.yes (rfl) ?_
      refine SIdx.mk 3 _ rfl rfl ?_
      refine SCall.pure (none1_ok (m 3) (lst (cntH 4 n r) H) (fun i hi => by rw [lst_length] at hi; rw [lst_getD hi]; exact check1_ok _ ((h.bH i hi).mono (by omega))) (by rw [lst_length]; exact Nat.le_trans (cb 3) (by decide))) ?_
      refine SCond.mk (fun h => by cases h) (fun _ => ?_)
      refine SWrap.i64z ((3 + 1 : Nat) : Int) (by omega) (by omega) ?_
      exact ⟨3 + 1, [0, 1], by decide, by decide, ⟨rfl, by simp, rfl, rfl, rfl, ⟨rfl, rfl, rfl, trivial⟩, ⟨rfl, rfl, trivial⟩⟩⟩
    · refine SCmp.no (rfl) ?_
      refine SZ.mk ((cntA 4 n : Nat) : Int) (by simp [lst]) ?_
      refine SLoop.mk Nat (fun i => ([(1, .bptr 0 0), (68, .p (ratsM (m 0) (lst (cntA 4 n) A))), (69, .p (.int .i64 ((cntA 4 n : Nat) : Int))), (70, .p (.int .i64 i))], [.box 59 [.p (.int .i64 ((4 : Nat) : Int)), .p (.int .i64 (n : Int)), .p (.int .i64 (r : Int)), .p (ratsM (m 0) (lst (cntA 4 n) A)), .p (ratsM (m 1) (lst (cntB 4 n) B)), .p (ratsM (m 2) (lst (cntH 4 n r) G)), .p (ratsM (m 3) (lst (cntH 4 n r) H))], .box 189 [.p (ratsM (m 0) (lst (cntA 4 n) A)), .p (ratsM (m 1) (lst (cntB 4 n) B)), .p (ratsM (m 2) (lst (cntH 4 n r) G)), .p (ratsM (m 3) (lst (cntH 4 n r) H))]]))
        (fun i => i ≤ cntA 4 n) (fun i => cntA 4 n - i) 0 [0, 1] (Nat.zero_le _) ⟨rfl, by simp, rfl, rfl, rfl, ⟨rfl, rfl, rfl, rfl, trivial⟩, ⟨rfl, rfl, trivial⟩⟩ ?_
      intro i hi
      have hi : i ≤ cntA 4 n := hi
      have cA := cb 0
      by_cases hia : i < cntA 4 n
      · refine SCmp.yes (decide_eq_true (by omega)) ?_
        refine SIdx.rf i rfl hia ?_
        have hz := (h.bA i hia).mono (show b ≤ c by omega)
        have hc2 := none2_ok (m 1) true (A i) (lst (cntB 4 n) B) (fun j hj => by
          rw [lst_length] at hj; rw [lst_getD hj]
          have := check2_ok true (A i) (B j) hz (h.bB j hj) (by omega)
          rw [decide_eq_false (h.ne i j hia hj)] at this
          exact this) (by rw [lst_length]; exact Nat.le_trans (cb 1) (by decide))
        refine SCall.pure (pvs := [ratsM (m 1) (lst (cntB 4 n) B), .fn 189 [.pel true (ratP (A i))]]) hc2 ?_
        refine SCond.mk (fun h => by cases h) (fun _ => ?_)
        refine SWrap.i64z ((i + 1 : Nat) : Int) (by omega) (by omega) ?_
        exact ⟨i + 1, [0, 1], hia, by show cntA 4 n - (i + 1) < cntA 4 n - i; omega, ⟨rfl, by simp, rfl, rfl, rfl, ⟨rfl, rfl, rfl, rfl, trivial⟩, ⟨rfl, rfl, trivial⟩⟩⟩
      · refine SCmp.no (decide_eq_false (by omega)) ?_
        exact SRet.pure (.p _ (.int _ _))
theorem gcheck5_ok (m : Nat → Bool) (n r : Nat) (A B G H : Nat → Rat) {b c : Nat} (h : Wf ⟨5, n, r, A, B, G, H⟩ b c) : CallP Try.prog 150 [genP m ⟨5, n, r, A, B, G, H⟩] (.p (.int .i64 0)) [] := by
  have n6 : n ≤ 6 := h.n6
  have n1 : 1 ≤ n := h.n1
  have r2 : r ≤ 2 := h.r2
  have hnr : n * r ≤ 12 := Nat.mul_le_mul n6 r2
  have hc4 := h.c4
  have hbc := h.bc
  have cc := cnt_le (k := 5) (r := r) n1 (show n ≤ 8 by omega) (show r ≤ 3 by omega)
  have cb : ∀ i : Nat, (if i = 0 then cntA 5 n else if i = 1 then cntB 5 n else cntH 5 n r) ≤ 24 := fun i => by split <;> (try split) <;> omega
  show CallP Try.prog 150 [.agg [.int .i64 ((5 : Nat) : Int), .int .i64 (n : Int), .int .i64 (r : Int), ratsM (m 0) (lst (cntA 5 n) A), ratsM (m 1) (lst (cntB 5 n) B), ratsM (m 2) (lst (cntH 5 n r) G), ratsM (m 3) (lst (cntH 5 n r) H)]] (.p (.int .i64 0)) []
  refine callG_of_vc (wr := wr0) Γok mixed Try.func150 (by kernel_rfl) rfl (by kernel_rfl) (le_of_ble rfl) (by simp) ?_
  refine SCmp.no (decide_eq_false (by omega)) ?_
  refine SCmp.no (decide_eq_false (by omega)) ?_
  refine SCall.pure (sized_ok m ⟨5, n, r, A, B, G, H⟩ h) ?_
  refine SCmp.no (rfl) ?_
  refine SCall.lent [genP m ⟨5, n, r, A, B, G, H⟩] _ rfl (genrows_ok m ⟨5, n, r, A, B, G, H⟩) ?_
  refine SCall.pure (counts_ok) ?_
  refine SLoop.mk Nat (fun i => ([(1, .bptr 0 0), (3, .bptr 1 0), (4, .p (.mp false cntM)), (28, .p (.agg [ratsM (m 0) (lst (cntA 5 n) A), ratsM (m 1) (lst (cntB 5 n) B), ratsM (m 2) (lst (cntH 5 n r) G), ratsM (m 3) (lst (cntH 5 n r) H)])), (29, .p (.int .i64 i))], [.box 59 [.p (.int .i64 ((5 : Nat) : Int)), .p (.int .i64 (n : Int)), .p (.int .i64 (r : Int)), .p (ratsM (m 0) (lst (cntA 5 n) A)), .p (ratsM (m 1) (lst (cntB 5 n) B)), .p (ratsM (m 2) (lst (cntH 5 n r) G)), .p (ratsM (m 3) (lst (cntH 5 n r) H))], .box 189 [.p (ratsM (m 0) (lst (cntA 5 n) A)), .p (ratsM (m 1) (lst (cntB 5 n) B)), .p (ratsM (m 2) (lst (cntH 5 n r) G)), .p (ratsM (m 3) (lst (cntH 5 n r) H))]]))
    (fun i => i ≤ 4) (fun i => 4 - i) 0 [0, 1] (Nat.zero_le _) ⟨rfl, by simp, rfl, rfl, rfl, ⟨rfl, rfl, rfl, rfl, rfl, trivial⟩, ⟨rfl, rfl, trivial⟩⟩ ?_
  intro i hi
  have hi : i ≤ 4 := hi
  rcases (show i = 0 ∨ i = 1 ∨ i = 2 ∨ i = 3 ∨ i = 4 by omega) with rfl | rfl | rfl | rfl | rfl
  · refine SCmp.yes (rfl) ?_
    refine SIdx.mk 0 _ rfl rfl ?_
    refine SKeys.all rfl <| SGet.at 4 _ rfl rfl rfl ?_
    refine SZ.mk ((cntA 5 n : Nat) : Int) (by simp [lst]) ?_
    refine SPos.mk 0 rfl (by decide) ?_
    refine SWrap.i64z ((1 * n : Nat) : Int) (by omega) (by omega) ?_
    refine SPos.mk 1 rfl (by decide) ?_
    refine SWrap.i64z ((0 * n : Nat) : Int) (by omega) (by omega) ?_
    refine SWrap.i64z ((0 : Nat) : Int) (by simp) (by omega) ?_
    refine SWrap.i64z ((1 * n + 0 : Nat) : Int) (by omega) (by omega) ?_
    refine SPos.mk 2 rfl (by decide) ?_
    refine SWrap.i64z ((cntA 5 n : Nat) : Int) (by simp [cntA, cntB, cntH] <;> omega) (by have := cnt_le (k := 5) (r := r) n1 (show n ≤ 8 by omega) (show r ≤ 3 by omega); omega) ?_
    refine SCmp.no (neF rfl) ?_
    refine SWrap.i64z ((0 + 1 : Nat) : Int) (by omega) (by omega) ?_
    exact ⟨0 + 1, [0, 1], by decide, by decide, ⟨rfl, by simp, rfl, rfl, rfl, ⟨rfl, rfl, rfl, rfl, rfl, trivial⟩, ⟨rfl, rfl, trivial⟩⟩⟩
  · refine SCmp.yes (rfl) ?_
    refine SIdx.mk 1 _ rfl rfl ?_
    refine SKeys.all rfl <| SGet.at 5 _ rfl rfl rfl ?_
    refine SZ.mk ((cntB 5 n : Nat) : Int) (by simp [lst]) ?_
    refine SPos.mk 0 rfl (by decide) ?_
    refine SWrap.i64z ((1 * n : Nat) : Int) (by omega) (by omega) ?_
    refine SPos.mk 1 rfl (by decide) ?_
    refine SWrap.i64z ((0 * n : Nat) : Int) (by omega) (by omega) ?_
    refine SWrap.i64z ((0 : Nat) : Int) (by simp) (by omega) ?_
    refine SWrap.i64z ((1 * n + 0 : Nat) : Int) (by omega) (by omega) ?_
    refine SPos.mk 2 rfl (by decide) ?_
    refine SWrap.i64z ((cntB 5 n : Nat) : Int) (by simp [cntA, cntB, cntH] <;> omega) (by have := cnt_le (k := 5) (r := r) n1 (show n ≤ 8 by omega) (show r ≤ 3 by omega); omega) ?_
    refine SCmp.no (neF rfl) ?_
    refine SWrap.i64z ((1 + 1 : Nat) : Int) (by omega) (by omega) ?_
    exact ⟨1 + 1, [0, 1], by decide, by decide, ⟨rfl, by simp, rfl, rfl, rfl, ⟨rfl, rfl, rfl, rfl, rfl, trivial⟩, ⟨rfl, rfl, trivial⟩⟩⟩
  · refine SCmp.yes (rfl) ?_
    refine SIdx.mk 2 _ rfl rfl ?_
    refine SKeys.all rfl <| SGet.none rfl ?_
    refine SZ.mk ((cntH 5 n r : Nat) : Int) (by simp [lst]) ?_
    refine SPos.mk 0 rfl (by decide) ?_
    refine SWrap.i64z ((0 * n : Nat) : Int) (by omega) (by omega) ?_
    refine SPos.mk 1 rfl (by decide) ?_
    refine SWrap.i64z ((0 * n : Nat) : Int) (by omega) (by omega) ?_
    refine SWrap.i64z ((0 : Nat) : Int) (by simp) (by omega) ?_
    refine SWrap.i64z ((0 * n + 0 : Nat) : Int) (by omega) (by omega) ?_
    refine SPos.mk 2 rfl (by decide) ?_
    refine SWrap.i64z ((cntH 5 n r : Nat) : Int) (by simp [cntA, cntB, cntH] <;> omega) (by have := cnt_le (k := 5) (r := r) n1 (show n ≤ 8 by omega) (show r ≤ 3 by omega); omega) ?_
    refine SCmp.no (neF rfl) ?_
    refine SWrap.i64z ((2 + 1 : Nat) : Int) (by omega) (by omega) ?_
    exact ⟨2 + 1, [0, 1], by decide, by decide, ⟨rfl, by simp, rfl, rfl, rfl, ⟨rfl, rfl, rfl, rfl, rfl, trivial⟩, ⟨rfl, rfl, trivial⟩⟩⟩
  · refine SCmp.yes (rfl) ?_
    refine SIdx.mk 3 _ rfl rfl ?_
    refine SKeys.all rfl <| SGet.none rfl ?_
    refine SZ.mk ((cntH 5 n r : Nat) : Int) (by simp [lst]) ?_
    refine SPos.mk 0 rfl (by decide) ?_
    refine SWrap.i64z ((0 * n : Nat) : Int) (by omega) (by omega) ?_
    refine SPos.mk 1 rfl (by decide) ?_
    refine SWrap.i64z ((0 * n : Nat) : Int) (by omega) (by omega) ?_
    refine SWrap.i64z ((0 : Nat) : Int) (by simp) (by omega) ?_
    refine SWrap.i64z ((0 * n + 0 : Nat) : Int) (by omega) (by omega) ?_
    refine SPos.mk 2 rfl (by decide) ?_
    refine SWrap.i64z ((cntH 5 n r : Nat) : Int) (by simp [cntA, cntB, cntH] <;> omega) (by have := cnt_le (k := 5) (r := r) n1 (show n ≤ 8 by omega) (show r ≤ 3 by omega); omega) ?_
    refine SCmp.no (neF rfl) ?_
    refine SWrap.i64z ((3 + 1 : Nat) : Int) (by omega) (by omega) ?_
    exact ⟨3 + 1, [0, 1], by decide, by decide, ⟨rfl, by simp, rfl, rfl, rfl, ⟨rfl, rfl, rfl, rfl, rfl, trivial⟩, ⟨rfl, rfl, trivial⟩⟩⟩
  · refine SCmp.no (rfl) ?_
    refine SLoop.mk Nat (fun i => ([(1, .bptr 0 0), (60, .p (.agg [ratsM (m 0) (lst (cntA 5 n) A), ratsM (m 1) (lst (cntB 5 n) B), ratsM (m 2) (lst (cntH 5 n r) G), ratsM (m 3) (lst (cntH 5 n r) H)])), (61, .p (.int .i64 i))], [.box 59 [.p (.int .i64 ((5 : Nat) : Int)), .p (.int .i64 (n : Int)), .p (.int .i64 (r : Int)), .p (ratsM (m 0) (lst (cntA 5 n) A)), .p (ratsM (m 1) (lst (cntB 5 n) B)), .p (ratsM (m 2) (lst (cntH 5 n r) G)), .p (ratsM (m 3) (lst (cntH 5 n r) H))], .box 189 [.p (ratsM (m 0) (lst (cntA 5 n) A)), .p (ratsM (m 1) (lst (cntB 5 n) B)), .p (ratsM (m 2) (lst (cntH 5 n r) G)), .p (ratsM (m 3) (lst (cntH 5 n r) H))]]))
      (fun i => i ≤ 4) (fun i => 4 - i) 0 [0, 1] (Nat.zero_le _) ⟨rfl, by simp, rfl, rfl, rfl, ⟨rfl, rfl, rfl, trivial⟩, ⟨rfl, rfl, trivial⟩⟩ ?_
    intro i hi
    have hi : i ≤ 4 := hi
    rcases (show i = 0 ∨ i = 1 ∨ i = 2 ∨ i = 3 ∨ i = 4 by omega) with rfl | rfl | rfl | rfl | rfl
    · refine SCmp.yes (rfl) ?_
      refine SIdx.mk 0 _ rfl rfl ?_
      refine SCall.pure (none1_ok (m 0) (lst (cntA 5 n) A) (fun i hi => by rw [lst_length] at hi; rw [lst_getD hi]; exact check1_ok _ ((h.bA i hi).mono (by omega))) (by rw [lst_length]; exact Nat.le_trans (cb 0) (by decide))) ?_
      refine SCond.mk (fun h => by cases h) (fun _ => ?_)
      refine SWrap.i64z ((0 + 1 : Nat) : Int) (by omega) (by omega) ?_
      exact ⟨0 + 1, [0, 1], by decide, by decide, ⟨rfl, by simp, rfl, rfl, rfl, ⟨rfl, rfl, rfl, trivial⟩, ⟨rfl, rfl, trivial⟩⟩⟩
    · refine SCmp.yes (rfl) ?_
      refine SIdx.mk 1 _ rfl rfl ?_
      refine SCall.pure (none1_ok (m 1) (lst (cntB 5 n) B) (fun i hi => by rw [lst_length] at hi; rw [lst_getD hi]; exact check1_ok _ ((h.bB i hi).mono (by omega))) (by rw [lst_length]; exact Nat.le_trans (cb 1) (by decide))) ?_
      refine SCond.mk (fun h => by cases h) (fun _ => ?_)
      refine SWrap.i64z ((1 + 1 : Nat) : Int) (by omega) (by omega) ?_
      exact ⟨1 + 1, [0, 1], by decide, by decide, ⟨rfl, by simp, rfl, rfl, rfl, ⟨rfl, rfl, rfl, trivial⟩, ⟨rfl, rfl, trivial⟩⟩⟩
    · refine SCmp.yes (rfl) ?_
      refine SIdx.mk 2 _ rfl rfl ?_
      refine SCall.pure (none1_ok (m 2) (lst (cntH 5 n r) G) (fun i hi => by rw [lst_length] at hi; rw [lst_getD hi]; exact check1_ok _ ((h.bG i hi).mono (by omega))) (by rw [lst_length]; exact Nat.le_trans (cb 2) (by decide))) ?_
      refine SCond.mk (fun h => by cases h) (fun _ => ?_)
      refine SWrap.i64z ((2 + 1 : Nat) : Int) (by omega) (by omega) ?_
      exact ⟨2 + 1, [0, 1], by decide, by decide, ⟨rfl, by simp, rfl, rfl, rfl, ⟨rfl, rfl, rfl, trivial⟩, ⟨rfl, rfl, trivial⟩⟩⟩
    · refine SCmp.yes (rfl) ?_
      refine SIdx.mk 3 _ rfl rfl ?_
      refine SCall.pure (none1_ok (m 3) (lst (cntH 5 n r) H) (fun i hi => by rw [lst_length] at hi; rw [lst_getD hi]; exact check1_ok _ ((h.bH i hi).mono (by omega))) (by rw [lst_length]; exact Nat.le_trans (cb 3) (by decide))) ?_
      refine SCond.mk (fun h => by cases h) (fun _ => ?_)
      refine SWrap.i64z ((3 + 1 : Nat) : Int) (by omega) (by omega) ?_
      exact ⟨3 + 1, [0, 1], by decide, by decide, ⟨rfl, by simp, rfl, rfl, rfl, ⟨rfl, rfl, rfl, trivial⟩, ⟨rfl, rfl, trivial⟩⟩⟩
    · refine SCmp.no (rfl) ?_
      refine SZ.mk ((cntA 5 n : Nat) : Int) (by simp [lst]) ?_
      refine SLoop.mk Nat (fun i => ([(1, .bptr 0 0), (68, .p (ratsM (m 0) (lst (cntA 5 n) A))), (69, .p (.int .i64 ((cntA 5 n : Nat) : Int))), (70, .p (.int .i64 i))], [.box 59 [.p (.int .i64 ((5 : Nat) : Int)), .p (.int .i64 (n : Int)), .p (.int .i64 (r : Int)), .p (ratsM (m 0) (lst (cntA 5 n) A)), .p (ratsM (m 1) (lst (cntB 5 n) B)), .p (ratsM (m 2) (lst (cntH 5 n r) G)), .p (ratsM (m 3) (lst (cntH 5 n r) H))], .box 189 [.p (ratsM (m 0) (lst (cntA 5 n) A)), .p (ratsM (m 1) (lst (cntB 5 n) B)), .p (ratsM (m 2) (lst (cntH 5 n r) G)), .p (ratsM (m 3) (lst (cntH 5 n r) H))]]))
        (fun i => i ≤ cntA 5 n) (fun i => cntA 5 n - i) 0 [0, 1] (Nat.zero_le _) ⟨rfl, by simp, rfl, rfl, rfl, ⟨rfl, rfl, rfl, rfl, trivial⟩, ⟨rfl, rfl, trivial⟩⟩ ?_
      intro i hi
      have hi : i ≤ cntA 5 n := hi
      have cA := cb 0
      by_cases hia : i < cntA 5 n
      · refine SCmp.yes (decide_eq_true (by omega)) ?_
        refine SIdx.rf i rfl hia ?_
        have hz := (h.bA i hia).mono (show b ≤ c by omega)
        have hc2 := none2_ok (m 1) true (A i) (lst (cntB 5 n) B) (fun j hj => by
          rw [lst_length] at hj; rw [lst_getD hj]
          have := check2_ok true (A i) (B j) hz (h.bB j hj) (by omega)
          rw [decide_eq_false (h.ne i j hia hj)] at this
          exact this) (by rw [lst_length]; exact Nat.le_trans (cb 1) (by decide))
        refine SCall.pure (pvs := [ratsM (m 1) (lst (cntB 5 n) B), .fn 189 [.pel true (ratP (A i))]]) hc2 ?_
        refine SCond.mk (fun h => by cases h) (fun _ => ?_)
        refine SWrap.i64z ((i + 1 : Nat) : Int) (by omega) (by omega) ?_
        exact ⟨i + 1, [0, 1], hia, by show cntA 5 n - (i + 1) < cntA 5 n - i; omega, ⟨rfl, by simp, rfl, rfl, rfl, ⟨rfl, rfl, rfl, rfl, trivial⟩, ⟨rfl, rfl, trivial⟩⟩⟩
      · refine SCmp.no (decide_eq_false (by omega)) ?_
        exact SRet.pure (.p _ (.int _ _))
theorem gcheck6_ok (m : Nat → Bool) (n r : Nat) (A B G H : Nat → Rat) {b c : Nat} (h : Wf ⟨6, n, r, A, B, G, H⟩ b c) : CallP Try.prog 150 [genP m ⟨6, n, r, A, B, G, H⟩] (.p (.int .i64 0)) [] := by
  have n6 : n ≤ 6 := h.n6
  have n1 : 1 ≤ n := h.n1
  have r2 : r ≤ 2 := h.r2
  have hnr : n * r ≤ 12 := Nat.mul_le_mul n6 r2
  have hc4 := h.c4
  have hbc := h.bc
  have cc := cnt_le (k := 6) (r := r) n1 (show n ≤ 8 by omega) (show r ≤ 3 by omega)
  have cb : ∀ i : Nat, (if i = 0 then cntA 6 n else if i = 1 then cntB 6 n else cntH 6 n r) ≤ 24 := fun i => by split <;> (try split) <;> omega
  show CallP Try.prog 150 [.agg [.int .i64 ((6 : Nat) : Int), .int .i64 (n : Int), .int .i64 (r : Int), ratsM (m 0) (lst (cntA 6 n) A), ratsM (m 1) (lst (cntB 6 n) B), ratsM (m 2) (lst (cntH 6 n r) G), ratsM (m 3) (lst (cntH 6 n r) H)]] (.p (.int .i64 0)) []
  refine callG_of_vc (wr := wr0) Γok mixed Try.func150 (by kernel_rfl) rfl (by kernel_rfl) (le_of_ble rfl) (by simp) ?_
  refine SCmp.no (decide_eq_false (by omega)) ?_
  refine SCmp.no (decide_eq_false (by omega)) ?_
  refine SCall.pure (sized_ok m ⟨6, n, r, A, B, G, H⟩ h) ?_
  refine SCmp.no (rfl) ?_
  refine SCall.lent [genP m ⟨6, n, r, A, B, G, H⟩] _ rfl (genrows_ok m ⟨6, n, r, A, B, G, H⟩) ?_
  refine SCall.pure (counts_ok) ?_
  refine SLoop.mk Nat (fun i => ([(1, .bptr 0 0), (3, .bptr 1 0), (4, .p (.mp false cntM)), (28, .p (.agg [ratsM (m 0) (lst (cntA 6 n) A), ratsM (m 1) (lst (cntB 6 n) B), ratsM (m 2) (lst (cntH 6 n r) G), ratsM (m 3) (lst (cntH 6 n r) H)])), (29, .p (.int .i64 i))], [.box 59 [.p (.int .i64 ((6 : Nat) : Int)), .p (.int .i64 (n : Int)), .p (.int .i64 (r : Int)), .p (ratsM (m 0) (lst (cntA 6 n) A)), .p (ratsM (m 1) (lst (cntB 6 n) B)), .p (ratsM (m 2) (lst (cntH 6 n r) G)), .p (ratsM (m 3) (lst (cntH 6 n r) H))], .box 189 [.p (ratsM (m 0) (lst (cntA 6 n) A)), .p (ratsM (m 1) (lst (cntB 6 n) B)), .p (ratsM (m 2) (lst (cntH 6 n r) G)), .p (ratsM (m 3) (lst (cntH 6 n r) H))]]))
    (fun i => i ≤ 4) (fun i => 4 - i) 0 [0, 1] (Nat.zero_le _) ⟨rfl, by simp, rfl, rfl, rfl, ⟨rfl, rfl, rfl, rfl, rfl, trivial⟩, ⟨rfl, rfl, trivial⟩⟩ ?_
  intro i hi
  have hi : i ≤ 4 := hi
  rcases (show i = 0 ∨ i = 1 ∨ i = 2 ∨ i = 3 ∨ i = 4 by omega) with rfl | rfl | rfl | rfl | rfl
  · refine SCmp.yes (rfl) ?_
    refine SIdx.mk 0 _ rfl rfl ?_
    refine SKeys.all rfl <| SGet.none rfl ?_
    refine SZ.mk ((cntA 6 n : Nat) : Int) (by simp [lst]) ?_
    refine SPos.mk 0 rfl (by decide) ?_
    refine SWrap.i64z ((0 * n : Nat) : Int) (by omega) (by omega) ?_
    refine SPos.mk 1 rfl (by decide) ?_
    refine SWrap.i64z ((0 * n : Nat) : Int) (by omega) (by omega) ?_
    refine SWrap.i64z ((0 : Nat) : Int) (by simp) (by omega) ?_
    refine SWrap.i64z ((0 * n + 0 : Nat) : Int) (by omega) (by omega) ?_
    refine SPos.mk 2 rfl (by decide) ?_
    refine SWrap.i64z ((cntA 6 n : Nat) : Int) (by simp [cntA, cntB, cntH] <;> omega) (by have := cnt_le (k := 6) (r := r) n1 (show n ≤ 8 by omega) (show r ≤ 3 by omega); omega) ?_
    refine SCmp.no (neF rfl) ?_
    refine SWrap.i64z ((0 + 1 : Nat) : Int) (by omega) (by omega) ?_
    exact ⟨0 + 1, [0, 1], by decide, by decide, ⟨rfl, by simp, rfl, rfl, rfl, ⟨rfl, rfl, rfl, rfl, rfl, trivial⟩, ⟨rfl, rfl, trivial⟩⟩⟩
  · refine SCmp.yes (rfl) ?_
    refine SIdx.mk 1 _ rfl rfl ?_
    refine SKeys.all rfl <| SGet.none rfl ?_
    refine SZ.mk ((cntB 6 n : Nat) : Int) (by simp [lst]) ?_
    refine SPos.mk 0 rfl (by decide) ?_
    refine SWrap.i64z ((0 * n : Nat) : Int) (by omega) (by omega) ?_
    refine SPos.mk 1 rfl (by decide) ?_
    refine SWrap.i64z ((0 * n : Nat) : Int) (by omega) (by omega) ?_
    refine SWrap.i64z ((0 : Nat) : Int) (by simp) (by omega) ?_
    refine SWrap.i64z ((0 * n + 0 : Nat) : Int) (by omega) (by omega) ?_
    refine SPos.mk 2 rfl (by decide) ?_
    refine SWrap.i64z ((cntB 6 n : Nat) : Int) (by simp [cntA, cntB, cntH] <;> omega) (by have := cnt_le (k := 6) (r := r) n1 (show n ≤ 8 by omega) (show r ≤ 3 by omega); omega) ?_
    refine SCmp.no (neF rfl) ?_
    refine SWrap.i64z ((1 + 1 : Nat) : Int) (by omega) (by omega) ?_
    exact ⟨1 + 1, [0, 1], by decide, by decide, ⟨rfl, by simp, rfl, rfl, rfl, ⟨rfl, rfl, rfl, rfl, rfl, trivial⟩, ⟨rfl, rfl, trivial⟩⟩⟩
  · refine SCmp.yes (rfl) ?_
    refine SIdx.mk 2 _ rfl rfl ?_
    refine SKeys.all rfl <| SGet.at 6 _ rfl rfl rfl ?_
    refine SZ.mk ((cntH 6 n r : Nat) : Int) (by simp [lst]) ?_
    refine SPos.mk 0 rfl (by decide) ?_
    refine SWrap.i64z ((0 * n : Nat) : Int) (by omega) (by omega) ?_
    refine SPos.mk 1 rfl (by decide) ?_
    refine SWrap.i64z ((1 * n : Nat) : Int) (by omega) (by omega) ?_
    refine SWrap.i64z ((n * r : Nat) : Int) (by rw [Int.natCast_mul]; simp) (by omega) ?_
    refine SWrap.i64z ((0 * n + n * r : Nat) : Int) (by omega) (by omega) ?_
    refine SPos.mk 2 rfl (by decide) ?_
    refine SWrap.i64z ((cntH 6 n r : Nat) : Int) (by simp [cntA, cntB, cntH] <;> omega) (by have := cnt_le (k := 6) (r := r) n1 (show n ≤ 8 by omega) (show r ≤ 3 by omega); omega) ?_
    refine SCmp.no (neF rfl) ?_
    refine SWrap.i64z ((2 + 1 : Nat) : Int) (by omega) (by omega) ?_
    exact ⟨2 + 1, [0, 1], by decide, by decide, ⟨rfl, by simp, rfl, rfl, rfl, ⟨rfl, rfl, rfl, rfl, rfl, trivial⟩, ⟨rfl, rfl, trivial⟩⟩⟩
  · refine SCmp.yes (rfl) ?_
    refine SIdx.mk 3 _ rfl rfl ?_
    refine SKeys.all rfl <| SGet.at 7 _ rfl rfl rfl ?_
    refine SZ.mk ((cntH 6 n r : Nat) : Int) (by simp [lst]) ?_
    refine SPos.mk 0 rfl (by decide) ?_
    refine SWrap.i64z ((0 * n : Nat) : Int) (by omega) (by omega) ?_
    refine SPos.mk 1 rfl (by decide) ?_
    refine SWrap.i64z ((1 * n : Nat) : Int) (by omega) (by omega) ?_
    refine SWrap.i64z ((n * r : Nat) : Int) (by rw [Int.natCast_mul]; simp) (by omega) ?_
    refine SWrap.i64z ((0 * n + n * r : Nat) : Int) (by omega) (by omega) ?_
    refine SPos.mk 2 rfl (by decide) ?_
    refine SWrap.i64z ((cntH 6 n r : Nat) : Int) (by simp [cntA, cntB, cntH] <;> omega) (by have := cnt_le (k := 6) (r := r) n1 (show n ≤ 8 by omega) (show r ≤ 3 by omega); omega) ?_
    refine SCmp.no (neF rfl) ?_
    refine SWrap.i64z ((3 + 1 : Nat) : Int) (by omega) (by omega) ?_
    exact ⟨3 + 1, [0, 1], by decide, by decide, ⟨rfl, by simp, rfl, rfl, rfl, ⟨rfl, rfl, rfl, rfl, rfl, trivial⟩, ⟨rfl, rfl, trivial⟩⟩⟩
  · refine SCmp.no (rfl) ?_
    refine SLoop.mk Nat (fun i => ([(1, .bptr 0 0), (60, .p (.agg [ratsM (m 0) (lst (cntA 6 n) A), ratsM (m 1) (lst (cntB 6 n) B), ratsM (m 2) (lst (cntH 6 n r) G), ratsM (m 3) (lst (cntH 6 n r) H)])), (61, .p (.int .i64 i))], [.box 59 [.p (.int .i64 ((6 : Nat) : Int)), .p (.int .i64 (n : Int)), .p (.int .i64 (r : Int)), .p (ratsM (m 0) (lst (cntA 6 n) A)), .p (ratsM (m 1) (lst (cntB 6 n) B)), .p (ratsM (m 2) (lst (cntH 6 n r) G)), .p (ratsM (m 3) (lst (cntH 6 n r) H))], .box 189 [.p (ratsM (m 0) (lst (cntA 6 n) A)), .p (ratsM (m 1) (lst (cntB 6 n) B)), .p (ratsM (m 2) (lst (cntH 6 n r) G)), .p (ratsM (m 3) (lst (cntH 6 n r) H))]]))
      (fun i => i ≤ 4) (fun i => 4 - i) 0 [0, 1] (Nat.zero_le _) ⟨rfl, by simp, rfl, rfl, rfl, ⟨rfl, rfl, rfl, trivial⟩, ⟨rfl, rfl, trivial⟩⟩ ?_
    intro i hi
    have hi : i ≤ 4 := hi
    rcases (show i = 0 ∨ i = 1 ∨ i = 2 ∨ i = 3 ∨ i = 4 by omega) with rfl | rfl | rfl | rfl | rfl
    · refine SCmp.yes (rfl) ?_
      refine SIdx.mk 0 _ rfl rfl ?_
      refine SCall.pure (none1_ok (m 0) (lst (cntA 6 n) A) (fun i hi => by rw [lst_length] at hi; rw [lst_getD hi]; exact check1_ok _ ((h.bA i hi).mono (by omega))) (by rw [lst_length]; exact Nat.le_trans (cb 0) (by decide))) ?_
      refine SCond.mk (fun h => by cases h) (fun _ => ?_)
      refine SWrap.i64z ((0 + 1 : Nat) : Int) (by omega) (by omega) ?_
      exact ⟨0 + 1, [0, 1], by decide, by decide, ⟨rfl, by simp, rfl, rfl, rfl, ⟨rfl, rfl, rfl, trivial⟩, ⟨rfl, rfl, trivial⟩⟩⟩
    · refine SCmp.yes (rfl) ?_
      refine SIdx.mk 1 _ rfl rfl ?_
      refine SCall.pure (none1_ok (m 1) (lst (cntB 6 n) B) (fun i hi => by rw [lst_length] at hi; rw [lst_getD hi]; exact check1_ok _ ((h.bB i hi).mono (by omega))) (by rw [lst_length]; exact Nat.le_trans (cb 1) (by decide))) ?_
      refine SCond.mk (fun h => by cases h) (fun _ => ?_)
      refine SWrap.i64z ((1 + 1 : Nat) : Int) (by omega) (by omega) ?_
      exact ⟨1 + 1, [0, 1], by decide, by decide, ⟨rfl, by simp, rfl, rfl, rfl, ⟨rfl, rfl, rfl, trivial⟩, ⟨rfl, rfl, trivial⟩⟩⟩
    · refine SCmp.yes (rfl) ?_
      refine SIdx.mk 2 _ rfl rfl ?_
      refine SCall.pure (none1_ok (m 2) (lst (cntH 6 n r) G) (fun i hi => by rw [lst_length] at hi; rw [lst_getD hi]; exact check1_ok _ ((h.bG i hi).mono (by omega))) (by rw [lst_length]; exact Nat.le_trans (cb 2) (by decide))) ?_
      refine SCond.mk (fun h => by cases h) (fun _ => ?_)
      refine SWrap.i64z ((2 + 1 : Nat) : Int) (by omega) (by omega) ?_
      exact ⟨2 + 1, [0, 1], by decide, by decide, ⟨rfl, by simp, rfl, rfl, rfl, ⟨rfl, rfl, rfl, trivial⟩, ⟨rfl, rfl, trivial⟩⟩⟩
    · refine SCmp.yes (rfl) ?_
      refine SIdx.mk 3 _ rfl rfl ?_
      refine SCall.pure (none1_ok (m 3) (lst (cntH 6 n r) H) (fun i hi => by rw [lst_length] at hi; rw [lst_getD hi]; exact check1_ok _ ((h.bH i hi).mono (by omega))) (by rw [lst_length]; exact Nat.le_trans (cb 3) (by decide))) ?_
      refine SCond.mk (fun h => by cases h) (fun _ => ?_)
      refine SWrap.i64z ((3 + 1 : Nat) : Int) (by omega) (by omega) ?_
      exact ⟨3 + 1, [0, 1], by decide, by decide, ⟨rfl, by simp, rfl, rfl, rfl, ⟨rfl, rfl, rfl, trivial⟩, ⟨rfl, rfl, trivial⟩⟩⟩
    · refine SCmp.no (rfl) ?_
      refine SZ.mk ((cntA 6 n : Nat) : Int) (by simp [lst]) ?_
      refine SLoop.mk Nat (fun i => ([(1, .bptr 0 0), (68, .p (ratsM (m 0) (lst (cntA 6 n) A))), (69, .p (.int .i64 ((cntA 6 n : Nat) : Int))), (70, .p (.int .i64 i))], [.box 59 [.p (.int .i64 ((6 : Nat) : Int)), .p (.int .i64 (n : Int)), .p (.int .i64 (r : Int)), .p (ratsM (m 0) (lst (cntA 6 n) A)), .p (ratsM (m 1) (lst (cntB 6 n) B)), .p (ratsM (m 2) (lst (cntH 6 n r) G)), .p (ratsM (m 3) (lst (cntH 6 n r) H))], .box 189 [.p (ratsM (m 0) (lst (cntA 6 n) A)), .p (ratsM (m 1) (lst (cntB 6 n) B)), .p (ratsM (m 2) (lst (cntH 6 n r) G)), .p (ratsM (m 3) (lst (cntH 6 n r) H))]]))
        (fun i => i ≤ cntA 6 n) (fun i => cntA 6 n - i) 0 [0, 1] (Nat.zero_le _) ⟨rfl, by simp, rfl, rfl, rfl, ⟨rfl, rfl, rfl, rfl, trivial⟩, ⟨rfl, rfl, trivial⟩⟩ ?_
      intro i hi
      have hi : i ≤ cntA 6 n := hi
      have cA := cb 0
      by_cases hia : i < cntA 6 n
      · refine SCmp.yes (decide_eq_true (by omega)) ?_
        refine SIdx.rf i rfl hia ?_
        have hz := (h.bA i hia).mono (show b ≤ c by omega)
        have hc2 := none2_ok (m 1) true (A i) (lst (cntB 6 n) B) (fun j hj => by
          rw [lst_length] at hj; rw [lst_getD hj]
          have := check2_ok true (A i) (B j) hz (h.bB j hj) (by omega)
          rw [decide_eq_false (h.ne i j hia hj)] at this
          exact this) (by rw [lst_length]; exact Nat.le_trans (cb 1) (by decide))
        refine SCall.pure (pvs := [ratsM (m 1) (lst (cntB 6 n) B), .fn 189 [.pel true (ratP (A i))]]) hc2 ?_
        refine SCond.mk (fun h => by cases h) (fun _ => ?_)
        refine SWrap.i64z ((i + 1 : Nat) : Int) (by omega) (by omega) ?_
        exact ⟨i + 1, [0, 1], hia, by show cntA 6 n - (i + 1) < cntA 6 n - i; omega, ⟨rfl, by simp, rfl, rfl, rfl, ⟨rfl, rfl, rfl, rfl, trivial⟩, ⟨rfl, rfl, trivial⟩⟩⟩
      · refine SCmp.no (decide_eq_false (by omega)) ?_
        exact SRet.pure (.p _ (.int _ _))
theorem gcheck7_ok (m : Nat → Bool) (n r : Nat) (A B G H : Nat → Rat) {b c : Nat} (h : Wf ⟨7, n, r, A, B, G, H⟩ b c) : CallP Try.prog 150 [genP m ⟨7, n, r, A, B, G, H⟩] (.p (.int .i64 0)) [] := by
  have n6 : n ≤ 6 := h.n6
  have n1 : 1 ≤ n := h.n1
  have r2 : r ≤ 2 := h.r2
  have hnr : n * r ≤ 12 := Nat.mul_le_mul n6 r2
  have hc4 := h.c4
  have hbc := h.bc
  have cc := cnt_le (k := 7) (r := r) n1 (show n ≤ 8 by omega) (show r ≤ 3 by omega)
  have cb : ∀ i : Nat, (if i = 0 then cntA 7 n else if i = 1 then cntB 7 n else cntH 7 n r) ≤ 24 := fun i => by split <;> (try split) <;> omega
  show CallP Try.prog 150 [.agg [.int .i64 ((7 : Nat) : Int), .int .i64 (n : Int), .int .i64 (r : Int), ratsM (m 0) (lst (cntA 7 n) A), ratsM (m 1) (lst (cntB 7 n) B), ratsM (m 2) (lst (cntH 7 n r) G), ratsM (m 3) (lst (cntH 7 n r) H)]] (.p (.int .i64 0)) []
  refine callG_of_vc (wr := wr0) Γok mixed Try.func150 (by kernel_rfl) rfl (by kernel_rfl) (le_of_ble rfl) (by simp) ?_
  refine SCmp.no (decide_eq_false (by omega)) ?_
  refine SCmp.no (decide_eq_false (by omega)) ?_
  refine SCall.pure (sized_ok m ⟨7, n, r, A, B, G, H⟩ h) ?_
  refine SCmp.no (rfl) ?_
  refine SCall.lent [genP m ⟨7, n, r, A, B, G, H⟩] _ rfl (genrows_ok m ⟨7, n, r, A, B, G, H⟩) ?_
  refine SCall.pure (counts_ok) ?_
  refine SLoop.mk Nat (fun i => ([(1, .bptr 0 0), (3, .bptr 1 0), (4, .p (.mp false cntM)), (28, .p (.agg [ratsM (m 0) (lst (cntA 7 n) A), ratsM (m 1) (lst (cntB 7 n) B), ratsM (m 2) (lst (cntH 7 n r) G), ratsM (m 3) (lst (cntH 7 n r) H)])), (29, .p (.int .i64 i))], [.box 59 [.p (.int .i64 ((7 : Nat) : Int)), .p (.int .i64 (n : Int)), .p (.int .i64 (r : Int)), .p (ratsM (m 0) (lst (cntA 7 n) A)), .p (ratsM (m 1) (lst (cntB 7 n) B)), .p (ratsM (m 2) (lst (cntH 7 n r) G)), .p (ratsM (m 3) (lst (cntH 7 n r) H))], .box 189 [.p (ratsM (m 0) (lst (cntA 7 n) A)), .p (ratsM (m 1) (lst (cntB 7 n) B)), .p (ratsM (m 2) (lst (cntH 7 n r) G)), .p (ratsM (m 3) (lst (cntH 7 n r) H))]]))
    (fun i => i ≤ 4) (fun i => 4 - i) 0 [0, 1] (Nat.zero_le _) ⟨rfl, by simp, rfl, rfl, rfl, ⟨rfl, rfl, rfl, rfl, rfl, trivial⟩, ⟨rfl, rfl, trivial⟩⟩ ?_
  intro i hi
  have hi : i ≤ 4 := hi
  rcases (show i = 0 ∨ i = 1 ∨ i = 2 ∨ i = 3 ∨ i = 4 by omega) with rfl | rfl | rfl | rfl | rfl
  · refine SCmp.yes (rfl) ?_
    refine SIdx.mk 0 _ rfl rfl ?_
    refine SKeys.all rfl <| SGet.at 8 _ rfl rfl rfl ?_
    refine SZ.mk ((cntA 7 n : Nat) : Int) (by simp [lst]) ?_
    refine SPos.mk 0 rfl (by decide) ?_
    refine SWrap.i64z ((1 * n : Nat) : Int) (by omega) (by omega) ?_
    refine SPos.mk 1 rfl (by decide) ?_
    refine SWrap.i64z ((0 * n : Nat) : Int) (by omega) (by omega) ?_
    refine SWrap.i64z ((0 : Nat) : Int) (by simp) (by omega) ?_
    refine SWrap.i64z ((1 * n + 0 : Nat) : Int) (by omega) (by omega) ?_
    refine SPos.mk 2 rfl (by decide) ?_
    refine SWrap.i64z ((cntA 7 n : Nat) : Int) (by simp [cntA, cntB, cntH] <;> omega) (by have := cnt_le (k := 7) (r := r) n1 (show n ≤ 8 by omega) (show r ≤ 3 by omega); omega) ?_
    refine SCmp.no (neF rfl) ?_
    refine SWrap.i64z ((0 + 1 : Nat) : Int) (by omega) (by omega) ?_
    exact ⟨0 + 1, [0, 1], by decide, by decide, ⟨rfl, by simp, rfl, rfl, rfl, ⟨rfl, rfl, rfl, rfl, rfl, trivial⟩, ⟨rfl, rfl, trivial⟩⟩⟩
  · refine SCmp.yes (rfl) ?_
    refine SIdx.mk 1 _ rfl rfl ?_
    refine SKeys.all rfl <| SGet.at 9 _ rfl rfl rfl ?_
    refine SZ.mk ((cntB 7 n : Nat) : Int) (by simp [lst]) ?_
    refine SPos.mk 0 rfl (by decide) ?_
    refine SWrap.i64z ((1 * n : Nat) : Int) (by omega) (by omega) ?_
    refine SPos.mk 1 rfl (by decide) ?_
    refine SWrap.i64z ((0 * n : Nat) : Int) (by omega) (by omega) ?_
    refine SWrap.i64z ((0 : Nat) : Int) (by simp) (by omega) ?_
    refine SWrap.i64z ((1 * n + 0 : Nat) : Int) (by omega) (by omega) ?_
    refine SPos.mk 2 rfl (by decide) ?_
    refine SWrap.i64z ((cntB 7 n : Nat) : Int) (by simp [cntA, cntB, cntH] <;> omega) (by have := cnt_le (k := 7) (r := r) n1 (show n ≤ 8 by omega) (show r ≤ 3 by omega); omega) ?_
    refine SCmp.no (neF rfl) ?_
    refine SWrap.i64z ((1 + 1 : Nat) : Int) (by omega) (by omega) ?_
    exact ⟨1 + 1, [0, 1], by decide, by decide, ⟨rfl, by simp, rfl, rfl, rfl, ⟨rfl, rfl, rfl, rfl, rfl, trivial⟩, ⟨rfl, rfl, trivial⟩⟩⟩
  · refine SCmp.yes (rfl) ?_
    refine SIdx.mk 2 _ rfl rfl ?_
    refine SKeys.all rfl <| SGet.at 10 _ rfl rfl rfl ?_
    refine SZ.mk ((cntH 7 n r : Nat) : Int) (by simp [lst]) ?_
    refine SPos.mk 0 rfl (by decide) ?_
    refine SWrap.i64z ((0 * n : Nat) : Int) (by omega) (by omega) ?_
    refine SPos.mk 1 rfl (by decide) ?_
    refine SWrap.i64z ((1 * n : Nat) : Int) (by omega) (by omega) ?_
    refine SWrap.i64z ((n * r : Nat) : Int) (by rw [Int.natCast_mul]; simp) (by omega) ?_
    refine SWrap.i64z ((0 * n + n * r : Nat) : Int) (by omega) (by omega) ?_
    refine SPos.mk 2 rfl (by decide) ?_
    refine SWrap.i64z ((cntH 7 n r : Nat) : Int) (by simp [cntA, cntB, cntH] <;> omega) (by have := cnt_le (k := 7) (r := r) n1 (show n ≤ 8 by omega) (show r ≤ 3 by omega); omega) ?_
    refine SCmp.no (neF rfl) ?_
    refine SWrap.i64z ((2 + 1 : Nat) : Int) (by omega) (by omega) ?_
    exact ⟨2 + 1, [0, 1], by decide, by decide, ⟨rfl, by simp, rfl, rfl, rfl, ⟨rfl, rfl, rfl, rfl, rfl, trivial⟩, ⟨rfl, rfl, trivial⟩⟩⟩
  · refine SCmp.yes (rfl) ?_
    refine SIdx.mk 3 _ rfl rfl ?_
    refine SKeys.all rfl <| SGet.at 11 _ rfl rfl rfl ?_
    refine SZ.mk ((cntH 7 n r : Nat) : Int) (by simp [lst]) ?_
    refine SPos.mk 0 rfl (by decide) ?_
    refine SWrap.i64z ((0 * n : Nat) : Int) (by omega) (by omega) ?_
    refine SPos.mk 1 rfl (by decide) ?_
    refine SWrap.i64z ((1 * n : Nat) : Int) (by omega) (by omega) ?_
    refine SWrap.i64z ((n * r : Nat) : Int) (by rw [Int.natCast_mul]; simp) (by omega) ?_
    refine SWrap.i64z ((0 * n + n * r : Nat) : Int) (by omega) (by omega) ?_
    refine SPos.mk 2 rfl (by decide) ?_
    refine SWrap.i64z ((cntH 7 n r : Nat) : Int) (by simp [cntA, cntB, cntH] <;> omega) (by have := cnt_le (k := 7) (r := r) n1 (show n ≤ 8 by omega) (show r ≤ 3 by omega); omega) ?_
    refine SCmp.no (neF rfl) ?_
    refine SWrap.i64z ((3 + 1 : Nat) : Int) (by omega) (by omega) ?_
    exact ⟨3 + 1, [0, 1], by decide, by decide, ⟨rfl, by simp, rfl, rfl, rfl, ⟨rfl, rfl, rfl, rfl, rfl, trivial⟩, ⟨rfl, rfl, trivial⟩⟩⟩
  · refine SCmp.no (rfl) ?_
    refine SLoop.mk Nat (fun i => ([(1, .bptr 0 0), (60, .p (.agg [ratsM (m 0) (lst (cntA 7 n) A), ratsM (m 1) (lst (cntB 7 n) B), ratsM (m 2) (lst (cntH 7 n r) G), ratsM (m 3) (lst (cntH 7 n r) H)])), (61, .p (.int .i64 i))], [.box 59 [.p (.int .i64 ((7 : Nat) : Int)), .p (.int .i64 (n : Int)), .p (.int .i64 (r : Int)), .p (ratsM (m 0) (lst (cntA 7 n) A)), .p (ratsM (m 1) (lst (cntB 7 n) B)), .p (ratsM (m 2) (lst (cntH 7 n r) G)), .p (ratsM (m 3) (lst (cntH 7 n r) H))], .box 189 [.p (ratsM (m 0) (lst (cntA 7 n) A)), .p (ratsM (m 1) (lst (cntB 7 n) B)), .p (ratsM (m 2) (lst (cntH 7 n r) G)), .p (ratsM (m 3) (lst (cntH 7 n r) H))]]))
      (fun i => i ≤ 4) (fun i => 4 - i) 0 [0, 1] (Nat.zero_le _) ⟨rfl, by simp, rfl, rfl, rfl, ⟨rfl, rfl, rfl, trivial⟩, ⟨rfl, rfl, trivial⟩⟩ ?_
    intro i hi
    have hi : i ≤ 4 := hi
    rcases (show i = 0 ∨ i = 1 ∨ i = 2 ∨ i = 3 ∨ i = 4 by omega) with rfl | rfl | rfl | rfl | rfl
    · refine SCmp.yes (rfl) ?_
      refine SIdx.mk 0 _ rfl rfl ?_
      refine SCall.pure (none1_ok (m 0) (lst (cntA 7 n) A) (fun i hi => by rw [lst_length] at hi; rw [lst_getD hi]; exact check1_ok _ ((h.bA i hi).mono (by omega))) (by rw [lst_length]; exact Nat.le_trans (cb 0) (by decide))) ?_
      refine SCond.mk (fun h => by cases h) (fun _ => ?_)
      refine SWrap.i64z ((0 + 1 : Nat) : Int) (by omega) (by omega) ?_
      exact ⟨0 + 1, [0, 1], by decide, by decide, ⟨rfl, by simp, rfl, rfl, rfl, ⟨rfl, rfl, rfl, trivial⟩, ⟨rfl, rfl, trivial⟩⟩⟩
    · refine SCmp.yes (rfl) ?_
      refine SIdx.mk 1 _ rfl rfl ?_
      refine SCall.pure (none1_ok (m 1) (lst (cntB 7 n) B) (fun i hi => by rw [lst_length] at hi; rw [lst_getD hi]; exact check1_ok _ ((h.bB i hi).mono (by omega))) (by rw [lst_length]; exact Nat.le_trans (cb 1) (by decide))) ?_
      refine SCond.mk (fun h => by cases h) (fun _ => ?_)
      refine SWrap.i64z ((1 + 1 : Nat) : Int) (by omega) (by omega) ?_
      exact ⟨1 + 1, [0, 1], by decide, by decide, ⟨rfl, by simp, rfl, rfl, rfl, ⟨rfl, rfl, rfl, trivial⟩, ⟨rfl, rfl, trivial⟩⟩⟩
    · refine SCmp.yes (rfl) ?_
      refine SIdx.mk 2 _ rfl rfl ?_
      refine SCall.pure (none1_ok (m 2) (lst (cntH 7 n r) G) (fun i hi => by rw [lst_length] at hi; rw [lst_getD hi]; exact check1_ok _ ((h.bG i hi).mono (by omega))) (by rw [lst_length]; exact Nat.le_trans (cb 2) (by decide))) ?_
      refine SCond.mk (fun h => by cases h) (fun _ => ?_)
      refine SWrap.i64z ((2 + 1 : Nat) : Int) (by omega) (by omega) ?_
      exact ⟨2 + 1, [0, 1], by decide, by decide, ⟨rfl, by simp, rfl, rfl, rfl, ⟨rfl, rfl, rfl, trivial⟩, ⟨rfl, rfl, trivial⟩⟩⟩
    · refine SCmp.yes (rfl) ?_
      refine SIdx.mk 3 _ rfl rfl ?_
      refine SCall.pure (none1_ok (m 3) (lst (cntH 7 n r) H) (fun i hi => by rw [lst_length] at hi; rw [lst_getD hi]; exact check1_ok _ ((h.bH i hi).mono (by omega))) (by rw [lst_length]; exact Nat.le_trans (cb 3) (by decide))) ?_
      refine SCond.mk (fun h => by cases h) (fun _ => ?_)
      refine SWrap.i64z ((3 + 1 : Nat) : Int) (by omega) (by omega) ?_
      exact ⟨3 + 1, [0, 1], by decide, by decide, ⟨rfl, by simp, rfl, rfl, rfl, ⟨rfl, rfl, rfl, trivial⟩, ⟨rfl, rfl, trivial⟩⟩⟩
    · refine SCmp.no (rfl) ?_
      refine SZ.mk ((cntA 7 n : Nat) : Int) (by simp [lst]) ?_
      refine SLoop.mk Nat (fun i => ([(1, .bptr 0 0), (68, .p (ratsM (m 0) (lst (cntA 7 n) A))), (69, .p (.int .i64 ((cntA 7 n : Nat) : Int))), (70, .p (.int .i64 i))], [.box 59 [.p (.int .i64 ((7 : Nat) : Int)), .p (.int .i64 (n : Int)), .p (.int .i64 (r : Int)), .p (ratsM (m 0) (lst (cntA 7 n) A)), .p (ratsM (m 1) (lst (cntB 7 n) B)), .p (ratsM (m 2) (lst (cntH 7 n r) G)), .p (ratsM (m 3) (lst (cntH 7 n r) H))], .box 189 [.p (ratsM (m 0) (lst (cntA 7 n) A)), .p (ratsM (m 1) (lst (cntB 7 n) B)), .p (ratsM (m 2) (lst (cntH 7 n r) G)), .p (ratsM (m 3) (lst (cntH 7 n r) H))]]))
        (fun i => i ≤ cntA 7 n) (fun i => cntA 7 n - i) 0 [0, 1] (Nat.zero_le _) ⟨rfl, by simp, rfl, rfl, rfl, ⟨rfl, rfl, rfl, rfl, trivial⟩, ⟨rfl, rfl, trivial⟩⟩ ?_
      intro i hi
      have hi : i ≤ cntA 7 n := hi
      have cA := cb 0
      by_cases hia : i < cntA 7 n
      · refine SCmp.yes (decide_eq_true (by omega)) ?_
        refine SIdx.rf i rfl hia ?_
        have hz := (h.bA i hia).mono (show b ≤ c by omega)
        have hc2 := none2_ok (m 1) true (A i) (lst (cntB 7 n) B) (fun j hj => by
          rw [lst_length] at hj; rw [lst_getD hj]
          have := check2_ok true (A i) (B j) hz (h.bB j hj) (by omega)
          rw [decide_eq_false (h.ne i j hia hj)] at this
          exact this) (by rw [lst_length]; exact Nat.le_trans (cb 1) (by decide))
        refine SCall.pure (pvs := [ratsM (m 1) (lst (cntB 7 n) B), .fn 189 [.pel true (ratP (A i))]]) hc2 ?_
        refine SCond.mk (fun h => by cases h) (fun _ => ?_)
        refine SWrap.i64z ((i + 1 : Nat) : Int) (by omega) (by omega) ?_
        exact ⟨i + 1, [0, 1], hia, by show cntA 7 n - (i + 1) < cntA 7 n - i; omega, ⟨rfl, by simp, rfl, rfl, rfl, ⟨rfl, rfl, rfl, rfl, trivial⟩, ⟨rfl, rfl, trivial⟩⟩⟩
      · refine SCmp.no (decide_eq_false (by omega)) ?_
        exact SRet.pure (.p _ (.int _ _))
theorem gcheck_ok (m : Nat → Bool) (g : GV) {b c : Nat} (h : Wf g b c) : CallP Try.prog 150 [genP m g] (.p (.int .i64 0)) [] := by
  obtain ⟨k, n, r, A, B, G, H⟩ := g
  rcases k_cases h.k1 h.k7 with e | e | e | e | e | e | e <;> (have e : k = _ := e; subst e)
  · exact gcheck1_ok m n r A B G H h
  · exact gcheck2_ok m n r A B G H h
  · exact gcheck3_ok m n r A B G H h
  · exact gcheck4_ok m n r A B G H h
  · exact gcheck5_ok m n r A B G H h
  · exact gcheck6_ok m n r A B G H h
  · exact gcheck7_ok m n r A B G H h
end Go.Proofs.Ytkaooejeljdbnaa

namespace Go.Proofs.Ytkaooejeljdbnaa
open Go
set_option linter.unusedVariables false
set_option linter.unusedSimpArgs false
set_option maxRecDepth 10000
theorem ratP_one' : ratP 1 = .agg [.bool false, natP 1, natP 1] := rfl
theorem gzero_ok : CallP Try.prog 191 [] (.p (ratP 0)) [] := by
  refine callG_of_vc (wr := wr0) Γok mixed Try.func191 (by kernel_rfl) rfl (by kernel_rfl) (le_of_ble rfl) (by simp) ?_
  refine SRet.pure ?_
  rw [ratP_zero]
  exact conv3 ⟨rfl, rfl, rfl⟩ (.p _ (.bool _)) (.p _ (.sl _ _ (fun e he => by simp at he))) (frz1 rfl)
theorem gone_ok : CallP Try.prog 194 [] (.p (ratP 1)) [] := by
  refine callG_of_vc (wr := wr0) Γok mixed Try.func194 (by kernel_rfl) rfl (by kernel_rfl) (le_of_ble rfl) (by simp) ?_
  refine SRet.pure ?_
  rw [ratP_one']
  exact conv3 ⟨rfl, rfl, rfl⟩ (.p _ (.bool _)) (frz1 rfl) (frz1 rfl)
theorem gdot_ok (m : Nat → Bool) (g : GV) {b c : Nat} (h : Wf g b c) (hk : g.k = 6 ∨ g.k = 7) (i j : Nat) (hi : i < g.n) (hj : j < g.n) :
    CallP Try.prog 195 [genP m g, .int .i64 i, .int .i64 j] (.p (ratP (rowS g i j))) [] := by
  have h8 := h.n6
  have h2 := h.r2
  have h4 := h.c4
  have h5 := h.bc
  have hlh := h.lh hk
  have zP := h.prod hk hi hj
  have zS := sm_bz' zP
  have i0 : i * g.r ≤ 16 := Nat.mul_le_mul (show i ≤ 8 by omega) h2
  have j0 : j * g.r ≤ 16 := Nat.mul_le_mul (show j ≤ 8 by omega) h2
  have ic : ((i * g.r : Nat) : Int) = (i : Int) * (g.r : Int) := Int.natCast_mul i g.r
  have jc : ((j * g.r : Nat) : Int) = (j : Int) * (g.r : Int) := Int.natCast_mul j g.r
  refine callG_of_vc (wr := wr0) Γok mixed Try.func195 (by kernel_rfl) rfl (by kernel_rfl) (le_of_ble rfl) (by simp) ?_
  refine SCall.pure (gzero_ok) ?_
  refine SLoop.mk Nat (fun t => ([(1, .p (.int .i64 i)), (2, .p (.int .i64 j)), (3, .bptr 0 0), (6, .bptr 1 0), (7, .bptr 2 0), (11, .p (.int .i64 g.r)), (12, .p (.int .i64 t))], [.box 59 (genA m g), .box 37 zratA, .box 37 (bxQ (sm t fun t => g.G (i * g.r + t) * g.H (j * g.r + t)))]))
    (fun t => t ≤ g.r) (fun t => g.r - t) 0 [0, 1, 2] (Nat.zero_le _) ⟨rfl, by simp, rfl, rfl, rfl, ⟨rfl, rfl, rfl, rfl, rfl, rfl, rfl, trivial⟩, ⟨rfl, rfl, rfl, trivial⟩⟩ ?_
  intro t ht
  have ht : t ≤ g.r := ht
  by_cases htr : t < g.r
  · refine SCmp.yes (decide_eq_true (by omega)) ?_
    have l1 := row_lt hi htr
    have l2 := row_lt hj htr
    have lt : t * (2 * b + 1) ≤ 2 * (2 * b + 1) := Nat.mul_le_mul_right _ (by omega)
    refine SDraw.mkX (by kernel_rfl) ?_
    repeat refine SOp.mk _ _ (And.intro rfl rfl) rfl ?_
    refine SOp.mk _ _ (SWrap.i64z ((i * g.r : Nat) : Int) (by omega) (by omega) (And.intro rfl rfl)) rfl ?_
    repeat refine SOp.mk _ _ (And.intro rfl rfl) rfl ?_
    refine SOp.mk _ _ (SWrap.i64z ((i * g.r + t : Nat) : Int) (by omega) (by omega) (And.intro rfl rfl)) rfl ?_
    refine SOp.mk _ _ (SIdx.rf (i * g.r + t) rfl (by omega) (And.intro rfl rfl)) rfl ?_
    repeat refine SOp.mk _ _ (And.intro rfl rfl) rfl ?_
    refine SOp.mk _ _ (SWrap.i64z ((j * g.r : Nat) : Int) (by omega) (by omega) (And.intro rfl rfl)) rfl ?_
    repeat refine SOp.mk _ _ (And.intro rfl rfl) rfl ?_
    refine SOp.mk _ _ (SWrap.i64z ((j * g.r + t : Nat) : Int) (by omega) (by omega) (And.intro rfl rfl)) rfl ?_
    refine SOp.mk _ _ (SIdx.rf (j * g.r + t) rfl (by omega) (And.intro rfl rfl)) rfl ?_
    repeat refine SOp.mk _ _ (And.intro rfl rfl) rfl ?_
    refine SOp.mk _ _ (SCall.pure (ratmul_ok _ _ (h.bG _ (by omega)).sz (h.bH _ (by omega)).sz (by omega)) (And.intro rfl rfl)) rfl ?_
    refine SOp.mk _ _ (SCall.pure (ratadd_ok _ _ (zS t ht).sz (zP t htr).sz (by omega)) (And.intro rfl rfl)) rfl ?_
    repeat refine SOp.mk _ _ (And.intro rfl rfl) rfl ?_
    refine SFin.mk (by kernel_rfl) ?_
    refine SWrap.i64z ((t + 1 : Nat) : Int) (by omega) (by omega) ?_
    exact ⟨t + 1, [0, 1, 2], htr, by show g.r - (t + 1) < g.r - t; omega, ⟨rfl, by simp, rfl, rfl, rfl, ⟨rfl, rfl, rfl, rfl, rfl, rfl, rfl, trivial⟩, ⟨rfl, rfl, rfl, trivial⟩⟩⟩
  · refine SCmp.no (decide_eq_false (by omega)) ?_
    obtain rfl : t = g.r := by omega
    exact SRet.pure (.p _ (pers_rat _ _ _))
theorem gover_ok (m : Nat → Bool) (g : GV) {b c : Nat} (h : Wf g b c) (a : Rat) {d : Nat} (ha : Bz a d) (hd : d ≤ 1000) (hk : g.k = 5 ∨ g.k = 7) (i j : Nat) (hi : i < g.n) (hj : j < g.n) :
    CallP Try.prog 193 [genP m g, ratP a, .int .i64 i, .int .i64 j] (.p (ratP (a / (g.A i - g.B j)))) [] := by
  have h4 := h.c4
  have h5 := h.bc
  have hl := h.la3 (by omega)
  have hl2 := h.lb5 hk
  have hdf := h.dif (i := i) (j := j) (by omega) (by omega)
  refine callG_of_vc (wr := wr0) Γok mixed Try.func193 (by kernel_rfl) rfl (by kernel_rfl) (le_of_ble rfl) (by simp) ?_
  refine SDraw.mkX (by kernel_rfl) ?_
  repeat refine SOp.mk _ _ (And.intro rfl rfl) rfl ?_
  refine SOp.mk _ _ (SIdx.rf i rfl (by omega) (And.intro rfl rfl)) rfl ?_
  repeat refine SOp.mk _ _ (And.intro rfl rfl) rfl ?_
  refine SOp.mk _ _ (SIdx.rf j rfl (by omega) (And.intro rfl rfl)) rfl ?_
  repeat refine SOp.mk _ _ (And.intro rfl rfl) rfl ?_
  refine SOp.mk _ _ (SCall.pure (ratsub_ok _ _ (h.bA i (by omega)).sz (h.bB j (by omega)).sz (by omega)) (And.intro rfl rfl)) rfl ?_
  refine SOp.mk _ _ (SCall.pureT (quo_ok a _ hdf.2 ha.sz hdf.1.sz (by omega)) (fun _ => rfl) (And.intro rfl rfl)) rfl ?_
  repeat refine SOp.mk _ _ (And.intro rfl rfl) rfl ?_
  refine SFin.mk (by kernel_rfl) ?_
  exact SRet.pure (.p _ (pers_rat _ _ _))
theorem gpower_ok (a : Rat) {b : Nat} (ha : Bz a b) (hb : b ≤ 100) (j : Nat) (hj : j ≤ 8) : CallP Try.prog 192 [ratP a, .int .i64 j] (.p (ratP (a ^ j))) [] := by
  refine callG_of_vc (wr := wr0) Γok mixed Try.func192 (by kernel_rfl) rfl (by kernel_rfl) (le_of_ble rfl) (by simp) ?_
  refine SCall.pure (gone_ok) ?_
  refine SLoop.mk (Nat × Rat) (fun (t, q) => ([(2, .bptr 0 0), (4, .bptr 1 0), (5, .bptr 2 0), (7, .p (.int .i64 j)), (8, .p (.int .i64 t))], [.box 37 (bxQ a), .box 37 zratA, .box 37 (bxQ q)]))
    (fun (t, q) => t ≤ j ∧ q = a ^ t) (fun x => j - x.1) (0, 1) [0, 1, 2] ⟨Nat.zero_le _, (Rat.pow_zero _).symm⟩ ⟨rfl, by simp, rfl, rfl, rfl, ⟨rfl, rfl, rfl, rfl, rfl, trivial⟩, ⟨rfl, rfl, rfl, trivial⟩⟩ ?_
  intro ⟨t, q⟩ ⟨ht, hq⟩
  by_cases htj : t < j
  · refine SCmp.yes (decide_eq_true (by omega)) ?_
    have zq : Bz q (b * t + 1) := by rw [hq]; exact bz_pow ha t
    have hbt : b * t ≤ b * 8 := Nat.mul_le_mul_left _ (by omega)
    refine SCall.pure (ratmul_ok _ _ zq.sz ha.sz (by omega)) ?_
    refine SWrap.i64z ((t + 1 : Nat) : Int) (by omega) (by omega) ?_
    exact ⟨(t + 1, q * a), [0, 1, 2], ⟨htj, by rw [hq, Rat.pow_succ]⟩, by show j - (t + 1) < j - t; omega, ⟨rfl, by simp, rfl, rfl, rfl, ⟨rfl, rfl, rfl, rfl, rfl, trivial⟩, ⟨rfl, rfl, rfl, trivial⟩⟩⟩
  · refine SCmp.no (decide_eq_false (by omega)) ?_
    obtain rfl : t = j := by omega
    rw [← hq]
    exact SRet.pure (.p _ (pers_rat _ _ _))
end Go.Proofs.Ytkaooejeljdbnaa

namespace Go.Proofs.Ytkaooejeljdbnaa
open Go
set_option linter.unusedVariables false
set_option linter.unusedSimpArgs false
set_option maxRecDepth 10000
theorem gcopy_ok {q : Rat} {k : Nat} (h : Bz q k) (hk : k ≤ 1000000) : CallP Try.prog 75 [ratP q, ratP 0] (.p (ratP q)) [] := by
  have := ratadd_ok q 0 h.sz bz_zero.sz (by omega)
  rw [Rat.add_zero] at this; exact this
theorem gentry_ok (m : Nat → Bool) (g : GV) {b c : Nat} (h : Wf g b c) (i j : Nat) (hi : i < g.n) (hj : j < g.n) :
    CallP Try.prog 154 [genP m g, .int .i64 i, .int .i64 j] (.p (ratP (ent g i j))) [] := by
  have h8 := h.n6
  have h2 := h.r2
  have h4 := h.c4
  have h5 := h.bc
  rcases k_cases h.k1 h.k7 with e | e | e | e | e | e | e
  · have hl := h.la12 (.inl e)
    have hE : ent g i j = g.A (i + g.n - 1 - j) := by unfold ent; rw [if_pos e]
    rw [hE]
    refine callG_of_vc (wr := wr0) Γok mixed Try.func154 (by kernel_rfl) rfl (by kernel_rfl) (le_of_ble rfl) (by simp) ?_
    refine SCmp.yes (decide_eq_true (by omega)) ?_
    refine SDraw.mkX (by kernel_rfl) ?_
    repeat refine SOp.mk _ _ (And.intro rfl rfl) rfl ?_
    refine SOp.mk _ _ (SWrap.i64z ((i : Int) - j) rfl (by omega) (And.intro rfl rfl)) rfl ?_
    repeat refine SOp.mk _ _ (And.intro rfl rfl) rfl ?_
    refine SOp.mk _ _ (SWrap.i64z ((i + g.n - j : Nat) : Int) (by omega) (by omega) (And.intro rfl rfl)) rfl ?_
    refine SOp.mk _ _ (SWrap.i64z ((i + g.n - 1 - j : Nat) : Int) (by omega) (by omega) (And.intro rfl rfl)) rfl ?_
    refine SOp.mk _ _ (SIdx.rf (i + g.n - 1 - j) rfl (by omega) (And.intro rfl rfl)) rfl ?_
    repeat refine SOp.mk _ _ (And.intro rfl rfl) rfl ?_
    refine SOp.mk _ _ (SCall.pure (gzero_ok) (And.intro rfl rfl)) rfl ?_
    refine SOp.mk _ _ (SCall.pure (gcopy_ok (h.bA (i + g.n - 1 - j) (by omega)) (by omega)) (And.intro rfl rfl)) rfl ?_
    repeat refine SOp.mk _ _ (And.intro rfl rfl) rfl ?_
    refine SFin.mk (by kernel_rfl) ?_
    exact SRet.pure (.p _ (pers_rat _ _ _))
  · have hl := h.la12 (.inr e)
    have hE : ent g i j = g.A (i + j) := by unfold ent; rw [if_neg (by omega), if_pos e]
    rw [hE]
    refine callG_of_vc (wr := wr0) Γok mixed Try.func154 (by kernel_rfl) rfl (by kernel_rfl) (le_of_ble rfl) (by simp) ?_
    refine SCmp.no (decide_eq_false (by omega)) ?_
    refine SCmp.yes (decide_eq_true (by omega)) ?_
    refine SDraw.mkX (by kernel_rfl) ?_
    repeat refine SOp.mk _ _ (And.intro rfl rfl) rfl ?_
    refine SOp.mk _ _ (SWrap.i64z ((i + j : Nat) : Int) (by omega) (by omega) (And.intro rfl rfl)) rfl ?_
    refine SOp.mk _ _ (SIdx.rf (i + j) rfl (by omega) (And.intro rfl rfl)) rfl ?_
    repeat refine SOp.mk _ _ (And.intro rfl rfl) rfl ?_
    refine SOp.mk _ _ (SCall.pure (gzero_ok) (And.intro rfl rfl)) rfl ?_
    refine SOp.mk _ _ (SCall.pure (gcopy_ok (h.bA (i + j) (by omega)) (by omega)) (And.intro rfl rfl)) rfl ?_
    repeat refine SOp.mk _ _ (And.intro rfl rfl) rfl ?_
    refine SFin.mk (by kernel_rfl) ?_
    exact SRet.pure (.p _ (pers_rat _ _ _))
  · have hl := h.la3 (by omega)
    have hE : ent g i j = g.A ((i + g.n - j) % g.n) := by unfold ent; rw [if_neg (by omega), if_neg (by omega), if_pos e]
    have hm : (i + g.n - j) % g.n < g.n := Nat.mod_lt _ (by omega)
    rw [hE]
    refine callG_of_vc (wr := wr0) Γok mixed Try.func154 (by kernel_rfl) rfl (by kernel_rfl) (le_of_ble rfl) (by simp) ?_
    refine SCmp.no (decide_eq_false (by omega)) ?_
    refine SCmp.no (decide_eq_false (by omega)) ?_
    refine SCmp.yes (decide_eq_true (by omega)) ?_
    refine SDraw.mkX (by kernel_rfl) ?_
    repeat refine SOp.mk _ _ (And.intro rfl rfl) rfl ?_
    refine SOp.mk _ _ (SWrap.i64z ((i : Int) - j) rfl (by omega) (And.intro rfl rfl)) rfl ?_
    repeat refine SOp.mk _ _ (And.intro rfl rfl) rfl ?_
    refine SOp.mk _ _ (SWrap.i64z ((i + g.n - j : Nat) : Int) (by omega) (by omega) (And.intro rfl rfl)) rfl ?_
    repeat refine SOp.mk _ _ (And.intro rfl rfl) rfl ?_
    refine SOp.mk _ _ (SRem (b := g.n) (by omega) rfl (And.intro rfl rfl)) rfl ?_
    refine SOp.mk _ _ (SIdx.rf ((i + g.n - j) % g.n) rfl (by omega) (And.intro rfl rfl)) rfl ?_
    repeat refine SOp.mk _ _ (And.intro rfl rfl) rfl ?_
    refine SOp.mk _ _ (SCall.pure (gzero_ok) (And.intro rfl rfl)) rfl ?_
    refine SOp.mk _ _ (SCall.pure (gcopy_ok (h.bA ((i + g.n - j) % g.n) (by omega)) (by omega)) (And.intro rfl rfl)) rfl ?_
    repeat refine SOp.mk _ _ (And.intro rfl rfl) rfl ?_
    refine SFin.mk (by kernel_rfl) ?_
    exact SRet.pure (.p _ (pers_rat _ _ _))
  · have hl := h.la3 (by omega)
    have hE : ent g i j = g.A i ^ j := by unfold ent; rw [if_neg (by omega), if_neg (by omega), if_neg (by omega), if_pos e]
    rw [hE]
    refine callG_of_vc (wr := wr0) Γok mixed Try.func154 (by kernel_rfl) rfl (by kernel_rfl) (le_of_ble rfl) (by simp) ?_
    refine SCmp.no (decide_eq_false (by omega)) ?_
    refine SCmp.no (decide_eq_false (by omega)) ?_
    refine SCmp.no (decide_eq_false (by omega)) ?_
    refine SCmp.yes (decide_eq_true (by omega)) ?_
    refine SIdx.rf i rfl (by omega) ?_
    refine SCall.pure (gpower_ok _ (h.bA i (by omega)) (by omega) j (by omega)) ?_
    exact SRet.pure (.p _ (pers_rat _ _ _))
  · have hE : ent g i j = 1 / (g.A i - g.B j) := by unfold ent; rw [if_neg (by omega), if_neg (by omega), if_neg (by omega), if_neg (by omega), if_pos e]
    rw [hE]
    refine callG_of_vc (wr := wr0) Γok mixed Try.func154 (by kernel_rfl) rfl (by kernel_rfl) (le_of_ble rfl) (by simp) ?_
    refine SCmp.no (decide_eq_false (by omega)) ?_
    refine SCmp.no (decide_eq_false (by omega)) ?_
    refine SCmp.no (decide_eq_false (by omega)) ?_
    refine SCmp.no (decide_eq_false (by omega)) ?_
    refine SCmp.yes (decide_eq_true (by omega)) ?_
    refine SDraw.mkX (by kernel_rfl) ?_
    repeat refine SOp.mk _ _ (And.intro rfl rfl) rfl ?_
    refine SOp.mk _ _ (SCall.pure (gone_ok) (And.intro rfl rfl)) rfl ?_
    repeat refine SOp.mk _ _ (And.intro rfl rfl) rfl ?_
    refine SOp.mk _ _ (SCall.pure (gover_ok m g h 1 bz_one (by omega) (.inl e) i j hi hj) (And.intro rfl rfl)) rfl ?_
    repeat refine SOp.mk _ _ (And.intro rfl rfl) rfl ?_
    refine SFin.mk (by kernel_rfl) ?_
    exact SRet.pure (.p _ (pers_rat _ _ _))
  · have hE : ent g i j = sm (min i j + 1) fun m => rowS g (i - m) (j - m) := by unfold ent; rw [if_neg (by omega), if_neg (by omega), if_neg (by omega), if_neg (by omega), if_neg (by omega), if_pos e]
    rw [hE]
    have zS := h.bSum (.inl e) hi hj
    refine callG_of_vc (wr := wr0) Γok mixed Try.func154 (by kernel_rfl) rfl (by kernel_rfl) (le_of_ble rfl) (by simp) ?_
    refine SCmp.no (decide_eq_false (by omega)) ?_
    refine SCmp.no (decide_eq_false (by omega)) ?_
    refine SCmp.no (decide_eq_false (by omega)) ?_
    refine SCmp.no (decide_eq_false (by omega)) ?_
    refine SCmp.no (decide_eq_false (by omega)) ?_
    refine SCmp.no (decide_eq_false (by omega)) ?_
    refine SCall.pure (gzero_ok) ?_
    refine SLoop.mk Nat (fun t => ([(1, .p (.int .i64 i)), (2, .p (.int .i64 j)), (3, .bptr 0 0), (6, .bptr 1 0), (7, .bptr 2 0), (8, .p (.int .i64 t))], [.box 59 (genA m g), .box 37 zratA, .box 37 (bxQ (sm t fun m => rowS g (i - m) (j - m)))]))
      (fun t => t ≤ min i j + 1) (fun t => min i j + 1 - t) 0 [0, 1, 2] (Nat.zero_le _) ⟨rfl, by simp, rfl, rfl, rfl, ⟨rfl, rfl, rfl, rfl, rfl, rfl, trivial⟩, ⟨rfl, rfl, rfl, trivial⟩⟩ ?_
    intro t ht
    have ht : t ≤ min i j + 1 := ht
    refine SZ.mk ((min i j : Nat) : Int) (by show (if (j : Int) < (i : Int) then (j : Int) else (i : Int)) = _; split <;> omega) ?_
    by_cases htj : t < min i j + 1
    · refine SCmp.yes (decide_eq_true (by omega)) ?_
      have lt : t * (2 * (2 * b + 1) + 1 + 1) ≤ 6 * (2 * (2 * b + 1) + 1 + 1) := Nat.mul_le_mul_right _ (by omega)
      refine SDraw.mkX (by kernel_rfl) ?_
      repeat refine SOp.mk _ _ (And.intro rfl rfl) rfl ?_
      refine SOp.mk _ _ (SWrap.i64z ((i - t : Nat) : Int) (by omega) (by omega) (And.intro rfl rfl)) rfl ?_
      repeat refine SOp.mk _ _ (And.intro rfl rfl) rfl ?_
      refine SOp.mk _ _ (SWrap.i64z ((j - t : Nat) : Int) (by omega) (by omega) (And.intro rfl rfl)) rfl ?_
      refine SOp.mk _ _ (SCall.pure (gdot_ok m g h (.inl e) (i - t) (j - t) (by omega) (by omega)) (And.intro rfl rfl)) rfl ?_
      refine SOp.mk _ _ (SCall.pure (ratadd_ok _ _ (zS t ht).sz (h.bRow (.inl e) (i := i - t) (j := j - t) (by omega) (by omega)).sz (by omega)) (And.intro rfl rfl)) rfl ?_
      repeat refine SOp.mk _ _ (And.intro rfl rfl) rfl ?_
      refine SFin.mk (by kernel_rfl) ?_
      refine SWrap.i64z ((t + 1 : Nat) : Int) (by omega) (by omega) ?_
      exact ⟨t + 1, [0, 1, 2], htj, by show min i j + 1 - (t + 1) < min i j + 1 - t; omega, ⟨rfl, by simp, rfl, rfl, rfl, ⟨rfl, rfl, rfl, rfl, rfl, rfl, trivial⟩, ⟨rfl, rfl, rfl, trivial⟩⟩⟩
    · refine SCmp.no (decide_eq_false (by omega)) ?_
      obtain rfl : t = min i j + 1 := by omega
      exact SRet.pure (.p _ (pers_rat _ _ _))
  · have hE : ent g i j = rowS g i j / (g.A i - g.B j) := by unfold ent; rw [if_neg (by omega), if_neg (by omega), if_neg (by omega), if_neg (by omega), if_neg (by omega), if_neg (by omega)]
    rw [hE]
    refine callG_of_vc (wr := wr0) Γok mixed Try.func154 (by kernel_rfl) rfl (by kernel_rfl) (le_of_ble rfl) (by simp) ?_
    refine SCmp.no (decide_eq_false (by omega)) ?_
    refine SCmp.no (decide_eq_false (by omega)) ?_
    refine SCmp.no (decide_eq_false (by omega)) ?_
    refine SCmp.no (decide_eq_false (by omega)) ?_
    refine SCmp.no (decide_eq_false (by omega)) ?_
    refine SCmp.yes (decide_eq_true (by omega)) ?_
    refine SDraw.mkX (by kernel_rfl) ?_
    repeat refine SOp.mk _ _ (And.intro rfl rfl) rfl ?_
    refine SOp.mk _ _ (SCall.pure (gdot_ok m g h (.inr e) i j hi hj) (And.intro rfl rfl)) rfl ?_
    repeat refine SOp.mk _ _ (And.intro rfl rfl) rfl ?_
    refine SOp.mk _ _ (SCall.pure (gover_ok m g h (rowS g i j) (h.bRow (.inr e) hi hj) (by omega) (.inr e) i j hi hj) (And.intro rfl rfl)) rfl ?_
    repeat refine SOp.mk _ _ (And.intro rfl rfl) rfl ?_
    refine SFin.mk (by kernel_rfl) ?_
    exact SRet.pure (.p _ (pers_rat _ _ _))
end Go.Proofs.Ytkaooejeljdbnaa

namespace Go.Proofs.Ytkaooejeljdbnaa
open Go
set_option linter.unusedVariables false
set_option linter.unusedSimpArgs false
abbrev half (p c n k : Nat) : List AV := fl n fun i => if i < k then .vec (.r p i) 3 0 c else .emp
abbrev halq (p c n k q : Nat) : List AV := fl n fun i => if i < k then .vec (.r p i) 3 0 c else if i = k then .vec (.t q) 3 0 c else .emp
theorem half_full {p c n : Nat} : half p c n n = plc p c n id := fl_congr fun i hi => if_pos hi
theorem half_set {p c n k q : Nat} : (half p c n k).set k (.vec (.t q) 3 0 c) = halq p c n k q := by
  rw [fl_set]
  refine fl_congr fun i _ => ?_
  unfold upd
  by_cases e : i = k
  · rw [if_pos e, if_neg (by omega), if_pos e]
  · rw [if_neg e]
    show (if i < k then AV.vec (.r p i) 3 0 c else .emp) = _
    by_cases e2 : i < k
    · rw [if_pos e2, if_pos e2]
    · rw [if_neg e2, if_neg e2, if_neg e]
theorem halq_get {p c n k q : Nat} (h : k < n) : (halq p c n k q)[k]? = some (.vec (.t q) 3 0 c) := by
  rw [fl_get h, if_neg (Nat.lt_irrefl k), if_pos rfl]
theorem halq_ren {hs : List Nat} {P : Hp} {p c n k q : Nat} (p' q' : Nat) (hp : hs.getD p 0 = p') (hp' : p' < 1000) (hq : hs.getD q 0 = q') (hq' : q' < 1000) : AV.renL (renW hs P) (halq p c n k q) = halq p' c n k q' := by
  rw [renL_fl]
  refine fl_congr fun i hi => ?_
  have eb : Nat.blt p' 1000 = true := blt_iff.2 hp'
  have ec : Nat.blt q' 1000 = true := blt_iff.2 hq'
  by_cases e : i < k
  · rw [if_pos e, if_pos e]; simp only [AV.ren, renW, hp, eb, cond_true]
  · rw [if_neg e, if_neg e]
    by_cases e2 : i = k
    · rw [if_pos e2, if_pos e2]; simp only [AV.ren, renW, hq, ec, cond_true]; rw [show ptop q' = q' from Nat.mod_eq_of_lt hq']
    · rw [if_neg e2, if_neg e2]; simp only [AV.ren]
/-- The pool takes in the row that is filled. -/
theorem half_absorb {hs : List Nat} {P : Hp} {p p' q c n k : Nat} (hp : hs.getD p 0 = p' + 1000 * (q + 1)) (hp' : p' < 1000) (hl : plenAt P p = k + 1) : AV.renL (renW hs P) (half p c n (k + 1)) = halq p' c n k q := by
  rw [renL_fl]
  have eb : Nat.blt (hs.getD p 0) 1000 = false := by
    cases hb : Nat.blt (hs.getD p 0) 1000 with
    | false => rfl
    | true => have := blt_iff.1 hb; omega
  have e1 : hs.getD p 0 % 1000 = p' := by omega
  have e2 : hs.getD p 0 / 1000 - 1 = q := by omega
  refine fl_congr fun i hi => ?_
  by_cases h1 : i < k
  · have e4 : Nat.blt (i + 1) (k + 1) = true := blt_iff.2 (by omega)
    rw [if_pos (by omega), if_pos h1]
    simp only [AV.ren, renW, eb, hl, e4, cond_false, cond_true, e1]
  · by_cases h2 : i = k
    · have e4 : Nat.blt (i + 1) (k + 1) = false := by
        cases hb : Nat.blt (i + 1) (k + 1) with
        | false => rfl
        | true => have := blt_iff.1 hb; omega
      rw [if_pos (by omega), if_neg h1, if_pos h2]
      simp only [AV.ren, renW, eb, hl, e4, cond_false, e2]
    · rw [if_neg (by omega), if_neg h1, if_neg h2]; simp only [AV.ren]
theorem half_in {P : Hp} {p c n k : Nat} (h : ∀ i, i < k → i < plenAt P p) : ∀ x ∈ half p c n k, ∀ h, x.men h → look P h ≠ .free := by
  intro x hx g hg
  obtain ⟨i, hi, rfl⟩ := fl_mem hx
  by_cases e : i < k
  · rw [if_pos e] at hg
    simp only [AV.men] at hg
    subst hg
    exact look_row (h i e)
  · rw [if_neg e] at hg; exact hg.elim
theorem halq_in {P : Hp} {p c n k q : Nat} (h : ∀ i, i < k → i < plenAt P p) (hq : look P (.t q) ≠ .free) : ∀ x ∈ halq p c n k q, ∀ h, x.men h → look P h ≠ .free := by
  intro x hx g hg
  obtain ⟨i, hi, rfl⟩ := fl_mem hx
  by_cases e : i < k
  · rw [if_pos e] at hg
    simp only [AV.men] at hg
    subst hg
    exact look_row (h i e)
  · rw [if_neg e] at hg
    by_cases e2 : i = k
    · rw [if_pos e2] at hg
      simp only [AV.men] at hg
      subst hg; exact hq
    · rw [if_neg e2] at hg; exact hg.elim
theorem half_ren0 {ρ : Hd → Hd} {p c n : Nat} : AV.renL ρ (half p c n 0) = List.replicate n .emp := by
  rw [renL_fl, replicate_fl]
  refine fl_congr fun i _ => ?_
  rw [if_neg (Nat.not_lt_zero i)]; simp only [AV.ren]
end Go.Proofs.Ytkaooejeljdbnaa

namespace Go.Proofs.Ytkaooejeljdbnaa
open Go
set_option linter.unusedVariables false
set_option linter.unusedSimpArgs false
set_option maxRecDepth 10000
theorem row_step {n j : Nat} {f : Nat → Rat} (h : j < n) : (fl n fun k => if k < j then ratP (f k) else rat0).set (j + 0) (ratP (f j)) = fl n fun k => if k < j + 1 then ratP (f k) else rat0 := by
  rw [fl_set]
  refine fl_congr fun k hk => ?_
  simp only [upd, Nat.add_zero]
  by_cases e : k = j
  · rw [if_pos e, if_pos (by omega), e]
  · rw [if_neg e]
    by_cases e2 : k < j
    · rw [if_pos e2, if_pos (by omega)]
    · rw [if_neg e2, if_neg (by omega)]
theorem row_full {n : Nat} {f : Nat → Rat} : rats (lst n f) = fl n fun k => if k < n then ratP (f k) else rat0 := by
  rw [rats, lst_fl, fl_map]; exact fl_congr fun k hk => (if_pos hk).symm
theorem gexpand_ok (m : Nat → Bool) (g : GV) {b c : Nat} (h : Wf g b c) : CallP Try.prog 105 [genP m g] (.p (matP false false g.n g.n (ent g))) [] := by
  have h6 := h.n6
  have n1 := h.n1
  refine callG_of_vc (wr := wr0) Γok mixed Try.func105 (by kernel_rfl) rfl (by kernel_rfl) (le_of_ble rfl) (by simp) ?_
  refine SCall.pure (gcheck_ok m g h) ?_
  refine SCmp.no (rfl) ?_
  refine SZ.mk (g.n : Int) rfl ?_
  refine SLt.mk (by simp) ?_
  refine SMake.mk g.n rfl (by simp; omega) (by omega) ?_
  refine SMk.rows ?_
  refine SZ.mk (g.n : Int) rfl ?_
  refine SLoop.mkT Nat (fun i => ([(1, .bptr 0 0), (3, .vec 1 1 0 g.n), (13, .p (.int .i64 g.n)), (14, .p (.int .i64 i))], [.box 59 (genA m g), .rows 25 (half 2 g.n g.n i), .pool 37 3 (plr i g.n (ent g))]))
    (fun i => i ≤ g.n) (fun i => g.n - i) 0 [0, 1, 2] _ _ (.pool 37 3 (.done _ _)) (Nat.zero_le _) ⟨rfl, by simp, rfl, rfl, rfl, ⟨rfl, rfl, rfl, rfl, trivial⟩, ⟨rfl, congrArg _ half_ren0, rfl, half_in fun i hi => absurd hi (Nat.not_lt_zero _), trivial⟩⟩ ?_
  intro i hi
  have hi : i ≤ g.n := hi
  by_cases hin : i < g.n
  · refine SCmp.yes (decide_eq_true (by omega)) ?_
    refine SZ.mk (g.n : Int) rfl ?_
    refine SLt.mk (by simp) ?_
    refine SMake.rat g.n rfl (by omega) ?_
    refine SPos.mk i rfl hin ?_
    refine SLt.mk (by simp; omega) ?_
    refine SAs.mk (halq 2 g.n g.n i 3) half_set ?_
    refine SPos.mk i rfl hin ?_
    refine SIdxA.mk i _ rfl (halq_get hin) ?_
    refine SZ.mk (g.n : Int) rfl ?_
    refine SLoop.mk (Nat × (Nat → Rat)) (fun (j, F) => ([(1, .bptr 0 0), (3, .vec 1 1 0 g.n), (4, .p (.int .i64 i)), (13, .p (.int .i64 g.n)), (14, .p (.int .i64 i)), (27, .p (.int .i64 g.n)), (28, .p (.int .i64 j))], [.box 59 (genA m g), .rows 25 (halq 2 g.n g.n i 3), .pool 37 3 (plr i g.n (ent g)), .vec 37 3 (fl g.n fun k => if k < j then ratP (ent g i k) else rat0)]))
      (fun (j, F) => j ≤ g.n) (fun x => g.n - x.1) (0, ent g i) [0, 1, 2, 3] (Nat.zero_le _) ⟨rfl, by simp, rfl, rfl, rfl, ⟨rfl, rfl, rfl, rfl, rfl, rfl, rfl, trivial⟩, ⟨rfl, congrArg _ (halq_ren 2 3 rfl (by decide) rfl (by decide)), rfl, congrArg _ ((fl_congr fun k hk => if_neg (by omega)).trans (replicate_fl g.n rat0).symm), halq_in (fun i hi => by simpa [plenAt] using hi) (fun e => by cases e), trivial⟩⟩ ?_
    intro ⟨j, F⟩ hj
    have hj : j ≤ g.n := hj
    by_cases hjn : j < g.n
    · refine SCmp.yes (decide_eq_true (by omega)) ?_
      refine SDraw.mkX (by kernel_rfl) ?_
      repeat refine SOp.mk _ _ (And.intro rfl rfl) rfl ?_
      refine SOp.mk _ _ (SPos.mk i rfl hin (And.intro rfl rfl)) rfl ?_
      refine SOp.mk _ _ (SIdxA.mk i _ rfl (halq_get hin) (And.intro rfl rfl)) rfl ?_
      repeat refine SOp.mk _ _ (And.intro rfl rfl) rfl ?_
      refine SOp.mk _ _ (SCall.pure (gentry_ok m g h i j hin hjn) (And.intro rfl rfl)) rfl ?_
      refine SOp.mk _ _ (SPos.mk j rfl hjn (And.intro rfl rfl)) rfl ?_
      refine SOp.mk _ _ (SLt.mk (by simp; omega) <| SEs.mk _ (row_step hjn) (And.intro rfl rfl)) rfl ?_
      repeat refine SOp.mk _ _ (And.intro rfl rfl) rfl ?_
      refine SFin.mk (by kernel_rfl) ?_
      refine SWrap.i64z ((j + 1 : Nat) : Int) (by omega) (by omega) ?_
      exact ⟨(j + 1, F), [0, 1, 2, 3], hjn, by show g.n - (j + 1) < g.n - j; omega, ⟨rfl, by simp, rfl, rfl, rfl, ⟨rfl, rfl, rfl, rfl, rfl, rfl, rfl, trivial⟩, ⟨rfl, congrArg _ (halq_ren 2 3 rfl (by decide) rfl (by decide)), rfl, rfl, halq_in (fun i hi => by simpa [plenAt] using hi) (fun e => by cases e), trivial⟩⟩⟩
    · refine SCmp.no (decide_eq_false (by omega)) ?_
      obtain rfl : j = g.n := by omega
      refine SWrap.i64z ((i + 1 : Nat) : Int) (by omega) (by omega) ?_
      exact ⟨i + 1, [0, 1, 4002], hin, by show g.n - (i + 1) < g.n - i; omega, ⟨rfl, by simp, rfl, rfl, rfl, ⟨rfl, rfl, rfl, rfl, trivial⟩, ⟨rfl, congrArg _ (half_absorb rfl (by decide) (by simp [plenAt])), ⟨_, _, _, _, rfl, rfl, congrArg _ (plr_snoc.trans (congrArg (fun r => plr i g.n (ent g) ++ [some r]) row_full))⟩, half_in fun i hi => by simpa [plenAt] using hi, trivial⟩⟩⟩
  · refine SCmp.no (decide_eq_false (by omega)) ?_
    obtain rfl : i = g.n := by omega
    exact SRet.pure (frzM (H := [_, _, _]) (h := 1) (p := 2) (congrArg (Blk.rows _) half_full) rfl fun i hi => hi)
end Go.Proofs.Ytkaooejeljdbnaa

namespace Go.Proofs.Ytkaooejeljdbnaa
open Go
set_option linter.unusedVariables false
set_option linter.unusedSimpArgs false
set_option maxRecDepth 10000
theorem szero_ok : CallP Try.prog 155 [] (.p (ratP 0)) [] := by
  refine callG_of_vc (wr := wr0) Γok mixed Try.func155 (by kernel_rfl) rfl (by kernel_rfl) (le_of_ble rfl) (by simp) ?_
  refine SRet.pure ?_
  rw [ratP_zero]
  exact conv3 ⟨rfl, rfl, rfl⟩ (.p _ (.bool _)) (.p _ (.sl _ _ (fun e he => by simp at he))) (frz1 rfl)
theorem sone_ok : CallP Try.prog 157 [] (.p (ratP 1)) [] := by
  refine callG_of_vc (wr := wr0) Γok mixed Try.func157 (by kernel_rfl) rfl (by kernel_rfl) (le_of_ble rfl) (by simp) ?_
  refine SRet.pure ?_
  rw [ratP_one']
  exact conv3 ⟨rfl, rfl, rfl⟩ (.p _ (.bool _)) (frz1 rfl) (frz1 rfl)
theorem corner_ok (i k : Nat) : CallP Try.prog 156 [pairP i k] (.p (.bool (decide (i = k)))) [] := by
  refine callG_of_vc (wr := wr0) Γok mixed Try.func156 (by kernel_rfl) rfl (by kernel_rfl) (le_of_ble rfl) (by simp) ?_
  refine SPos.mk 0 rfl (by decide) ?_
  refine SPos.mk 0 rfl (by decide) ?_
  refine SCmp.sym ?_
  have : (((i : Int) == (i : Int)) && (((k : Int) == (i : Int)) && true)) = decide (i = k) := by
    by_cases e : i = k
    · subst e; simp
    · rw [decide_eq_false e, beq_eq_false_iff_ne.2 (show (k : Int) ≠ i by omega)]; simp
  rw [this]
  exact SRet.pure (.p _ (.bool _))
def tkV (A : Nat → Nat → Rat) (i j : Nat) : Rat := gs A j i j / gs A j j j
abbrev tkE (A : Nat → Nat → Rat) (k d : Nat) : PV × PV := (pairP (k + 1 + d) k, ratP (tkV A (k + 1 + d) k))
def tkL (A : Nat → Nat → Rat) (n : Nat) : Nat → List (PV × PV)
  | 0 => []
  | k + 1 => tkL A n k ++ fl (n - 1 - k) (tkE A k)
theorem tk_mem {A : Nat → Nat → Rat} {n : Nat} : ∀ k, k ≤ n → ∀ e ∈ tkL A n k, ∃ i j, e = (pairP i j, ratP (tkV A i j)) ∧ j < k ∧ j < i ∧ i < n := by
  intro k
  induction k with
  | zero => intro _ e he; simp [tkL] at he
  | succ k ih =>
    intro hk e he
    rcases List.mem_append.1 he with he | he
    · obtain ⟨i, j, h1, h2, h3, h4⟩ := ih (by omega) e he
      exact ⟨i, j, h1, by omega, h3, h4⟩
    · obtain ⟨d, hd, rfl⟩ := fl_mem he
      exact ⟨k + 1 + d, k, rfl, by omega, by omega, by omega⟩
theorem tk_get {A : Nat → Nat → Rat} {n i j : Nat} (hji : j < i) (hin : i < n) : ∀ k, k ≤ n → j < k → ∃ a : Nat, (tkL A n k)[a]? = some (pairP i j, ratP (tkV A i j)) ∧ ∀ (b : Nat) e', b ≠ a → (tkL A n k)[b]? = some e' → PV.keq (pairP i j) e'.1 = false := by
  intro k
  induction k with
  | zero => intro _ h; exact absurd h (Nat.not_lt_zero _)
  | succ k ih =>
    intro hk hj
    simp only [tkL]
    by_cases e : j = k
    · subst e
      refine ⟨(tkL A n j).length + (i - (j + 1)), ?_, fun b e' hb he => ?_⟩
      · rw [List.getElem?_append_right (by omega), show (tkL A n j).length + (i - (j + 1)) - (tkL A n j).length = i - (j + 1) by omega, fl_get (by omega)]
        simp only [tkE]
        rw [show j + 1 + (i - (j + 1)) = i by omega]
      · by_cases hl : b < (tkL A n j).length
        · rw [List.getElem?_append_left hl] at he
          obtain ⟨i', j', rfl, h2, _, _⟩ := tk_mem j (by omega) e' (List.mem_of_getElem? he)
          rw [keq_pair]; exact decide_eq_false fun h => by omega
        · rw [List.getElem?_append_right (by omega)] at he
          obtain ⟨hd, rfl⟩ := fl_get_iff.1 he
          rw [keq_pair]; exact decide_eq_false fun h => by omega
    · obtain ⟨a, h1, h2⟩ := ih (by omega) (by omega)
      have hl := (List.getElem?_eq_some_iff.1 h1).1
      refine ⟨a, by rw [List.getElem?_append_left hl]; exact h1, fun b e' hb he => ?_⟩
      by_cases hl : b < (tkL A n k).length
      · rw [List.getElem?_append_left hl] at he; exact h2 b e' hb he
      · rw [List.getElem?_append_right (by omega)] at he
        obtain ⟨hd, rfl⟩ := fl_get_iff.1 he
        rw [keq_pair]; exact decide_eq_false fun h => by omega
theorem SKeys.tk {b : PV → Bool} {A : Nat → Nat → Rat} {n k d : Nat} {K : Prop} (hk : k ≤ n) (hb : ∀ i k : Nat, b (pairP i k) = true) (hK : K) : SKeys b (tkL A n k ++ fl d (tkE A k)) K :=
  .mk (fun e he => by
    rcases List.mem_append.1 he with he | he
    · obtain ⟨i, j, rfl, _⟩ := tk_mem k hk e he; exact hb _ _
    · obtain ⟨d, hd, rfl⟩ := fl_mem he; exact hb _ _) hK
theorem SPut.tk {A : Nat → Nat → Rat} {n k d : Nat} {v : PV} {K : List (PV × PV) → Prop} (hk : k ≤ n) (hv : v = ratP (tkV A (k + 1 + d) k)) (hK : K (tkL A n k ++ fl (d + 1) (tkE A k))) : SPut (tkL A n k ++ fl d (tkE A k)) (pairP (k + 1 + d) k) v K := by
  subst hv
  refine .new _ (fun e he => ?_) (by rw [List.append_assoc, fl_snoc]) hK
  rcases List.mem_append.1 he with he | he
  · obtain ⟨i, j, rfl, h2, _, _⟩ := tk_mem k hk e he
    rw [keq_pair]; exact decide_eq_false fun h => by omega
  · obtain ⟨d', hd, rfl⟩ := fl_mem he
    rw [keq_pair]; exact decide_eq_false fun h => by omega
theorem pers_tk {A : Nat → Nat → Rat} {n k : Nat} (hk : k ≤ n) : ∀ e ∈ tkL A n k, Pers e.1 ∧ Pers e.2 := fun e he => by
  obtain ⟨i, j, rfl, _⟩ := tk_mem k hk e he
  exact ⟨pers_pair _ _, pers_rat _ _ _⟩
theorem tabF_congr {n : Nat} {f g : Nat → Nat → Rat} (h : ∀ i k, i < n → k < n → f i k = g i k) : tabF n f (n * n) = tabF n g (n * n) := fl_congr fun t ht => by
  have n0 : 0 < n := by rcases Nat.eq_zero_or_pos n with h | h; rw [h] at ht; simp at ht; exact h
  rw [h _ _ (Nat.div_lt_of_lt_mul ht) (Nat.mod_lt _ n0)]
abbrev wkA (n : Nat) (l t : Nat) : List AV := [.p (.int .i64 (n : Int)), .map (.t l), .map (.t t)]
abbrev wkB (n : Nat) (left took : List (PV × PV)) : List Blk := [.box 130 (wkA n 1 2), .map left, .map took]
theorem sof_ok (m m' : Bool) (n : Nat) (A : Nat → Nat → Rat) (hn : n ≤ 1000) : CallP Try.prog 106 [matP m m' n n A] (.bptr 0 0) (wkB n (tabF n A (n * n)) []) := by
  refine callG_of_vc (wr := wr0) Γok mixed Try.func106 (by kernel_rfl) rfl (by kernel_rfl) (le_of_ble rfl) (by simp) ?_
  refine SZ.mk (n : Int) (by simp) ?_
  refine SZ.mk (n : Int) (by simp) ?_
  refine SLoop.mk Nat (fun i => ([(3, .bptr 2 0), (14, .p (matP m m' n n A)), (15, .p (.int .i64 n)), (16, .p (.int .i64 i))], [.map (tabF n A (i * n)), .map [], .box 130 (wkA n 0 1)]))
    (fun i => i ≤ n) (fun i => n - i) 0 [0, 1, 2] (Nat.zero_le _) ⟨rfl, by simp, rfl, rfl, rfl, ⟨rfl, rfl, rfl, rfl, trivial⟩, ⟨by rw [Nat.zero_mul]; rfl, rfl, rfl, trivial⟩⟩ ?_
  intro i hi
  have hi : i ≤ n := hi
  by_cases hin : i < n
  · refine SCmp.yes (decide_eq_true (by omega)) ?_
    refine SIdx.mf i rfl hin ?_
    refine SZ.mk (n : Int) (by simp [lst]) ?_
    refine SLoop.mk Nat (fun k => ([(3, .bptr 2 0), (4, .p (.int .i64 i)), (14, .p (matP m m' n n A)), (15, .p (.int .i64 n)), (16, .p (.int .i64 i)), (21, .p (ratsM m' (lst n (A i)))), (22, .p (.int .i64 n)), (23, .p (.int .i64 k))], [.map (tabF n A (i * n + k)), .map [], .box 130 (wkA n 0 1)]))
      (fun k => k ≤ n) (fun k => n - k) 0 [0, 1, 2] (Nat.zero_le _) ⟨rfl, by simp, rfl, rfl, rfl, ⟨rfl, rfl, rfl, rfl, rfl, rfl, rfl, rfl, trivial⟩, ⟨rfl, rfl, rfl, trivial⟩⟩ ?_
    intro k hk
    have hk : k ≤ n := hk
    by_cases hkn : k < n
    · refine SCmp.yes (decide_eq_true (by omega)) ?_
      refine SIdx.rf k rfl hkn ?_
      refine SDraw.mkX (by kernel_rfl) ?_
      repeat refine SOp.mk _ _ (And.intro rfl rfl) rfl ?_
      refine SOp.mk _ _ (SKeys.tab (fun _ _ => rfl) <| SPut.tab hkn rfl (And.intro rfl rfl)) rfl ?_
      refine SFin.mk (by kernel_rfl) ?_
      refine SWrap.i64z ((k + 1 : Nat) : Int) (by omega) (by omega) ?_
      exact ⟨k + 1, [0, 1, 2], hkn, by show n - (k + 1) < n - k; omega, ⟨rfl, by simp, rfl, rfl, rfl, ⟨rfl, rfl, rfl, rfl, rfl, rfl, rfl, rfl, trivial⟩, ⟨rfl, rfl, rfl, trivial⟩⟩⟩
    · refine SCmp.no (decide_eq_false (by omega)) ?_
      obtain rfl : k = n := by omega
      refine SWrap.i64z ((i + 1 : Nat) : Int) (by omega) (by omega) ?_
      exact ⟨i + 1, [0, 1, 2], hin, by show k - (i + 1) < k - i; omega, ⟨rfl, by simp, rfl, rfl, rfl, ⟨rfl, rfl, rfl, rfl, trivial⟩, ⟨congrArg (fun q => Blk.map (tabF k A q)) (Nat.succ_mul i k), rfl, rfl, trivial⟩⟩⟩
  · refine SCmp.no (decide_eq_false (by omega)) ?_
    obtain rfl : i = n := by omega
    refine SRet.mk [2, 0, 1] rfl (by decide) rfl (Nat.zero_le _) (fun h hl => by rw [look_nil] at hl; exact hl.elim) (fun h hl => absurd (look_nil h) hl) (fun a h B e1 e2 => ?_) (.bptr rfl)
    match a, e1, e2 with
    | 0, e1, e2 =>
      cases e1; cases e2
      refine .box (cs := wkA i 0 1) (fun d hd => by simp only [wkA, List.mem_cons, List.not_mem_nil, or_false] at hd; rcases hd with rfl | rfl | rfl <;> rfl) rfl fun b c d e1 e2 => ?_
      match b, e1, e2 with
      | 0, e1, e2 => cases e1; cases e2; exact .p _ (.int _ _)
      | 1, e1, e2 => cases e1; cases e2; exact .map rfl
      | 2, e1, e2 => cases e1; cases e2; exact .map rfl
    | 1, e1, e2 => cases e1; cases e2; exact .map pers_tab
    | 2, e1, e2 => cases e1; cases e2; exact .map (fun e he => by simp at he)
end Go.Proofs.Ytkaooejeljdbnaa

namespace Go.Proofs.Ytkaooejeljdbnaa
open Go
set_option linter.unusedVariables false
set_option linter.unusedSimpArgs false
set_option maxRecDepth 10000
theorem gs_bz {A : Nat → Nat → Rat} {n b : Nat} (hA : ∀ i j, i < n → j < n → Bz (A i j) b) : ∀ k, k ≤ n → ∀ i j, i < n → j < n → Bz (gs A k i j) (bb b k) := by
  intro k
  induction k with
  | zero => intro _ i j hi hj; exact hA i j hi hj
  | succ k ih =>
    intro hk i j hi hj
    have ih := ih (by omega)
    by_cases c : k < i ∧ k ≤ j
    · rw [gs_gt c.1 c.2]
      exact ((ih i j hi hj).sub (((ih i k hi (by omega)).div (ih k k (by omega) (by omega))).mul (ih k j (by omega) hj))).mono (by simp only [bb]; omega)
    · rw [gs_le (by omega)]; exact (ih i j hi hj).mono (by simp only [bb]; omega)
theorem bb_mono {b j k : Nat} (h : j ≤ k) : bb b j ≤ bb b k := Rmono (fun k => bb_step k) h
/-- All that is left at any step has so many digits. -/
def GsB (A : Nat → Nat → Rat) (n D : Nat) : Prop := ∀ k, k ≤ n → ∀ i j, i < n → j < n → Bz (gs A k i j) D
theorem GsB.of {A : Nat → Nat → Rat} {n b : Nat} (hA : ∀ i j, i < n → j < n → Bz (A i j) b) : GsB A n (bb b n) := fun k hk i j hi hj => (gs_bz hA k hk i j hi hj).mono (bb_mono hk)
theorem nlen0 {q : Rat} (h : q = 0) : nlen q.num.natAbs = 0 := by rw [h]; exact nlen_zero_iff.2 rfl
theorem nlen1 {q : Rat} (h : q ≠ 0) : nlen q.num.natAbs ≠ 0 := fun e => h (Rat.num_eq_zero.1 (by have := nlen_zero_iff.1 e; omega))
theorem stepZ_ok (A : Nat → Nat → Rat) (n k : Nat) (hk : k < n) (hn : n ≤ 1000) (hp : piv A k = 0) :
    CallG Try.prog 107 [.bptr 0 0, .p (.int .i64 k)] (wkB n (tabF n (gs A k) (n * n)) (tkL A n k)) (.p (.bool false)) (wkB n (tabF n (gs A k) (n * n)) (tkL A n k)) := by
  refine callG_of_vc (wr := wr0) Γok mixed Try.func107 (by kernel_rfl) rfl (by kernel_rfl) (le_of_ble rfl) (by simp) ?_
  refine SKeys.tab (fun _ _ => rfl) <| SGet.tab hk hk ?_
  refine SZ.mk (nlen (gs A k k k).num.natAbs : Int) (by simp) ?_
  refine SCmp.yes (eqT (by rw [nlen0 (show gs A k k k = 0 from hp)]; rfl)) ?_
  refine SRet.keep rfl
    (fun B hB k => by simp only [wkB, List.mem_cons, List.not_mem_nil, or_false] at hB; rcases hB with rfl | rfl | rfl <;> rfl) (fun i hi => by
      match i, hi with
      | 0, _ => exact trivial
      | 1, _ => exact trivial
      | 2, _ => exact trivial)
    (fun a B e1 => by
      match a, e1 with
      | 0, e1 =>
        cases e1
        refine .box (cs := wkA n 1 2) (fun d hd => by simp only [wkA, List.mem_cons, List.not_mem_nil, or_false] at hd; rcases hd with rfl | rfl | rfl <;> rfl) rfl fun b c d e1 e2 => ?_
        match b, e1, e2 with
        | 0, e1, e2 => cases e1; cases e2; exact .p _ (.int _ _)
        | 1, e1, e2 => cases e1; cases e2; exact .map rfl
        | 2, e1, e2 => cases e1; cases e2; exact .map rfl
      | 1, e1 => cases e1; exact .map pers_tab
      | 2, e1 => cases e1; exact .map (pers_tk (by omega))) (.tf _)
theorem step_ok (A : Nat → Nat → Rat) (n k : Nat) {D : Nat} (hk : k < n) (hn : n ≤ 1000) (hp : piv A k ≠ 0) (hB : GsB A n D) (hD : 4 * D ≤ 1048576) :
    CallG Try.prog 107 [.bptr 0 0, .p (.int .i64 k)] (wkB n (tabF n (gs A k) (n * n)) (tkL A n k)) (.p (.bool true)) (wkB n (tabF n (gs A (k + 1)) (n * n)) (tkL A n (k + 1))) := by
  have nz := nlen1 hp
  refine callG_of_vc (wr := wr0) Γok mixed Try.func107 (by kernel_rfl) rfl (by kernel_rfl) (le_of_ble rfl) (by simp) ?_
  refine SKeys.tab (fun _ _ => rfl) <| SGet.tab hk hk ?_
  refine SZ.mk (nlen (gs A k k k).num.natAbs : Int) (by simp) ?_
  refine SCmp.no (eqF (by have : nlen (gs A k k k).num.natAbs ≠ 0 := nz; omega)) ?_
  refine SWrap.i64z ((k + 1 + 0 : Nat) : Int) (by omega) (by omega) ?_
  refine SLoop.mk (Nat × (Nat → Nat → Rat)) (fun (d, F) => ([(0, .bptr 0 0), (1, .p (.int .i64 k)), (5, .bptr 3 0), (6, .p (.int .i64 ((k + 1 + d : Nat) : Int)))], [.box 130 (wkA n 1 2), .map (tabF n F (n * n)), .map (tkL A n k ++ fl d (tkE A k)), .box 37 (bxQ (gs A k k k))]))
    (fun (d, F) => k + 1 + d ≤ n ∧ ∀ a b, a < n → b < n → F a b = if a < k + 1 + d then gs A (k + 1) a b else gs A k a b) (fun x => n - x.1) (0, gs A k) [0, 1, 2, 3]
    ⟨by omega, fun a b _ _ => by
      split
      · exact (gs_le (.inl (by omega))).symm
      · rfl⟩ ⟨rfl, by simp, rfl, rfl, rfl, ⟨rfl, rfl, rfl, rfl, trivial⟩, ⟨rfl, rfl, congrArg Blk.map (List.append_nil _), rfl, trivial⟩⟩ ?_
  intro ⟨d, F⟩ ⟨hd, hF⟩
  by_cases hin : k + 1 + d < n
  · refine SCmp.yes (decide_eq_true (by omega)) ?_
    obtain ⟨i, hi⟩ : ∃ i, i = k + 1 + d := ⟨_, rfl⟩
    have hFi : ∀ b, b < n → F (k + 1 + d) b = gs A k (k + 1 + d) b := fun b hb => by rw [hF _ b hin hb, if_neg (Nat.lt_irrefl _)]
    have hFk : ∀ b, b < n → F k b = gs A k k b := fun b hb => by rw [hF k b hk hb, if_pos (by omega)]; exact gs_le (.inl (Nat.le_refl _))
    have zi : ∀ b, b < n → Bz (F (k + 1 + d) b) D := fun b hb => by rw [hFi b hb]; exact hB k (by omega) _ b hin hb
    have zk : ∀ b, b < n → Bz (F k b) D := fun b hb => by rw [hFk b hb]; exact hB k (by omega) _ b hk hb
    have zp : Bz (gs A k k k) D := hB k (by omega) k k hk hk
    obtain ⟨Q, hQ⟩ : ∃ Q, Q = F (k + 1 + d) k / gs A k k k := ⟨_, rfl⟩
    have zQ : Bz Q (D + D) := by rw [hQ]; exact (zi k hk).div zp
    have hq := quo_ok (F (k + 1 + d) k) (gs A k k k) hp (zi k hk).sz zp.sz (by omega)
    rw [← hQ] at hq
    have hQv : Q = tkV A (k + 1 + d) k := by rw [hQ, hFi k hk]; rfl
    refine SDraw.mkX (by kernel_rfl) ?_
    repeat refine SOp.mk _ _ (And.intro rfl rfl) rfl ?_
    refine SOp.mk _ _ (SKeys.tab (fun _ _ => rfl) <| SGet.tab hin hk (And.intro rfl rfl)) rfl ?_
    repeat refine SOp.mk _ _ (And.intro rfl rfl) rfl ?_
    refine SOp.mk _ _ (SCall.pureT (hq) (fun _ => rfl) (And.intro rfl rfl)) rfl ?_
    repeat refine SOp.mk _ _ (And.intro rfl rfl) rfl ?_
    refine SFin.mk (by kernel_rfl) ?_
    refine SDraw.mkX (by kernel_rfl) ?_
    repeat refine SOp.mk _ _ (And.intro rfl rfl) rfl ?_
    refine SOp.mk _ _ (SKeys.tk (by omega) (fun _ _ => rfl) <| SPut.tk (by omega) (congrArg ratP hQv) (And.intro rfl rfl)) rfl ?_
    refine SFin.mk (by kernel_rfl) ?_
    refine SLoop.mk (Nat × (Nat → Nat → Rat)) (fun (j, G) => ([(0, .bptr 0 0), (1, .p (.int .i64 k)), (5, .bptr 3 0), (6, .p (.int .i64 ((k + 1 + d : Nat) : Int))), (7, .bptr 4 0), (9, .p (.int .i64 j))], [.box 130 (wkA n 1 2), .map (tabF n G (n * n)), .map (tkL A n k ++ fl (d + 1) (tkE A k)), .box 37 (bxQ (gs A k k k)), .box 37 (bxQ Q)]))
      (fun (j, G) => k ≤ j ∧ j ≤ n ∧ ∀ a b, a < n → b < n → G a b = if a = k + 1 + d ∧ k ≤ b ∧ b < j then F (k + 1 + d) b - Q * F k b else F a b) (fun x => n - x.1) (k, F) [0, 1, 2, 3, 4]
      ⟨Nat.le_refl _, by omega, fun a b _ _ => by rw [if_neg (by omega)]⟩ ⟨rfl, by simp, rfl, rfl, rfl, ⟨rfl, rfl, rfl, rfl, rfl, rfl, trivial⟩, ⟨rfl, rfl, rfl, rfl, rfl, trivial⟩⟩ ?_
    intro ⟨j, G⟩ ⟨hkj, hj, hG⟩
    by_cases hjn : j < n
    · refine SCmp.yes (decide_eq_true (by omega)) ?_
      have gi : G (k + 1 + d) j = F (k + 1 + d) j := by rw [hG _ j hin hjn, if_neg (by omega)]
      have gk : G k j = F k j := by rw [hG k j hk hjn, if_neg (by omega)]
      have z1 : Bz (G (k + 1 + d) j) D := by rw [gi]; exact zi j hjn
      have z2 : Bz (G k j) D := by rw [gk]; exact zk j hjn
      refine SDraw.mkX (by kernel_rfl) ?_
      repeat refine SOp.mk _ _ (And.intro rfl rfl) rfl ?_
      refine SOp.mk _ _ (SKeys.tab (fun _ _ => rfl) <| SGet.tab hin hjn (And.intro rfl rfl)) rfl ?_
      repeat refine SOp.mk _ _ (And.intro rfl rfl) rfl ?_
      refine SOp.mk _ _ (SKeys.tab (fun _ _ => rfl) <| SGet.tab hk hjn (And.intro rfl rfl)) rfl ?_
      repeat refine SOp.mk _ _ (And.intro rfl rfl) rfl ?_
      refine SOp.mk _ _ (SCall.pure (ratmul_ok _ _ zQ.sz z2.sz (by omega)) (And.intro rfl rfl)) rfl ?_
      refine SOp.mk _ _ (SCall.pure (ratsub_ok _ _ z1.sz (zQ.mul z2).sz (by omega)) (And.intro rfl rfl)) rfl ?_
      refine SOp.mk _ _ (SKeys.tab (fun _ _ => rfl) <| SPut.tabset hin hjn (And.intro rfl rfl)) rfl ?_
      refine SFin.mk (by kernel_rfl) ?_
      refine SWrap.i64z ((j + 1 : Nat) : Int) (by omega) (by omega) ?_
      refine ⟨(j + 1, _), [0, 1, 2, 3, 4], ⟨by omega, hjn, fun a b ha hb => ?_⟩, by show n - (j + 1) < n - j; omega, ⟨rfl, by simp, rfl, rfl, rfl, ⟨rfl, rfl, rfl, rfl, rfl, rfl, trivial⟩, ⟨rfl, rfl, rfl, rfl, rfl, trivial⟩⟩⟩
      by_cases e : a = k + 1 + d ∧ b = j
      · rw [if_pos e, if_pos ⟨e.1, by omega, by omega⟩, gi, gk, e.2]
      · rw [if_neg e, hG a b ha hb]
        by_cases c : a = k + 1 + d ∧ k ≤ b ∧ b < j
        · rw [if_pos c, if_pos ⟨c.1, c.2.1, by omega⟩]
        · rw [if_neg c, if_neg (by omega)]
    · refine SCmp.no (decide_eq_false (by omega)) ?_
      obtain rfl : j = n := by omega
      refine SWrap.i64z ((k + 1 + (d + 1) : Nat) : Int) (by omega) (by omega) ?_
      refine ⟨(d + 1, G), [0, 1, 2, 3], ⟨by omega, fun a b ha hb => ?_⟩, by show j - (d + 1) < j - d; omega, ⟨rfl, by simp, rfl, rfl, rfl, ⟨rfl, rfl, rfl, rfl, trivial⟩, ⟨rfl, rfl, rfl, rfl, trivial⟩⟩⟩
      rw [hG a b ha hb]
      by_cases c : a = k + 1 + d ∧ k ≤ b ∧ b < j
      · rw [if_pos c, if_pos (by omega), c.1, gs_gt (by omega) c.2.1, hQ, hFi b hb, hFk b hb, hFi k hk]
      · rw [if_neg c, hF a b ha hb]
        by_cases c2 : a = k + 1 + d
        · rw [if_neg (by omega), if_pos (by omega), gs_le (.inr (by omega))]
        · by_cases c3 : a < k + 1 + d
          · rw [if_pos c3, if_pos (by omega)]
          · rw [if_neg c3, if_neg (by omega)]
  · refine SCmp.no (decide_eq_false (by omega)) ?_
    have e1 : tabF n F (n * n) = tabF n (gs A (k + 1)) (n * n) := tabF_congr fun a b ha hb => by rw [hF a b ha hb, if_pos (by omega)]
    have e2 : tkL A n k ++ fl d (tkE A k) = tkL A n (k + 1) := by simp only [tkL]; rw [show d = n - 1 - k by omega]
    rw [← e1, ← e2]
    refine SRet.keep rfl
      (fun B hB k => by simp only [wkB, List.mem_cons, List.not_mem_nil, or_false] at hB; rcases hB with rfl | rfl | rfl <;> rfl) (fun i hi => by
        match i, hi with
        | 0, _ => exact trivial
        | 1, _ => exact trivial
        | 2, _ => exact trivial)
      (fun a B e1 => by
        match a, e1 with
        | 0, e1 =>
          cases e1
          refine .box (cs := wkA n 1 2) (fun d hd => by simp only [wkA, List.mem_cons, List.not_mem_nil, or_false] at hd; rcases hd with rfl | rfl | rfl <;> rfl) rfl fun b c d e1 e2 => ?_
          match b, e1, e2 with
          | 0, e1, e2 => cases e1; cases e2; exact .p _ (.int _ _)
          | 1, e1, e2 => cases e1; cases e2; exact .map rfl
          | 2, e1, e2 => cases e1; cases e2; exact .map rfl
        | 1, e1 => cases e1; exact .map pers_tab
        | 2, e1 => cases e1; exact .map (by rw [e2]; exact pers_tk (by omega))) (.tf _)
end Go.Proofs.Ytkaooejeljdbnaa

namespace Go.Proofs.Ytkaooejeljdbnaa
open Go
set_option linter.unusedVariables false
set_option linter.unusedSimpArgs false
set_option maxRecDepth 10000
theorem SKeys.tkn {b : PV → Bool} {A : Nat → Nat → Rat} {n k : Nat} {K : Prop} (hk : k ≤ n) (hb : ∀ i k : Nat, b (pairP i k) = true) (hK : K) : SKeys b (tkL A n k) K :=
  .mk (fun e he => by obtain ⟨i, j, rfl, _⟩ := tk_mem k hk e he; exact hb _ _) hK
theorem SGet.tk {A : Nat → Nat → Rat} {n i j : Nat} {K : Option PV → Prop} (hji : j < i) (hin : i < n) (hK : K (some (ratP (tkV A i j)))) : SGet (tkL A n n) (pairP i j) K := by
  obtain ⟨a, h1, h2⟩ := tk_get hji hin n (Nat.le_refl _) (show j < n by omega)
  exact .yes a _ h1 (by rw [keq_pair]; exact decide_eq_true ⟨rfl, rfl⟩) h2 hK
theorem SGet.tkno {A : Nat → Nat → Rat} {n i j : Nat} {K : Option PV → Prop} (hij : i ≤ j) (hK : K Option.none) : SGet (tkL A n n) (pairP i j) K :=
  .no (fun e he => by
    obtain ⟨i', j', rfl, _, h3, _⟩ := tk_mem n (Nat.le_refl _) e he
    rw [keq_pair]; exact decide_eq_false fun h => by omega) hK
/-- A matrix that was gone through, lent. -/
abbrev wkP (n : Nat) (A : Nat → Nat → Rat) : PV := .pel true (.agg [.int .i64 (n : Int), .mp true (tabF n (gs A n) (n * n)), .mp true (tkL A n n)])
theorem slower_ok (A : Nat → Nat → Rat) (n i j : Nat) (hi : i < n) (hj : j < n) : CallP Try.prog 109 [wkP n A, pairP i j] (.p (ratP (lowM A i j))) [] := by
  have hc := corner_ok i j
  by_cases e : i = j
  · rw [decide_eq_true e] at hc
    have : lowM A i j = 1 := if_pos e
    rw [this]
    refine callG_of_vc (wr := wr0) Γok mixed Try.func109 (by kernel_rfl) rfl (by kernel_rfl) (le_of_ble rfl) (by simp) ?_
    refine SCall.pure (hc) ?_
    refine SCond.mk (fun _ => ?_) (fun h => by cases h)
    refine SCall.pure (sone_ok) ?_
    exact SRet.pure (.p _ (pers_rat _ _ _))
  · rw [decide_eq_false e] at hc
    by_cases c : j < i
    · have : lowM A i j = tkV A i j := by unfold lowM; rw [if_neg e, if_pos c]; rfl
      rw [this]
      refine callG_of_vc (wr := wr0) Γok mixed Try.func109 (by kernel_rfl) rfl (by kernel_rfl) (le_of_ble rfl) (by simp) ?_
      refine SCall.pure (hc) ?_
      refine SCond.mk (fun h => by cases h) (fun _ => ?_)
      refine SDraw.mkX (by kernel_rfl) ?_
      repeat refine SOp.mk _ _ (And.intro rfl rfl) rfl ?_
      refine SOp.mk _ _ (SKeys.tkn (Nat.le_refl _) (fun _ _ => rfl) <| SGet.tk c hi (And.intro rfl rfl)) rfl ?_
      repeat refine SOp.mk _ _ (And.intro rfl rfl) rfl ?_
      refine SFin.mk (by kernel_rfl) ?_
      exact SRet.pure (.p _ (pers_rat _ _ _))
    · have : lowM A i j = 0 := by unfold lowM; rw [if_neg e, if_neg c]
      rw [this]
      refine callG_of_vc (wr := wr0) Γok mixed Try.func109 (by kernel_rfl) rfl (by kernel_rfl) (le_of_ble rfl) (by simp) ?_
      refine SCall.pure (hc) ?_
      refine SCond.mk (fun h => by cases h) (fun _ => ?_)
      refine SDraw.mkX (by kernel_rfl) ?_
      repeat refine SOp.mk _ _ (And.intro rfl rfl) rfl ?_
      refine SOp.mk _ _ (SKeys.tkn (Nat.le_refl _) (fun _ _ => rfl) <| SGet.tkno (by omega) (And.intro rfl rfl)) rfl ?_
      repeat refine SOp.mk _ _ (And.intro rfl rfl) rfl ?_
      refine SFin.mk (by kernel_rfl) ?_
      refine SCall.pure (szero_ok) ?_
      exact SRet.pure (.p _ (pers_rat _ _ _))
theorem supper_ok (A : Nat → Nat → Rat) (n i j : Nat) (hi : i < n) (hj : j < n) : CallP Try.prog 110 [wkP n A, pairP i j] (.p (ratP (uppM A i j))) [] := by
  by_cases c : j < i
  · have : uppM A i j = 0 := if_pos c
    rw [this]
    refine callG_of_vc (wr := wr0) Γok mixed Try.func110 (by kernel_rfl) rfl (by kernel_rfl) (le_of_ble rfl) (by simp) ?_
    refine SPos.mk 0 rfl (by decide) ?_
    refine SPos.mk 1 rfl (by decide) ?_
    refine SCmp.yes (decide_eq_true (by omega)) ?_
    refine SCall.pure (szero_ok) ?_
    exact SRet.pure (.p _ (pers_rat _ _ _))
  · have : uppM A i j = gs A n i j := by unfold uppM; rw [if_neg c]; exact (gs_row' (by omega)).symm
    rw [this]
    refine callG_of_vc (wr := wr0) Γok mixed Try.func110 (by kernel_rfl) rfl (by kernel_rfl) (le_of_ble rfl) (by simp) ?_
    refine SPos.mk 0 rfl (by decide) ?_
    refine SPos.mk 1 rfl (by decide) ?_
    refine SCmp.no (decide_eq_false (by omega)) ?_
    refine SDraw.mkX (by kernel_rfl) ?_
    repeat refine SOp.mk _ _ (And.intro rfl rfl) rfl ?_
    refine SOp.mk _ _ (SKeys.tab (fun _ _ => rfl) <| SGet.tab hi hj (And.intro rfl rfl)) rfl ?_
    repeat refine SOp.mk _ _ (And.intro rfl rfl) rfl ?_
    refine SFin.mk (by kernel_rfl) ?_
    exact SRet.pure (.p _ (pers_rat _ _ _))
theorem smade_ok (f : FuncId) (p : PV) (n : Nat) (F : Nat → Nat → Rat) {b : Nat} (hF : ∀ i j, i < n → j < n → CallP Try.prog f [p, pairP i j] (.p (ratP (F i j))) []) (hB : ∀ i j, i < n → j < n → Bz (F i j) b) (hb : b ≤ 1000000) (hn : n ≤ 1000) :
    CallP Try.prog 108 [.int .i64 n, .mfn f [p]] (.p (matP false false n n F)) [] := by
  refine callG_of_vc (wr := wr0) Γok mixed Try.func108 (by kernel_rfl) rfl (by kernel_rfl) (le_of_ble rfl) (by simp) ?_
  refine SZ.mk (n : Int) rfl ?_
  refine SLt.mk (by simp) ?_
  refine SMake.mk n rfl (by simp; omega) (by omega) ?_
  refine SMk.rows ?_
  refine SZ.mk (n : Int) rfl ?_
  refine SLoop.mkT Nat (fun i => ([(0, .p (.int .i64 n)), (1, .p (.mfn f [p])), (5, .vec 0 1 0 n), (11, .p (.int .i64 n)), (12, .p (.int .i64 i))], [.rows 25 (half 1 n n i), .pool 37 3 (plr i n F)]))
    (fun i => i ≤ n) (fun i => n - i) 0 [0, 1] _ _ (.pool 37 3 (.done _ _)) (Nat.zero_le _) ⟨rfl, by simp, rfl, rfl, rfl, ⟨rfl, rfl, rfl, rfl, rfl, trivial⟩, ⟨congrArg _ half_ren0, rfl, half_in fun i hi => absurd hi (Nat.not_lt_zero _), trivial⟩⟩ ?_
  intro i hi
  have hi : i ≤ n := hi
  by_cases hin : i < n
  · refine SCmp.yes (decide_eq_true (by omega)) ?_
    refine SZ.mk (n : Int) rfl ?_
    refine SLt.mk (by simp) ?_
    refine SMake.rat n rfl (by omega) ?_
    refine SPos.mk i rfl hin ?_
    refine SLt.mk (by simp; omega) ?_
    refine SAs.mk (halq 1 n n i 2) half_set ?_
    refine SPos.mk i rfl hin ?_
    refine SIdxA.mk i _ rfl (halq_get hin) ?_
    refine SZ.mk (n : Int) rfl ?_
    refine SLoop.mk Nat (fun j => ([(0, .p (.int .i64 n)), (1, .p (.mfn f [p])), (5, .vec 0 1 0 n), (6, .p (.int .i64 i)), (11, .p (.int .i64 n)), (12, .p (.int .i64 i)), (24, .p (.int .i64 n)), (25, .p (.int .i64 j))], [.rows 25 (halq 1 n n i 2), .pool 37 3 (plr i n F), .vec 37 3 (fl n fun k => if k < j then ratP (F i k) else rat0)]))
      (fun j => j ≤ n) (fun j => n - j) 0 [0, 1, 2] (Nat.zero_le _) ⟨rfl, by simp, rfl, rfl, rfl, ⟨rfl, rfl, rfl, rfl, rfl, rfl, rfl, rfl, trivial⟩, ⟨congrArg _ (halq_ren 1 2 rfl (by decide) rfl (by decide)), rfl, congrArg _ ((fl_congr fun k hk => if_neg (by omega)).trans (replicate_fl n rat0).symm), halq_in (fun i hi => by simpa [plenAt] using hi) (fun e => by cases e), trivial⟩⟩ ?_
    intro j hj
    have hj : j ≤ n := hj
    by_cases hjn : j < n
    · refine SCmp.yes (decide_eq_true (by omega)) ?_
      have hFij := hF i j hin hjn
      refine SDraw.mkX (by kernel_rfl) ?_
      repeat refine SOp.mk _ _ (And.intro rfl rfl) rfl ?_
      refine SOp.mk _ _ (SPos.mk i rfl hin (And.intro rfl rfl)) rfl ?_
      refine SOp.mk _ _ (SIdxA.mk i _ rfl (halq_get hin) (And.intro rfl rfl)) rfl ?_
      repeat refine SOp.mk _ _ (And.intro rfl rfl) rfl ?_
      refine SOp.mk _ _ (SCall.pure (pvs := [p, pairP i j]) hFij (And.intro rfl rfl)) rfl ?_
      refine SOp.mk _ _ (SCall.pure (szero_ok) (And.intro rfl rfl)) rfl ?_
      refine SOp.mk _ _ (SCall.pure (gcopy_ok (hB i j hin hjn) hb) (And.intro rfl rfl)) rfl ?_
      refine SOp.mk _ _ (SPos.mk j rfl hjn (And.intro rfl rfl)) rfl ?_
      refine SOp.mk _ _ (SLt.mk (by simp; omega) <| SEs.mk _ (row_step hjn) (And.intro rfl rfl)) rfl ?_
      repeat refine SOp.mk _ _ (And.intro rfl rfl) rfl ?_
      refine SFin.mk (by kernel_rfl) ?_
      refine SWrap.i64z ((j + 1 : Nat) : Int) (by omega) (by omega) ?_
      exact ⟨j + 1, [0, 1, 2], hjn, by show n - (j + 1) < n - j; omega, ⟨rfl, by simp, rfl, rfl, rfl, ⟨rfl, rfl, rfl, rfl, rfl, rfl, rfl, rfl, trivial⟩, ⟨congrArg _ (halq_ren 1 2 rfl (by decide) rfl (by decide)), rfl, rfl, halq_in (fun i hi => by simpa [plenAt] using hi) (fun e => by cases e), trivial⟩⟩⟩
    · refine SCmp.no (decide_eq_false (by omega)) ?_
      obtain rfl : j = n := by omega
      refine SWrap.i64z ((i + 1 : Nat) : Int) (by omega) (by omega) ?_
      exact ⟨i + 1, [0, 3001], hin, by show j - (i + 1) < j - i; omega, ⟨rfl, by simp, rfl, rfl, rfl, ⟨rfl, rfl, rfl, rfl, rfl, trivial⟩, ⟨congrArg _ (half_absorb rfl (by decide) (by simp [plenAt])), ⟨_, _, _, _, rfl, rfl, congrArg _ (plr_snoc.trans (congrArg (fun r => plr i j F ++ [some r]) row_full))⟩, half_in fun i hi => by simpa [plenAt] using hi, trivial⟩⟩⟩
  · refine SCmp.no (decide_eq_false (by omega)) ?_
    obtain rfl : i = n := by omega
    exact SRet.pure (frzM (H := [_, _]) (h := 0) (p := 1) (congrArg (Blk.rows _) half_full) rfl fun i hi => hi)
abbrev wrS : FuncId → Bool := fun f => Nat.beq f 107
theorem sfactorZ_ok (m : Nat → Bool) (g : GV) {b c D : Nat} (h : Wf g b c) (hB : GsB (ent g) g.n D) (hD : 4 * D ≤ 1048576) (hz : brkN (ent g) g.n < g.n) :
    CallP Try.prog 57 [genP m g] (.tup [.p (.sl false 1 []), .p (.sl false 1 []), .p (.int .i64 ((brkN (ent g) g.n + 1 : Nat) : Int)), .p (.int .i64 8)]) [] := by
  have h6 := h.n6
  have n1 := h.n1
  obtain ⟨b1, b2, b3⟩ := brkN_spec (ent g) g.n
  obtain ⟨K, hK⟩ : ∃ K, K = brkN (ent g) g.n := ⟨_, rfl⟩
  rw [← hK] at b1 b2 b3 hz ⊢
  have b3 := b3 hz
  refine callG_of_vc (wr := wrS) Γok mixed Try.func57 (by kernel_rfl) rfl (by kernel_rfl) (le_of_ble rfl) (by simp) ?_
  refine SCall.pure (gexpand_ok m g h) ?_
  refine SNil.mk (fun _ => ?_) (fun h => absurd h (by simp; omega))
  refine SCall.news (sof_ok false false g.n (ent g) (by omega)) (fun B hB => by simp only [wkB, List.mem_cons, List.not_mem_nil, or_false] at hB; rcases hB with rfl | rfl | rfl <;> exact fun e => by cases e) ?_
  refine SLoop.mk Nat (fun k => ([(7, .bptr 0 0), (18, .p (.int .i64 g.n)), (19, .p (.int .i64 k))], wkB g.n (tabF g.n (gs (ent g) k) (g.n * g.n)) (tkL (ent g) g.n k)))
    (fun k => k ≤ K) (fun k => g.n - k) 0 [1, 2, 3] (Nat.zero_le _) ⟨rfl, by simp, rfl, rfl, rfl, ⟨rfl, rfl, rfl, trivial⟩, ⟨rfl, rfl, rfl, trivial⟩⟩ ?_
  intro k hk
  have hk : k ≤ K := hk
  refine SCmp.yes (decide_eq_true (by omega)) ?_
  by_cases e : k < K
  · refine SCall.three 0 1 2 (step_ok (ent g) g.n k (by omega) (by omega) (b2 k e) hB hD)
      (by decide) (by decide) (by decide) (by decide) rfl ⟨rfl, fun _ => rfl⟩ ⟨rfl, fun _ => rfl⟩ ⟨rfl, fun _ => rfl⟩
        (fun B hB => by simp only [List.mem_cons, List.not_mem_nil, or_false] at hB; rcases hB with rfl | rfl | rfl <;> exact ⟨fun e => by (cases e), fun e => by (cases e)⟩)
        (fun B hB k hk => by
          simp only [List.mem_cons, List.not_mem_nil, or_false] at hB
          rcases hB with rfl | rfl | rfl
          · simp only [Blk.men, AV.menL, AV.men, or_false, false_or] at hk
            rcases hk with rfl | rfl <;> decide
          · exact hk.elim
          · exact hk.elim)
        (fun B hB => by simp only [List.mem_cons, List.not_mem_nil, or_false] at hB; rcases hB with rfl | rfl | rfl <;> exact fun e => by (cases e))
        (fun a ha k hk => by
          simp only [List.mem_cons, List.not_mem_nil, or_false] at ha
          rcases ha with rfl | rfl
          · simp only [AV.men] at hk; subst hk; decide
          · simp only [AV.men] at hk) ?_
    refine SCmp.no (rfl) ?_
    refine SWrap.i64z ((k + 1 : Nat) : Int) (by omega) (by omega) ?_
    exact ⟨k + 1, [0, 1, 2], e, by show g.n - (k + 1) < g.n - k; omega, ⟨rfl, by simp, rfl, rfl, rfl, ⟨rfl, rfl, rfl, trivial⟩, ⟨rfl, rfl, rfl, trivial⟩⟩⟩
  · obtain rfl : k = K := by omega
    refine SCall.three 0 1 2 (stepZ_ok (ent g) g.n k (by omega) (by omega) b3)
      (by decide) (by decide) (by decide) (by decide) rfl ⟨rfl, fun _ => rfl⟩ ⟨rfl, fun _ => rfl⟩ ⟨rfl, fun _ => rfl⟩
        (fun B hB => by simp only [List.mem_cons, List.not_mem_nil, or_false] at hB; rcases hB with rfl | rfl | rfl <;> exact ⟨fun e => by (cases e), fun e => by (cases e)⟩)
        (fun B hB k hk => by
          simp only [List.mem_cons, List.not_mem_nil, or_false] at hB
          rcases hB with rfl | rfl | rfl
          · simp only [Blk.men, AV.menL, AV.men, or_false, false_or] at hk
            rcases hk with rfl | rfl <;> decide
          · exact hk.elim
          · exact hk.elim)
        (fun B hB => by simp only [List.mem_cons, List.not_mem_nil, or_false] at hB; rcases hB with rfl | rfl | rfl <;> exact fun e => by (cases e))
        (fun a ha k hk => by
          simp only [List.mem_cons, List.not_mem_nil, or_false] at ha
          rcases ha with rfl | rfl
          · simp only [AV.men] at hk; subst hk; decide
          · simp only [AV.men] at hk) ?_
    refine SCmp.yes (rfl) ?_
    refine SWrap.i64z ((k + 1 : Nat) : Int) (by omega) (by omega) ?_
    exact SRet.pure (.tup rfl fun i c d e1 e2 => by
      match i, e1, e2 with
      | 0, e1, e2 => cases e1; cases e2; exact .emp 1
      | 1, e1, e2 => cases e1; cases e2; exact .emp 1
      | 2, e1, e2 => cases e1; cases e2; exact .p _ (.int _ _)
      | 3, e1, e2 => cases e1; cases e2; exact .p _ (.int _ _))
theorem sfactor_ok (m : Nat → Bool) (g : GV) {b c D : Nat} (h : Wf g b c) (hB : GsB (ent g) g.n D) (hD : 4 * D ≤ 1000000) (hp : ∀ t, t < g.n → piv (ent g) t ≠ 0) :
    CallP Try.prog 57 [genP m g] (.tup [.p (matP false false g.n g.n (lowM (ent g))), .p (matP false false g.n g.n (uppM (ent g))), .p (.int .i64 0), .p (.int .i64 0)]) [] := by
  have h6 := h.n6
  have n1 := h.n1
  have zL : ∀ i j, i < g.n → j < g.n → Bz (lowM (ent g) i j) (D + D + 1) := fun i j hi hj => by
    unfold lowM
    split
    · exact bz_one.mono (by omega)
    · split
      · exact ((hB j (by omega) i j hi hj).div (hB j (by omega) j j hj hj)).mono (by omega)
      · exact bz_zero.mono (by omega)
  have zU : ∀ i j, i < g.n → j < g.n → Bz (uppM (ent g) i j) (D + D + 1) := fun i j hi hj => by
    unfold uppM
    split
    · exact bz_zero.mono (by omega)
    · exact (hB i (by omega) i j hi hj).mono (by omega)
  refine callG_of_vc (wr := wrS) Γok mixed Try.func57 (by kernel_rfl) rfl (by kernel_rfl) (le_of_ble rfl) (by simp) ?_
  refine SCall.pure (gexpand_ok m g h) ?_
  refine SNil.mk (fun _ => ?_) (fun h => absurd h (by simp; omega))
  refine SCall.news (sof_ok false false g.n (ent g) (by omega)) (fun B hB => by simp only [wkB, List.mem_cons, List.not_mem_nil, or_false] at hB; rcases hB with rfl | rfl | rfl <;> exact fun e => by cases e) ?_
  refine SLoop.mk Nat (fun k => ([(7, .bptr 0 0), (18, .p (.int .i64 g.n)), (19, .p (.int .i64 k))], wkB g.n (tabF g.n (gs (ent g) k) (g.n * g.n)) (tkL (ent g) g.n k)))
    (fun k => k ≤ g.n) (fun k => g.n - k) 0 [1, 2, 3] (Nat.zero_le _) ⟨rfl, by simp, rfl, rfl, rfl, ⟨rfl, rfl, rfl, trivial⟩, ⟨rfl, rfl, rfl, trivial⟩⟩ ?_
  intro k hk
  have hk : k ≤ g.n := hk
  by_cases hkn : k < g.n
  · refine SCmp.yes (decide_eq_true (by omega)) ?_
    refine SCall.three 0 1 2 (step_ok (ent g) g.n k hkn (by omega) (hp k hkn) hB (by omega))
      (by decide) (by decide) (by decide) (by decide) rfl ⟨rfl, fun _ => rfl⟩ ⟨rfl, fun _ => rfl⟩ ⟨rfl, fun _ => rfl⟩
        (fun B hB => by simp only [List.mem_cons, List.not_mem_nil, or_false] at hB; rcases hB with rfl | rfl | rfl <;> exact ⟨fun e => by (cases e), fun e => by (cases e)⟩)
        (fun B hB k hk => by
          simp only [List.mem_cons, List.not_mem_nil, or_false] at hB
          rcases hB with rfl | rfl | rfl
          · simp only [Blk.men, AV.menL, AV.men, or_false, false_or] at hk
            rcases hk with rfl | rfl <;> decide
          · exact hk.elim
          · exact hk.elim)
        (fun B hB => by simp only [List.mem_cons, List.not_mem_nil, or_false] at hB; rcases hB with rfl | rfl | rfl <;> exact fun e => by (cases e))
        (fun a ha k hk => by
          simp only [List.mem_cons, List.not_mem_nil, or_false] at ha
          rcases ha with rfl | rfl
          · simp only [AV.men] at hk; subst hk; decide
          · simp only [AV.men] at hk) ?_
    refine SCmp.no (rfl) ?_
    refine SWrap.i64z ((k + 1 : Nat) : Int) (by omega) (by omega) ?_
    exact ⟨k + 1, [0, 1, 2], hkn, by show g.n - (k + 1) < g.n - k; omega, ⟨rfl, by simp, rfl, rfl, rfl, ⟨rfl, rfl, rfl, trivial⟩, ⟨rfl, rfl, rfl, trivial⟩⟩⟩
  · refine SCmp.no (decide_eq_false (by omega)) ?_
    obtain rfl : k = g.n := by omega
    have c1 := smade_ok 109 (wkP g.n (ent g)) g.n (lowM (ent g)) (fun i j hi hj => slower_ok (ent g) g.n i j hi hj) zL (by omega) (by omega)
    have c2 := smade_ok 110 (wkP g.n (ent g)) g.n (uppM (ent g)) (fun i j hi hj => supper_ok (ent g) g.n i j hi hj) zU (by omega) (by omega)
    refine SDraw.mkX (by kernel_rfl) ?_
    repeat refine SOp.mk _ _ (And.intro rfl rfl) rfl ?_
    refine SOp.mk _ _ (SCall.pure (c1) (And.intro rfl rfl)) rfl ?_
    repeat refine SOp.mk _ _ (And.intro rfl rfl) rfl ?_
    refine SOp.mk _ _ (SCall.pure (c2) (And.intro rfl rfl)) rfl ?_
    repeat refine SOp.mk _ _ (And.intro rfl rfl) rfl ?_
    refine SFin.mk (by kernel_rfl) ?_
    exact SRet.pure (.tup rfl fun i c d e1 e2 => by
      match i, e1, e2 with
      | 0, e1, e2 => cases e1; cases e2; exact .p _ pers_matP
      | 1, e1, e2 => cases e1; cases e2; exact .p _ pers_matP
      | 2, e1, e2 => cases e1; cases e2; exact .p _ (.int _ _)
      | 3, e1, e2 => cases e1; cases e2; exact .p _ (.int _ _))
end Go.Proofs.Ytkaooejeljdbnaa

namespace Go.Proofs.Ytkaooejeljdbnaa
open Go
set_option linter.unusedVariables false
set_option linter.unusedSimpArgs false
theorem wf_mkG {k n r : Nat} {ns : List Int} (k1 : 1 ≤ k) (k7 : k ≤ 7) (n1 : 1 ≤ n) (n6 : n ≤ 6) (r1 : k = 6 ∨ k = 7 → 1 ≤ r) (r2 : r ≤ 2) (r0 : k ≤ 5 → r = 0) : Wf (mkG k n r (rowG ns)) 5 13 := by
  have hf : ∀ i, -20 ≤ rowG ns i ∧ rowG ns i ≤ 20 := fun i => smallQ_range _
  have hc := cnt_le (k := k) (r := r) n1 (show n ≤ 8 by omega) (show r ≤ 3 by omega)
  exact {
    k1 := k1, k7 := k7, n1 := n1, n6 := n6, r2 := r2, r1 := r1, r0 := r0
    bA := fun i _ => rowG_bz ns i
    bB := fun i hi => bfix_bz hf (by have hi : i < cntB k n := hi; omega) (hf _) (rowG_bz ns _) _
    bG := fun i _ => rowG_bz ns _
    bH := fun i _ => rowG_bz ns _
    ne := fun i j hi hj => bfix_ne hf (hf _) (show i < cntA k n from hi)
    bc := by omega
    c4 := by omega }
theorem gmN_ok (n most : Int) (h1 : 1 ≤ most) : 1 ≤ gmN n most ∧ (gmN n most : Int) ≤ most := by
  have := Int.emod_nonneg n (show most ≠ 0 by omega)
  have := Int.emod_lt_of_pos n (show (0 : Int) < most by omega)
  unfold gmN
  omega
end Go.Proofs.Ytkaooejeljdbnaa

namespace Go.Proofs.Ytkaooejeljdbnaa
open Go
set_option linter.unusedVariables false
set_option linter.unusedSimpArgs false
set_option maxRecDepth 10000
theorem take_lst {n k : Nat} {f : Nat → Rat} (h : k ≤ n) : ((rats (lst n f)).take k).drop 0 = rats (lst k f) := by
  rw [List.drop_zero]
  apply List.ext_getElem
  · simp [lst]; omega
  · intro i h1 h2
    simp [lst, rats]
theorem rcut_ok (m m' : Bool) (n w k : Nat) (A : Nat → Nat → Rat) (hkn : k ≤ n) (hkw : k ≤ w) (hw : w ≤ 1000) :
    CallP Try.prog 62 [matP m m' n w A, .int .i64 k] (.p (matP false false k k A)) [] := by
  refine callG_of_vc (wr := wr0) Γok mixed Try.func62 (by kernel_rfl) rfl (by kernel_rfl) (le_of_ble rfl) (by simp) ?_
  refine SLoop.mkT Nat (fun i => ([(0, .p (matP m m' n w A)), (1, .p (.int .i64 k)), (5, .vec 0 1 0 i), (6, .p (.int .i64 i))], [.rows 25 (plc 1 k i id), .pool 37 3 (plr i k A)]))
    (fun i => i ≤ k) (fun i => k - i) 0 [0, 1] _ _ (.rows 5 25 rfl (.pool 37 3 (.done _ _))) (Nat.zero_le _) ⟨rfl, by simp, rfl, rfl, rfl, ⟨rfl, rfl, rfl, rfl, trivial⟩, ⟨rfl, rfl, rows_in fun i hi => absurd hi (Nat.not_lt_zero _), trivial⟩⟩ ?_
  intro i hi
  have hi : i ≤ k := hi
  by_cases hik : i < k
  · refine SCmp.yes (decide_eq_true (by omega)) ?_
    refine SIdx.mf i rfl (by omega) ?_
    refine SZ.mk (k : Int) rfl ?_
    refine SLt.mk (by simp) ?_
    refine SCut.mk 0 k rfl rfl (by omega) (by simp [lst]; omega) ?_
    refine SEs.mk _ (take_lst hkw) ?_
    refine SRoom.mk (by simp [lst]; omega) (by simp [lst]; omega) ?_
    refine SEqN.mk (by simp) ?_
    refine SRoom.mk (by simp; omega) (by simp; omega) ?_
    refine SAs.mk _ rfl ?_
    refine SZN.mk (i + 1) (by simp) ?_
    refine SWrap.i64z ((i + 1 : Nat) : Int) (by omega) (by omega) ?_
    refine ⟨i + 1, [4, 3001], hik, by show k - (i + 1) < k - i; omega, ⟨rfl, by simp, rfl, rfl, rfl, ⟨rfl, rfl, rfl, rfl, trivial⟩, ⟨congrArg _ ((plc_absorb (p' := 1) (q := 2) (c := k) (k := i) rfl (by decide) (by simp [plenAt])).trans (by simp [lst])), ⟨_, _, _, _, rfl, rfl, congrArg _ plr_snoc⟩, rows_in fun i hi => by simpa [plenAt] using hi, trivial⟩⟩⟩
  · refine SCmp.no (decide_eq_false (by omega)) ?_
    obtain rfl : k = i := by omega
    exact SRet.pure (frzM (h := 0) (p := 1) rfl rfl fun q hq => hq)
end Go.Proofs.Ytkaooejeljdbnaa

namespace Go.Proofs.Ytkaooejeljdbnaa
open Go
set_option linter.unusedVariables false
set_option linter.unusedSimpArgs false
set_option maxRecDepth 10000
theorem within10_ok (a n : Int) (hn : 0 < n) (hn' : n < 4611686018427387904) : CallP Try.prog 158 [.int .i64 a, .int .i64 n] (.p (.int .i64 (a % n))) [] := by
  refine callG_of_vc (wr := wr0) Γok mixed Try.func158 (by kernel_rfl) rfl (by kernel_rfl) (le_of_ble rfl) (by simp) ?_
  have hw := within_aux (a := a) hn
  have hb := tmod_bd a hn
  obtain ⟨r, hr⟩ : ∃ r, r = a.tmod n := ⟨_, rfl⟩
  rw [← hr] at hw hb
  refine SNe.mk (by omega) ?_
  refine SZ.mk r hr.symm ?_
  by_cases h : r < 0
  · refine SCmp.yes (decide_eq_true (by omega)) ?_
    refine SWrap.i64z (r + n) rfl (by omega) ?_
    rw [if_pos h] at hw
    rw [← hw]
    exact SRet.pure (.p _ (.int _ _))
  · refine SCmp.no (decide_eq_false (by omega)) ?_
    rw [if_neg h] at hw
    rw [← hw]
    exact SRet.pure (.p _ (.int _ _))
theorem within11_ok (a n : Int) (hn : 0 < n) (hn' : n < 4611686018427387904) : CallP Try.prog 60 [.int .i64 a, .int .i64 n] (.p (.int .i64 (a % n))) [] := by
  refine callG_of_vc (wr := wr0) Γok mixed Try.func60 (by kernel_rfl) rfl (by kernel_rfl) (le_of_ble rfl) (by simp) ?_
  have hw := within_aux (a := a) hn
  have hb := tmod_bd a hn
  obtain ⟨r, hr⟩ : ∃ r, r = a.tmod n := ⟨_, rfl⟩
  rw [← hr] at hw hb
  refine SNe.mk (by omega) ?_
  refine SZ.mk r hr.symm ?_
  by_cases h : r < 0
  · refine SCmp.yes (decide_eq_true (by omega)) ?_
    refine SWrap.i64z (r + n) rfl (by omega) ?_
    rw [if_pos h] at hw
    rw [← hw]
    exact SRet.pure (.p _ (.int _ _))
  · refine SCmp.no (decide_eq_false (by omega)) ?_
    rw [if_neg h] at hw
    rw [← hw]
    exact SRet.pure (.p _ (.int _ _))
/-- The raw number that a diagonal's small number is made of. -/
def k10 (ns : List Int) (i : Nat) : Int := if i < ns.length then (ns.getD i 0).tdiv 2 else (i : Int)
def a10 (ns : List Int) (i : Nat) : Rat := ((k10 ns i % 3 - 1 : Int) : Rat)
theorem a10_bz (ns : List Int) (i : Nat) : Bz (a10 ns i) 5 := by
  refine int_bz ?_ (by decide)
  have h1 := Int.emod_nonneg (k10 ns i) (show (3 : Int) ≠ 0 by decide)
  have h2 := Int.emod_lt_of_pos (k10 ns i) (show (0 : Int) < 3 by decide)
  exact bitLen_le (by omega)
def g10 (n most : Int) (ns : List Int) : GV :=
  if 0 < ns.length ∧ ns.getD 0 0 % 2 = 0 then { mkG 1 (gmN n most) 0 (rowG ns) with A := a10 ns } else mkG 1 (gmN n most) 0 (rowG ns)
theorem wf_g10 (n most : Int) (ns : List Int) (h1 : 1 ≤ most) (h6 : most ≤ 6) : Wf (g10 n most ns) 5 13 := by
  have hn := gmN_ok n most h1
  have h : Wf (mkG 1 (gmN n most) 0 (rowG ns)) 5 13 := wf_mkG (by decide) (by decide) hn.1 (by omega) (fun h => by omega) (by decide) (fun _ => rfl)
  unfold g10
  split
  · exact { h with
      bA := fun i _ => a10_bz ns i
      ne := fun i j _ hj => absurd hj (Nat.not_lt_zero _) }
  · exact h
theorem g10_k {n most : Int} {ns : List Int} : (g10 n most ns).k = 1 := by unfold g10; split <;> rfl
theorem g10_n {n most : Int} {ns : List Int} : (g10 n most ns).n = gmN n most := by unfold g10; split <;> rfl
theorem lmake10_ok (m : Bool) (n most : Int) (ns : List Int) (hn : I64 n) (hns : I64s ns) (hm1 : 1 ≤ most) (hm8 : most ≤ 8) :
    CallP Try.prog 112 [.int .i64 n, .sl m 1 (intsP ns), .int .i64 most] (.p (genP noF (g10 n most ns))) [] := by
  have hm := lmake5_ok m 0 n most ns (by unfold I64; omega) hn hns hm1 hm8
  have e1 : gmK 0 = 1 := by decide
  have e2 : gmR 1 n = 0 := if_neg (by decide)
  rw [e1, e2] at hm
  have hN := gmN_ok n most hm1
  unfold g10
  generalize gmN n most = N at hm hN
  refine callG_of_vc (wr := wr0) Γok mixed Try.func112 (by kernel_rfl) rfl (by kernel_rfl) (le_of_ble rfl) (by simp) ?_
  refine SCall.pure (hm) ?_
  refine SZ.mk (ns.length : Int) (by simp) ?_
  by_cases h0 : 0 < ns.length
  · refine SCmp.yes (decide_eq_true (by omega)) ?_
    refine SIdx.ib 0 rfl h0 ?_
    refine SCall.pure (within10_ok (ns.getD 0 0) 2 (by omega) (by omega)) ?_
    by_cases h1 : ns.getD 0 0 % 2 = 0
    · rw [if_pos ⟨h0, h1⟩]
      refine SCmp.yes (eqT h1) ?_
      refine SEmp.e ?_
      refine SLoop.mk Nat (fun i => match i with
          | 0 => ([(0, .p (.int .i64 n)), (1, .p (.sl m 1 (intsP ns))), (6, .bptr 0 0), (7, .bptr 1 0), (8, .p (.int .i64 0))], [.box 59 zgen, .box 59 [.p (.int .i64 1), .p (.int .i64 N), .p (.int .i64 0), .emp, .p (ratsM false []), .p (ratsM false []), .p (ratsM false [])]])
          | j + 1 => ([(0, .p (.int .i64 n)), (1, .p (.sl m 1 (intsP ns))), (6, .bptr 0 0), (7, .bptr 1 0), (8, .p (.int .i64 ((j + 1 : Nat) : Int)))], [.box 59 zgen, .box 59 [.p (.int .i64 1), .p (.int .i64 N), .p (.int .i64 0), .vec 2 3 0 (j + 1), .p (ratsM false []), .p (ratsM false []), .p (ratsM false [])], .vec 37 3 (rats (lst (j + 1) (a10 ns)))]))
        (fun i => i ≤ 2 * N - 1) (fun i => 2 * N - i) 0 [0, 1] (Nat.zero_le _) ⟨rfl, by simp, rfl, rfl, rfl, ⟨rfl, rfl, rfl, rfl, rfl, trivial⟩, ⟨rfl, rfl, trivial⟩⟩ ?_
      intro i hi
      match i, hi with
      | 0, hi =>
        have hi : 0 ≤ 2 * N - 1 := hi
        refine SWrap.i64z ((2 * N : Nat) : Int) (by omega) (by omega) ?_
        refine SWrap.i64z ((2 * N - 1 : Nat) : Int) (by omega) (by omega) ?_
        refine SCmp.yes (decide_eq_true (by omega)) ?_
        have b1 := Int.emod_nonneg (k10 ns (0)) (show (3 : Int) ≠ 0 by decide)
        have b2 := Int.emod_lt_of_pos (k10 ns (0)) (show (0 : Int) < 3 by decide)
        refine SZ.mk (ns.length : Int) (by simp) ?_
        by_cases hs : 0 < ns.length
        · refine SCmp.yes (decide_eq_true (by omega)) ?_
          have ek : k10 ns (0) = (ns.getD (0) 0).tdiv 2 := if_pos hs
          have hq := hns (0)
          have hq2 : -9223372036854775808 ≤ (ns.getD (0) 0).tdiv 2 ∧ (ns.getD (0) 0).tdiv 2 < 9223372036854775808 := by
            unfold I64 at hq
            rw [Int.tdiv_eq_ediv, show Int.sign 2 = 1 from rfl]; split <;> omega
          refine SIdx.ib (0) rfl hs ?_
          refine SNe.mk (by omega) ?_
          refine SWrap.i64z (k10 ns (0)) ek.symm (by omega) ?_
          refine SDraw.mkX (by kernel_rfl) ?_
          repeat refine SOp.mk _ _ (And.intro rfl rfl) rfl ?_
          refine SOp.mk _ _ (SCall.pure (within10_ok (k10 ns (0)) 3 (by omega) (by omega)) (And.intro rfl rfl)) rfl ?_
          refine SOp.mk _ _ (SWrap.i64z (k10 ns (0) % 3 - 1) rfl (by omega) (And.intro rfl rfl)) rfl ?_
          refine SOp.mk _ _ (SCall.pure (rint_ok (k10 ns (0) % 3 - 1) (by omega)) (And.intro rfl rfl)) rfl ?_
          repeat refine SOp.mk _ _ (And.intro rfl rfl) rfl ?_
          refine SOp.mk _ _ (SView.all rfl <| SRoom.mk (by simp) (by simp) (And.intro rfl rfl)) rfl ?_
          repeat refine SOp.mk _ _ (And.intro rfl rfl) rfl ?_
          refine SFin.mk (by kernel_rfl) ?_
          refine SWrap.i64z (((0) + 1 : Nat) : Int) (by omega) (by omega) ?_
          exact ⟨(0) + 1, [0, 1, 3], by omega, by show 2 * N - ((0) + 1) < 2 * N - (0); omega, ⟨rfl, by simp, rfl, rfl, rfl, ⟨rfl, rfl, rfl, rfl, rfl, trivial⟩, ⟨rfl, rfl, rfl, trivial⟩⟩⟩
        · refine SCmp.no (decide_eq_false (by omega)) ?_
          have ek : k10 ns (0) = ((0 : Nat) : Int) := if_neg hs
          have hc : CallP Try.prog 158 [.int .i64 0, .int .i64 3] (.p (.int .i64 (k10 ns (0) % 3))) [] := by
            rw [ek]; exact within10_ok _ 3 (by omega) (by omega)
          refine SDraw.mkX (by kernel_rfl) ?_
          repeat refine SOp.mk _ _ (And.intro rfl rfl) rfl ?_
          refine SOp.mk _ _ (SCall.pure (hc) (And.intro rfl rfl)) rfl ?_
          refine SOp.mk _ _ (SWrap.i64z (k10 ns (0) % 3 - 1) rfl (by omega) (And.intro rfl rfl)) rfl ?_
          refine SOp.mk _ _ (SCall.pure (rint_ok (k10 ns (0) % 3 - 1) (by omega)) (And.intro rfl rfl)) rfl ?_
          repeat refine SOp.mk _ _ (And.intro rfl rfl) rfl ?_
          refine SOp.mk _ _ (SView.all rfl <| SRoom.mk (by simp) (by simp) (And.intro rfl rfl)) rfl ?_
          repeat refine SOp.mk _ _ (And.intro rfl rfl) rfl ?_
          refine SFin.mk (by kernel_rfl) ?_
          refine SWrap.i64z (((0) + 1 : Nat) : Int) (by omega) (by omega) ?_
          exact ⟨(0) + 1, [0, 1, 3], by omega, by show 2 * N - ((0) + 1) < 2 * N - (0); omega, ⟨rfl, by simp, rfl, rfl, rfl, ⟨rfl, rfl, rfl, rfl, rfl, trivial⟩, ⟨rfl, rfl, rfl, trivial⟩⟩⟩
      | j + 1, hi =>
        have hi : j + 1 ≤ 2 * N - 1 := hi
        refine SWrap.i64z ((2 * N : Nat) : Int) (by omega) (by omega) ?_
        refine SWrap.i64z ((2 * N - 1 : Nat) : Int) (by omega) (by omega) ?_
        by_cases hin : j + 1 < 2 * N - 1
        · refine SCmp.yes (decide_eq_true (by omega)) ?_
          have b1 := Int.emod_nonneg (k10 ns (j + 1)) (show (3 : Int) ≠ 0 by decide)
          have b2 := Int.emod_lt_of_pos (k10 ns (j + 1)) (show (0 : Int) < 3 by decide)
          refine SZ.mk (ns.length : Int) (by simp) ?_
          by_cases hs : j + 1 < ns.length
          · refine SCmp.yes (decide_eq_true (by omega)) ?_
            have ek : k10 ns (j + 1) = (ns.getD (j + 1) 0).tdiv 2 := if_pos hs
            have hq := hns (j + 1)
            have hq2 : -9223372036854775808 ≤ (ns.getD (j + 1) 0).tdiv 2 ∧ (ns.getD (j + 1) 0).tdiv 2 < 9223372036854775808 := by
              unfold I64 at hq
              rw [Int.tdiv_eq_ediv, show Int.sign 2 = 1 from rfl]; split <;> omega
            refine SIdx.ib (j + 1) rfl hs ?_
            refine SNe.mk (by omega) ?_
            refine SWrap.i64z (k10 ns (j + 1)) ek.symm (by omega) ?_
            refine SDraw.mkX (by kernel_rfl) ?_
            repeat refine SOp.mk _ _ (And.intro rfl rfl) rfl ?_
            refine SOp.mk _ _ (SCall.pure (within10_ok (k10 ns (j + 1)) 3 (by omega) (by omega)) (And.intro rfl rfl)) rfl ?_
            refine SOp.mk _ _ (SWrap.i64z (k10 ns (j + 1) % 3 - 1) rfl (by omega) (And.intro rfl rfl)) rfl ?_
            refine SOp.mk _ _ (SCall.pure (rint_ok (k10 ns (j + 1) % 3 - 1) (by omega)) (And.intro rfl rfl)) rfl ?_
            repeat refine SOp.mk _ _ (And.intro rfl rfl) rfl ?_
            refine SOp.mk _ _ (SEqN.mk (by simp [lst]) <| SView.all rfl <| SRoom.mk (by simp [lst]; omega) (by simp [lst]; omega) <| SEs.mk _ (app_lst (j + 1) (a10 ns) _ rfl) <| SZN.mk (j + 1 + 1) (by simp [lst]) (And.intro rfl rfl)) rfl ?_
            repeat refine SOp.mk _ _ (And.intro rfl rfl) rfl ?_
            refine SFin.mk (by kernel_rfl) ?_
            refine SWrap.i64z (((j + 1) + 1 : Nat) : Int) (by omega) (by omega) ?_
            exact ⟨(j + 1) + 1, [0, 1, 4], by omega, by show 2 * N - ((j + 1) + 1) < 2 * N - (j + 1); omega, ⟨rfl, by simp, rfl, rfl, rfl, ⟨rfl, rfl, rfl, rfl, rfl, trivial⟩, ⟨rfl, rfl, rfl, trivial⟩⟩⟩
          · refine SCmp.no (decide_eq_false (by omega)) ?_
            have ek : k10 ns (j + 1) = ((j + 1 : Nat) : Int) := if_neg hs
            have hc : CallP Try.prog 158 [.int .i64 ((j + 1 : Nat) : Int), .int .i64 3] (.p (.int .i64 (k10 ns (j + 1) % 3))) [] := by
              rw [ek]; exact within10_ok _ 3 (by omega) (by omega)
            refine SDraw.mkX (by kernel_rfl) ?_
            repeat refine SOp.mk _ _ (And.intro rfl rfl) rfl ?_
            refine SOp.mk _ _ (SCall.pure (hc) (And.intro rfl rfl)) rfl ?_
            refine SOp.mk _ _ (SWrap.i64z (k10 ns (j + 1) % 3 - 1) rfl (by omega) (And.intro rfl rfl)) rfl ?_
            refine SOp.mk _ _ (SCall.pure (rint_ok (k10 ns (j + 1) % 3 - 1) (by omega)) (And.intro rfl rfl)) rfl ?_
            repeat refine SOp.mk _ _ (And.intro rfl rfl) rfl ?_
            refine SOp.mk _ _ (SEqN.mk (by simp [lst]) <| SView.all rfl <| SRoom.mk (by simp [lst]; omega) (by simp [lst]; omega) <| SEs.mk _ (app_lst (j + 1) (a10 ns) _ rfl) <| SZN.mk (j + 1 + 1) (by simp [lst]) (And.intro rfl rfl)) rfl ?_
            repeat refine SOp.mk _ _ (And.intro rfl rfl) rfl ?_
            refine SFin.mk (by kernel_rfl) ?_
            refine SWrap.i64z (((j + 1) + 1 : Nat) : Int) (by omega) (by omega) ?_
            exact ⟨(j + 1) + 1, [0, 1, 4], by omega, by show 2 * N - ((j + 1) + 1) < 2 * N - (j + 1); omega, ⟨rfl, by simp, rfl, rfl, rfl, ⟨rfl, rfl, rfl, rfl, rfl, trivial⟩, ⟨rfl, rfl, rfl, trivial⟩⟩⟩
        · refine SCmp.no (decide_eq_false (by omega)) ?_
          have hl : cntA 1 N = 2 * N - 1 := if_pos (.inl rfl)
          refine SRet.pure (.aggp (ps := genC noF { mkG 1 N 0 (rowG ns) with A := a10 ns }) (fun d hd => by simp at hd; rcases hd with rfl | rfl | rfl | rfl | rfl | rfl | rfl <;> rfl) rfl fun i c d e1 e2 => ?_)
          match i, e1, e2 with
          | 0, e1, e2 => cases e1; cases e2; exact .p _ (.int _ _)
          | 1, e1, e2 => cases e1; cases e2; exact .p _ (.int _ _)
          | 2, e1, e2 => cases e1; cases e2; exact .p _ (.int _ _)
          | 3, e1, e2 => cases e1; cases e2; exact frzS (N := j + 1) (F := a10 ns) rfl (by omega) (by show j + 1 = cntA 1 N; omega) fun t _ => by rw [Nat.zero_add]
          | 4, e1, e2 => cases e1; cases e2; exact .p _ (.sl _ _ (pers_rats _))
          | 5, e1, e2 => cases e1; cases e2; exact .p _ (.sl _ _ (pers_rats _))
          | 6, e1, e2 => cases e1; cases e2; exact .p _ (.sl _ _ (pers_rats _))
    · rw [if_neg fun h => h1 h.2]
      refine SCmp.no (eqF h1) ?_
      exact SRet.pure (.p _ (pers_gen _))
  · rw [if_neg fun h => h0 h.1]
    refine SCmp.no (decide_eq_false (by omega)) ?_
    exact SRet.pure (.p _ (pers_gen _))
end Go.Proofs.Ytkaooejeljdbnaa

namespace Go.Proofs.Ytkaooejeljdbnaa
open Go
set_option linter.unusedVariables false
set_option linter.unusedSimpArgs false
set_option maxRecDepth 10000
theorem rall_ok (m m' q q' : Bool) (n w : Nat) (A : Nat → Nat → Rat) {a : Nat} (hA : ∀ i k, i < n → k < w → Bz (A i k) a) (ha : a + a ≤ 1048576) (hn : n ≤ 1000) (hw : w ≤ 1000) :
    CallP Try.prog 59 [matP m m' n w A, matP q q' n w A] (.p (.bool true)) [] := by
  refine callG_of_vc (wr := wr0) Γok mixed Try.func59 (by kernel_rfl) rfl (by kernel_rfl) (le_of_ble rfl) (by simp) ?_
  refine SZ.mk (n : Int) (by simp) ?_
  refine SZ.mk (n : Int) (by simp) ?_
  refine SCmp.no (neF rfl) ?_
  refine SLoop.mk Nat (fun i => ([(0, .p (matP m m' n w A)), (1, .p (matP q q' n w A)), (5, .p (.int .i64 i))], []))
    (fun i => i ≤ n) (fun i => n - i) 0 [] (Nat.zero_le _) ⟨rfl, .nil, rfl, rfl, rfl, ⟨rfl, rfl, rfl, trivial⟩, trivial⟩ ?_
  intro i hi
  have hi : i ≤ n := hi
  refine SZ.mk (n : Int) (by simp) ?_
  by_cases hin : i < n
  · refine SCmp.yes (decide_eq_true (by omega)) ?_
    have hl : Bl (lst w (A i)) a := Bl.lst fun k hk => hA i k hin hk
    have hR := rrows_ok m' q' (lst w (A i)) (lst w (A i)) hl hl ha (by rw [lst_length]; omega)
    rw [decide_eq_true rfl] at hR
    refine SDraw.mk (by kernel_rfl) ?_
    repeat refine SOp.mk _ _ (And.intro rfl rfl) rfl ?_
    refine SOp.mk _ _ (SIdx.mf i rfl hin (And.intro rfl rfl)) rfl ?_
    repeat refine SOp.mk _ _ (And.intro rfl rfl) rfl ?_
    refine SOp.mk _ _ (SIdx.mf i rfl hin (And.intro rfl rfl)) rfl ?_
    repeat refine SOp.mk _ _ (And.intro rfl rfl) rfl ?_
    refine SOp.mk _ _ (SCall.pure (hR) (And.intro rfl rfl)) rfl ?_
    refine SOp.mk _ _ (SCmp.no rfl (And.intro rfl rfl)) rfl ?_
    refine SWrap.i64z ((i + 1 : Nat) : Int) (by omega) (by omega) ?_
    exact ⟨i + 1, [], hin, by show n - (i + 1) < n - i; omega, ⟨rfl, .nil, rfl, rfl, rfl, ⟨rfl, rfl, rfl, trivial⟩, trivial⟩⟩
  · refine SCmp.no (decide_eq_false (by omega)) ?_
    exact SRet.pure (.tf _)
/-- What is told of a tree is told of another one. -/
def PRle (p' p : PV) : Prop := ∀ w FB v, PR w FB p' v → PR w FB p v
theorem PRle.refl (p : PV) : PRle p p := fun _ _ _ h => h
theorem PRle.nil (m : Bool) (W : Nat) : PRle (.raw (.slice none 0 0)) (.sl m W []) := fun w FB v h => by cases h; exact .nil _ _ _
theorem PRle.agg {cs' cs : List PV} (hl : cs'.length = cs.length) (ho : ∀ c ∈ cs, c.one = true) (h : ∀ (i : Nat) c' c, cs'[i]? = some c' → cs[i]? = some c → PRle c' c) : PRle (.agg cs') (.agg cs) := fun w FB v hv => by
  cases hv with
  | agg _ vs hone hl' h' =>
    refine .agg cs vs ho (by rw [hl', hl]) fun i c v e1 e2 => ?_
    have hi : i < cs'.length := by rw [hl]; exact (List.getElem?_eq_some_iff.1 e1).1
    exact h i cs'[i] c (List.getElem?_eq_getElem hi) e1 _ _ _ (h' i _ v (List.getElem?_eq_getElem hi) e2)
theorem CallG.weak {P : Program} {f : FuncId} {pvs pvs' : List PV} {r : AV} {nb : List Blk} (hc : CallP P f pvs r nb) (hl : pvs'.length = pvs.length) (h : ∀ (i : Nat) p' p, pvs'[i]? = some p' → pvs[i]? = some p → PRle p' p) : CallP P f pvs' r nb :=
  ⟨hc.fn, fun w F Bor β vs ha => hc.run w F Bor β vs { ha with
    len := by rw [ha.len, List.length_map, List.length_map, hl]
    rel := fun i a v e1 e2 => by
      rw [List.getElem?_map] at e1
      cases e : pvs[i]? with
      | none => rw [e] at e1; cases e1
      | some p =>
        rw [e] at e1; cases e1
        have hi : i < pvs'.length := by rw [hl]; exact (List.getElem?_eq_some_iff.1 e).1
        have e' : pvs'[i]? = some pvs'[i] := List.getElem?_eq_getElem hi
        have := ha.rel i (.p pvs'[i]) v (by rw [List.getElem?_map, e']; rfl) e2
        exact .p (h i _ p e' e _ _ _ this.pOf)
    ma := fun a ha k hk => by obtain ⟨v, _, rfl⟩ := List.mem_map.1 ha; simp only [AV.men] at hk }⟩
end Go.Proofs.Ytkaooejeljdbnaa

namespace Go.Proofs.Ytkaooejeljdbnaa
open Go
set_option linter.unusedVariables false
set_option linter.unusedSimpArgs false
set_option maxRecDepth 10000
structure CauG (g : GV) (b c : Nat) : Prop extends Wf g b c where
  k5 : g.k = 5
theorem CauG.la {g : GV} {b c : Nat} (h : CauG g b c) : g.la = g.n := h.toWf.la3 (by have := h.k5; omega)
theorem CauG.lb {g : GV} {b c : Nat} (h : CauG g b c) : g.lb = g.n := h.toWf.lb5 (by have := h.k5; omega)
end Go.Proofs.Ytkaooejeljdbnaa

namespace Go.Proofs.Ytkaooejeljdbnaa
open Go
set_option linter.unusedVariables false
set_option linter.unusedSimpArgs false
set_option maxRecDepth 10000
theorem PRle.gen {m : Nat → Bool} {g : GV} {k n r : Int} {a b c d : PV} (hk : k = g.k) (hn : n = g.n) (hr : r = g.r) (ha : PRle a (ratsM (m 0) (lst g.la g.A))) (hb : PRle b (ratsM (m 1) (lst g.lb g.B))) (hc : PRle c (ratsM (m 2) (lst g.lh g.G))) (hd : PRle d (ratsM (m 3) (lst g.lh g.H))) :
    PRle (.agg [.int .i64 k, .int .i64 n, .int .i64 r, a, b, c, d]) (genP m g) := by
  subst hk; subst hn; subst hr
  refine PRle.agg rfl (fun c hc => ?_) fun i c' c e1 e2 => ?_
  · simp only [genC, List.mem_cons, List.not_mem_nil, or_false] at hc
    rcases hc with rfl | rfl | rfl | rfl | rfl | rfl | rfl <;> rfl
  · match i, e1, e2 with
    | 0, e1, e2 => cases e1; cases e2; exact .refl _
    | 1, e1, e2 => cases e1; cases e2; exact .refl _
    | 2, e1, e2 => cases e1; cases e2; exact .refl _
    | 3, e1, e2 => cases e1; cases e2; exact ha
    | 4, e1, e2 => cases e1; cases e2; exact hb
    | 5, e1, e2 => cases e1; cases e2; exact hc
    | 6, e1, e2 => cases e1; cases e2; exact hd
theorem CallG.weak1 {P : Program} {f : FuncId} {p p' : PV} {r : AV} {nb : List Blk} (hc : CallP P f [p] r nb) (h : PRle p' p) : CallP P f [p'] r nb :=
  CallG.weak hc rfl fun i p1 p2 e1 e2 => by
    match i, e1, e2 with
    | 0, e1, e2 => cases e1; cases e2; exact h
end Go.Proofs.Ytkaooejeljdbnaa

namespace Go.Proofs.Ytkaooejeljdbnaa
open Go
set_option linter.unusedVariables false
set_option linter.unusedSimpArgs false
set_option maxRecDepth 10000
def m11 : Nat → Bool
  | 0 => true
  | _ => false
def g11 : GV := ⟨1, 1, 0, fun _ => ((4 : Int) : Rat), fun _ => 0, fun _ => 0, fun _ => 0⟩
theorem wf_g11 : Wf g11 5 13 where
  k1 := by decide
  k7 := by decide
  n1 := by decide
  n6 := by decide
  r2 := by decide
  r1 := fun h => by rcases h with h | h <;> cases h
  r0 := fun _ => rfl
  bA := fun i _ => int_bz (by decide) (by decide)
  bB := fun i _ => bz_zero.mono (by decide)
  bG := fun i _ => bz_zero.mono (by decide)
  bH := fun i _ => bz_zero.mono (by decide)
  ne := fun i j _ hj => absurd hj (Nat.not_lt_zero _)
  bc := by decide
  c4 := by decide
/-- The last step changes no row. -/
theorem GsB.of' {A : Nat → Nat → Rat} {n b : Nat} (n1 : 1 ≤ n) (hA : ∀ i j, i < n → j < n → Bz (A i j) b) : GsB A n (bb b (n - 1)) := fun k hk i j hi hj => by
  by_cases e : k = n
  · obtain ⟨d, rfl⟩ : ∃ d, n = d + 1 := ⟨n - 1, by omega⟩
    rw [e, gs_le (.inl (by omega))]
    exact (gs_bz hA d (by omega) i j hi hj)
  · exact (gs_bz hA k hk i j hi hj).mono (bb_mono (by omega))
/-- Digits of what is left behind any step, of a Gen of the statements. -/
theorem gsB_wf {g : GV} (h : Wf g 5 13) (h5 : g.n ≤ 5) : GsB (ent g) g.n 42100 := fun k hk i j hi hj =>
  (GsB.of' (b := 163) h.n1 (fun i j hi hj => h.bEnt hi hj) k hk i j hi hj).mono (Nat.le_trans (bb_mono (show g.n - 1 ≤ 4 by omega)) (by decide +kernel))
/-- One row, of one number, made anew. -/
theorem all1_ok (A : Nat → Nat → Rat) {a : Nat} (hA : Bz (A 0 0) a) (ha : a + a ≤ 1048576) : CallP Try.prog 59 [matP false false 1 1 A, .sl true 1 [ratsM true (lst 1 fun _ => A 0 0)]] (.p (.bool true)) [] := by
  have h := rall_ok false false true true 1 1 A (a := a) (fun i k hi hk => by
    obtain rfl : i = 0 := by omega
    obtain rfl : k = 0 := by omega
    exact hA) ha (by decide) (by decide)
  exact h
theorem known11_ok : CallP Try.prog 55 [] (.p (.bool true)) [] := by
  have hf := sfactor_ok m11 g11 wf_g11 (gsB_wf wf_g11 (by decide)) (by decide) (fun t ht => by
    obtain rfl : t = 0 := by have : t < 1 := ht; omega
    show ent g11 0 0 ≠ 0
    decide +kernel)
  have e1 : lowM (ent g11) 0 0 = ((1 : Int) : Rat) := by decide +kernel
  have e2 : uppM (ent g11) 0 0 = ((4 : Int) : Rat) := by decide +kernel
  have a1 := all1_ok (lowM (ent g11)) (a := 5) (by rw [e1]; exact int_bz (by decide) (by decide)) (by decide)
  have a2 := all1_ok (uppM (ent g11)) (a := 5) (by rw [e2]; exact int_bz (by decide) (by decide)) (by decide)
  rw [e1] at a1
  rw [e2] at a2
  refine callG_of_vc (wr := wr0) Γok mixed Try.func55 (by kernel_rfl) rfl (by kernel_rfl) (le_of_ble rfl) (by simp) ?_
  refine SCall.pure (rint_ok 4 (by decide)) ?_
  refine SView.all rfl <| SCall.pureT (pvs := [.agg [.int .i64 1, .int .i64 1, .int .i64 0, ratsM true (lst 1 g11.A), znil, znil, znil]]) (CallG.weak1 hf (.gen rfl rfl rfl (.refl _) (.nil _ _) (.nil _ _) (.nil _ _))) (fun _ => rfl) ?_
  refine SCmp.yes (rfl) ?_
  refine SCmp.yes (rfl) ?_
  refine SCall.pure (rint_ok 1 (by decide)) ?_
  refine SLendR.mk [ratsM true (lst 1 fun _ => ((1 : Int) : Rat))] rfl rfl (fun i c p e1 e2 => ?_) ?_
  · match i, e1, e2 with
    | 0, e1, e2 => cases e1; cases e2; exact .vec (es := rats (lst 1 fun _ => ((1 : Int) : Rat))) rfl (by decide)
  refine SCall.pure (a1) ?_
  refine SCond.mk (fun _ => ?_) (fun h => by cases h)
  refine SCall.pure (rint_ok 4 (by decide)) ?_
  refine SLendR.mk [ratsM true (lst 1 fun _ => ((4 : Int) : Rat))] rfl rfl (fun i c p e1 e2 => ?_) ?_
  · match i, e1, e2 with
    | 0, e1, e2 => cases e1; cases e2; exact .vec (es := rats (lst 1 fun _ => ((4 : Int) : Rat))) rfl (by decide)
  refine SCall.pure (a2) ?_
  exact SRet.pure (.p _ (.bool _))
/-- Of what both triangles' numbers are made: few digits. -/
theorem low_bz {g : GV} (h : Wf g 5 13) (h5 : g.n ≤ 5) {i j : Nat} (hi : i < g.n) (hj : j < g.n) : Bz (lowM (ent g) i j) 84201 := by
  have hB := gsB_wf h h5
  unfold lowM
  split
  · exact bz_one.mono (by omega)
  · split
    · exact ((hB j (by omega) i j hi hj).div (hB j (by omega) j j hj hj)).mono (by omega)
    · exact bz_zero.mono (by omega)
theorem upp_bz {g : GV} (h : Wf g 5 13) (h5 : g.n ≤ 5) {i j : Nat} (hi : i < g.n) (hj : j < g.n) : Bz (uppM (ent g) i j) 42101 := by
  unfold uppM
  split
  · exact bz_zero.mono (by omega)
  · exact (gsB_wf h h5 i (by omega) i j hi hj).mono (by omega)
end Go.Proofs.Ytkaooejeljdbnaa

namespace Go.Proofs.Ytkaooejeljdbnaa
open Go
set_option linter.unusedVariables false
set_option linter.unusedSimpArgs false
set_option maxRecDepth 10000
theorem lmake11z_ok (m : Bool) (n : Int) (ns : List Int) (hn : I64 n) (hns : I64s ns) : CallP Try.prog 61 [.int .i64 0, .int .i64 n, .sl m 1 (intsP ns)] (.p (genP noF (g10 n 5 ns))) [] := by
  have w2 := within11_ok 0 2 (by omega) (by omega)
  have hm := lmake10_ok m n 5 ns hn hns (by omega) (by omega)
  refine callG_of_vc (wr := wr0) Γok mixed Try.func61 (by kernel_rfl) rfl (by kernel_rfl) (le_of_ble rfl) (by simp) ?_
  refine SCall.pure (w2) ?_
  refine SCmp.yes (eqT rfl) ?_
  refine SCall.pure (hm) ?_
  exact SRet.pure (.p _ (pers_gen _))
/-- The first rows and columns of a Toeplitz matrix, by themselves. -/
def gcut (g : GV) (K : Nat) : GV := ⟨1, K, 0, fun i => g.A (g.n - K + i), fun _ => 0, fun _ => 0, fun _ => 0⟩
theorem la_gcut {g : GV} {K : Nat} : (gcut g K).la = 2 * K - 1 := by
  unfold GV.la cntA gcut
  rw [if_pos (.inl rfl)]
theorem wf_gcut {g : GV} {K : Nat} (h : Wf g 5 13) (hk : g.k = 1) (k1 : 1 ≤ K) (kn : K ≤ g.n) : Wf (gcut g K) 5 13 where
  k1 := by show 1 ≤ 1; decide
  k7 := by show 1 ≤ 7; decide
  n1 := k1
  n6 := Nat.le_trans kn h.n6
  r2 := by show 0 ≤ 2; decide
  r1 := fun h => by rcases h with h | h <;> cases h
  r0 := fun _ => rfl
  bA := fun i hi => by
    have h1 : (gcut g K).la = 2 * K - 1 := la_gcut
    have h2 := h.la12 (.inl hk)
    exact h.bA _ (by omega)
  bB := fun i _ => bz_zero.mono (by decide)
  bG := fun i _ => bz_zero.mono (by decide)
  bH := fun i _ => bz_zero.mono (by decide)
  ne := fun i j _ hj => absurd hj (Nat.not_lt_zero _)
  bc := by decide
  c4 := by decide
theorem ent_gcut {g : GV} {K i j : Nat} (hk : g.k = 1) (kn : K ≤ g.n) (hi : i < K) (hj : j < K) : ent (gcut g K) i j = ent g i j := by
  unfold ent
  rw [if_pos hk]
  show g.A (g.n - K + (i + K - 1 - j)) = _
  congr 1; omega
theorem low_congr {A B : Nat → Nat → Rat} {n i j : Nat} (h : ∀ i j, i < n → j < n → A i j = B i j) (hi : i < n) (hj : j < n) : lowM A i j = lowM B i j := by
  unfold lowM
  rw [gs_congr h j (by omega) i j hi hj, gs_congr h j (by omega) j j hj hj]
theorem upp_congr {A B : Nat → Nat → Rat} {n i j : Nat} (h : ∀ i j, i < n → j < n → A i j = B i j) (hi : i < n) (hj : j < n) : uppM A i j = uppM B i j := by
  unfold uppM
  rw [gs_congr h i (by omega) i j hi hj]
theorem cut_lst {N a b : Nat} {f : Nat → Rat} (h1 : a ≤ b) (h2 : b ≤ N) : ((rats (lst N f)).take b).drop a = rats (lst (b - a) fun i => f (a + i)) := by
  apply List.ext_getElem
  · simp [lst]; omega
  · intro i h1 h2
    simp [lst, rats]
set_option maxHeartbeats 1000000 in
theorem schurParts_ok (m : Bool) (n k : Int) (ns : List Int) (hn : I64 n) (hk : I64 k) (hns : I64s ns) : CallP Try.prog 13 [.int .i64 n, .sl m 1 (intsP ns), .int .i64 k] (.p (.bool true)) [] := by
  have hm := lmake11z_ok m n ns hn hns
  have H := wf_g10 n 5 ns (by omega) (by omega)
  have hk1 : (g10 n 5 ns).k = 1 := g10_k
  have h5 : (g10 n 5 ns).n ≤ 5 := by rw [g10_n]; have := gmN_ok n 5 (by omega); omega
  generalize g10 n 5 ns = g at hm H hk1 h5
  have n1 := H.n1
  have hB := gsB_wf H h5
  have la := H.la12 (.inl hk1)
  obtain ⟨b1, b2, b3⟩ := brkN_spec (ent g) g.n
  by_cases hz : brkN (ent g) g.n < g.n
  · have f1 := sfactorZ_ok noF g H hB (by decide) hz
    refine callG_of_vc (wr := wr0) Γok mixed Try.func13 (by kernel_rfl) rfl (by kernel_rfl) (le_of_ble rfl) (by simp) ?_
    refine SCall.pure (known11_ok) ?_
    refine SCmp.no (rfl) ?_
    refine SCall.pure (hm) ?_
    refine SCall.pureT (f1) (fun _ => rfl) ?_
    refine SCmp.yes (rfl) ?_
    refine SCmp.yes (rfl) ?_
    exact SRet.pure (.tf _)
  · have hp : ∀ t, t < g.n → piv (ent g) t ≠ 0 := fun t ht => b2 t (by omega)
    have f1 := sfactor_ok noF g H hB (by decide) hp
    have w := within11_ok k g.n (by omega) (by omega)
    have w1 := Int.emod_nonneg k (show (g.n : Int) ≠ 0 by omega)
    have w2 := Int.emod_lt_of_pos k (show (0 : Int) < g.n by omega)
    obtain ⟨K, hK⟩ : ∃ K : Nat, 1 + k % (g.n : Int) = K := ⟨(1 + k % (g.n : Int)).toNat, by omega⟩
    have k1 : 1 ≤ K := by omega
    have kn : K ≤ g.n := by omega
    have H2 := wf_gcut H hk1 k1 kn
    have he : ∀ i j, i < K → j < K → ent (gcut g K) i j = ent g i j := fun i j hi hj => ent_gcut hk1 kn hi hj
    have hp2 : ∀ t, t < K → piv (ent (gcut g K)) t ≠ 0 := fun t ht => by
      have e : piv (ent (gcut g K)) t = piv (ent g) t := gs_congr he t (by omega) t t ht ht
      rw [e]; exact hp t (by omega)
    have f2 := sfactor_ok m11 (gcut g K) H2 (gsB_wf H2 (show K ≤ 5 by omega)) (by decide) hp2
    have f2 : CallP Try.prog 57 [genP m11 (gcut g K)] (.tup [.p (matP false false K K (lowM (ent g))), .p (matP false false K K (uppM (ent g))), .p (.int .i64 0), .p (.int .i64 0)]) [] := by
      have e1 : matP false false K K (lowM (ent (gcut g K))) = matP false false K K (lowM (ent g)) := matP_congr fun i j hi hj => low_congr he hi hj
      have e2 : matP false false K K (uppM (ent (gcut g K))) = matP false false K K (uppM (ent g)) := matP_congr fun i j hi hj => upp_congr he hi hj
      rw [← e1, ← e2]; exact f2
    have q1 := rall_ok false false false false K K (lowM (ent g)) (fun i k hi hk => low_bz H h5 (i := i) (j := k) (by omega) (by omega)) (by decide) (by omega) (by omega)
    have q2 := rall_ok false false false false K K (uppM (ent g)) (fun i k hi hk => upp_bz H h5 (i := i) (j := k) (by omega) (by omega)) (by decide) (by omega) (by omega)
    have lk : (gcut g K).la = 2 * K - 1 := la_gcut
    refine callG_of_vc (wr := wr0) Γok mixed Try.func13 (by kernel_rfl) rfl (by kernel_rfl) (le_of_ble rfl) (by simp) ?_
    refine SCall.pure (known11_ok) ?_
    refine SCmp.no (rfl) ?_
    refine SCall.pure (hm) ?_
    refine SCall.pureT (f1) (fun _ => rfl) ?_
    refine SCmp.no (neF rfl) ?_
    refine SCall.pure (w) ?_
    refine SWrap.i64z (K : Int) hK (by omega) ?_
    refine SWrap.i64z ((g.n - K : Nat) : Int) (by omega) (by omega) ?_
    refine SWrap.i64z ((g.n + K : Nat) : Int) (by omega) (by omega) ?_
    refine SWrap.i64z ((g.n + K - 1 : Nat) : Int) (by omega) (by omega) ?_
    refine SZ.mk ((g.n + K - 1 : Nat) : Int) rfl ?_
    refine SLt.mk (by simp) ?_
    refine SCut.mk (g.n - K) (g.n + K - 1) rfl rfl (by omega) (by simp [lst]; omega) ?_
    refine SEs.mk (rats (lst (gcut g K).la (gcut g K).A)) (by rw [cut_lst (by omega) (by omega), lk, show g.n + K - 1 - (g.n - K) = 2 * K - 1 by omega]; rfl) ?_
    refine SRoom.mk (by simp [lst]; omega) (by simp [lst]; omega) ?_
    refine SView.all (by simp [lst]) <| SCall.pureT (pvs := [.agg [.int .i64 1, .int .i64 K, .int .i64 0, ratsM true (lst (gcut g K).la (gcut g K).A), znil, znil, znil]]) (CallG.weak1 f2 (.gen rfl rfl rfl (.refl _) (.nil _ _) (.nil _ _) (.nil _ _))) (fun _ => rfl) ?_
    refine SCmp.no (neF rfl) ?_
    refine SZ.mk (g.n : Int) (by simp) ?_
    refine SCmp.no (neF rfl) ?_
    refine SZ.mk (g.n : Int) (by simp) ?_
    refine SCmp.no (neF rfl) ?_
    refine SLoop.mk Nat (fun i => ([(2, .p (.int .i64 K)), (7, .bptr 0 0), (8, .p (matP false false g.n g.n (lowM (ent g)))), (9, .p (matP false false g.n g.n (uppM (ent g)))), (12, .p (matP false false K K (lowM (ent g)))), (13, .p (matP false false K K (uppM (ent g)))), (16, .p (.int .i64 i))], [.box 59 (genA noF g)]))
      (fun i => i ≤ g.n) (fun i => g.n - i) 0 [0] (Nat.zero_le _) ⟨rfl, by simp, rfl, rfl, rfl, ⟨rfl, rfl, rfl, rfl, rfl, rfl, rfl, trivial⟩, ⟨rfl, trivial⟩⟩ ?_
    intro i hi
    have hi : i ≤ g.n := hi
    by_cases hin : i < g.n
    · refine SCmp.yes (decide_eq_true (by omega)) ?_
      refine SDraw.mk (by kernel_rfl) ?_
      repeat refine SOp.mk _ _ (And.intro rfl rfl) rfl ?_
      refine SOp.mk _ _ (SIdx.mf i rfl hin (And.intro rfl rfl)) rfl ?_
      repeat refine SOp.mk _ _ (And.intro rfl rfl) rfl ?_
      refine SOp.mk _ _ (SZ.mk (g.n : Int) (by simp [lst]) (And.intro rfl rfl)) rfl ?_
      repeat refine SOp.mk _ _ (And.intro rfl rfl) rfl ?_
      refine SOp.mk _ _ (SCmp.no (neF rfl) (And.intro rfl rfl)) rfl ?_
      repeat refine SOp.mk _ _ (And.intro rfl rfl) rfl ?_
      refine SOp.mk _ _ (SIdx.mf i rfl hin (And.intro rfl rfl)) rfl ?_
      repeat refine SOp.mk _ _ (And.intro rfl rfl) rfl ?_
      refine SOp.mk _ _ (SZ.mk (g.n : Int) (by simp [lst]) (And.intro rfl rfl)) rfl ?_
      repeat refine SOp.mk _ _ (And.intro rfl rfl) rfl ?_
      refine SOp.mk _ _ (SCmp.no (neF rfl) (And.intro rfl rfl)) rfl ?_
      repeat refine SOp.mk _ _ (And.intro rfl rfl) rfl ?_
      refine SWrap.i64z ((i + 1 : Nat) : Int) (by omega) (by omega) ?_
      exact ⟨i + 1, [0], hin, by show g.n - (i + 1) < g.n - i; omega, ⟨rfl, by simp, rfl, rfl, rfl, ⟨rfl, rfl, rfl, rfl, rfl, rfl, rfl, trivial⟩, ⟨rfl, trivial⟩⟩⟩
    · refine SCmp.no (decide_eq_false (by omega)) ?_
      refine SCall.pure (rcut_ok false false g.n g.n K (lowM (ent g)) kn kn (by omega)) ?_
      refine SCall.pure (q1) ?_
      refine SCond.mk (fun _ => ?_) (fun h => by cases h)
      refine SCall.pure (rcut_ok false false g.n g.n K (uppM (ent g)) kn kn (by omega)) ?_
      refine SCall.pure (q2) ?_
      exact SRet.pure (.p _ (.bool _))
end Go.Proofs.Ytkaooejeljdbnaa

namespace Go.Proofs.Ytkaooejeljdbnaa
open Go Go.ChangeShapes Go.WideShapes Go.ChangeAt Go.RowKit Go.WideElems
set_option linter.unusedVariables false
set_option linter.unusedSimpArgs false
theorem Try.own : ownKnob Try.prog.godebug = none := by kernel_rfl
theorem Try.laidOut : laidOutB Try.prog = true := by kernel_rfl
theorem Try.cells3 : Try.prog.cellsOf 3 = 1 := by kernel_rfl
abbrev oldF (W : World) : Nat → Prop := fun b => b < W.heap.size
theorem law_call {P : Program} {f : FuncId} {pvs : List PV} (hc : CallP P f pvs (.p (.bool true)) []) {W : World} {vs : List Value} (hl : vs.length = pvs.length) (hv : ∀ (i : Nat) p v, pvs[i]? = some p → vs[i]? = some v → PR W (FBof noBor (oldF W)) p v) :
    Calls P f vs.toArray W fun e W' => e = .returned (.bool true) ∧ Below W.heap.size W W' := by
  refine (hc.run W (oldF W) noBor (fun _ => (none, 0)) vs ⟨by simp [hl], fun i a v e1 e2 => ?_, fun h => by rw [look_nil]; trivial, fun b h => h, fun b h => h.elim, fun h b hl => ?_, fun h h' b hl => ?_, fun a ha k hk => ?_, fun h k hk => ?_⟩).mono ?_
  · rw [List.getElem?_map] at e1
    cases hp : pvs[i]? with
    | none => rw [hp] at e1; cases e1
    | some p => rw [hp] at e1; cases e1; exact .p (hv i p v hp e2)
  · rw [look_nil] at hl; exact hl.elim
  · rw [look_nil] at hl; exact hl.elim
  · obtain ⟨p, _, rfl⟩ := List.mem_map.1 ha; simp only [AV.men] at hk
  · rw [look_nil] at hk; exact hk.elim
  · intro e W' ⟨v, F', β', he, hr⟩
    subst he
    refine ⟨?_, hr.os, hr.tape, hr.output, hr.size, fun b hb => hr.same b hb fun h hl => ?_⟩
    · have := hr.rel
      cases this with | p h => cases h; rfl
    · rw [look_nil] at hl; exact hl.elim
section
variable {H : Type} {enc : TypeId × Value → H} {P : Program} {W : World} {base : Nat} {sp : Nat → Bool} {held : Bool}
theorem openInt {t : TypeId} {r : Go.Reach} {b0 : Nat} {v : Value} {d : DataW H} {ps : List MemPlace} (ht : P.underlying t = some (.int .i64)) (hval : Value.okWide P W r b0 t v) (hd : DataW.Trod enc P W base sp held t v d ps) :
    ∃ n, v = .int .i64 n ∧ I64 n := by
  obtain ⟨n, h1, h2, h3, h4⟩ := open_int ht hval hd
  refine ⟨n, h1, ?_⟩
  simp [Lit.wf, IntKind.min, IntKind.max, IntKind.signed, IntKind.bits] at h4
  exact ⟨by omega, by omega⟩
theorem openInts {t e : TypeId} {r : Go.Reach} {b0 : Nat} {v : Value} {d : DataW H} {ps : List MemPlace} (ht : P.underlying t = some (.slice e)) (he : P.underlying e = some (.int .i64)) (hc : P.cellsOf e = 1) (hval : Value.okWide P W r b0 t v)
    (hd : DataW.Trod enc P W base sp held t v d ps) (hlt : ∀ x ∈ ps, x.block < W.heap.size) : ∃ zs : List Int, I64s zs ∧ PR W (FBof noBor (oldF W)) (.sl false 1 (intsP zs)) v := by
  obtain ⟨a0, len, cap, rfl⟩ := okWide_slice ht hval
  obtain ⟨fuel, hf⟩ := hd
  rcases open_ints ht he hc hf with ⟨hcs, hx⟩ | ⟨a, len', cap', zs, hcs, _, hl, hm, hz, hx, hcell, hwz⟩
  · simp [Value.cells] at hcs
    obtain ⟨rfl, rfl, rfl⟩ := hcs
    exact ⟨[], fun i => by simp [I64], .nil _ _ _⟩
  · simp [Value.cells] at hcs
    obtain ⟨rfl, rfl, rfl⟩ := hcs
    simp only [Prod.mk.injEq] at hx
    obtain ⟨_, rfl⟩ := hx
    have hlen : len ≤ zs.length := by rw [hz]; split <;> omega
    have hspot : a.spot = none := by
      simp only [Value.okWide, ht, Cell.okWide] at hval
      simp [Cell.ok, World.has] at hval
      first | exact hval.1.2.1 | exact hval.2.1 | (have := hval; simp_all)
    obtain ⟨b, off, spot⟩ := a
    simp only at hspot
    subst hspot
    refine ⟨zs.take len, fun i => ?_, ?_⟩
    · by_cases hi : i < (zs.take len).length
      · have hm : (zs.take len).getD i 0 ∈ zs := by
          have : (zs.take len).getD i 0 = (zs.take len)[i] := by simp only [List.getD, List.getElem?_eq_getElem hi, Option.getD_some]
          rw [this]
          exact List.mem_of_mem_take (List.getElem_mem hi)
        have h4 := hwz _ hm
        generalize (zs.take len).getD i 0 = q at h4 ⊢
        simp [Lit.wf, IntKind.min, IntKind.max, IntKind.signed, IntKind.bits] at h4
        exact ⟨by omega, by omega⟩
      · rw [getD_ge _ 0 (by omega)]; simp [I64]
    · have hll : (intsP (zs.take len)).length = len := by simp; omega
      have h := PR.sl (w := W) (FB := FBof noBor (oldF W)) false 1 (intsP (zs.take len)) b off cap (fun i _ => .int .i64 (zs.getD i 0)) (by rw [hll]; exact hl) (fun hne => ?_) (fun e he => ?_) (fun e he c hc => ?_) (fun i e j c e1 e2 => ?_) (fun i e j c e1 e2 => ?_)
      · rw [hll] at h; exact h
      · have hpos : 0 < zs.length := by
          rcases Nat.eq_zero_or_pos zs.length with h0 | h0
          · exact (hne (by rw [List.length_eq_zero_iff.1 h0]; simp)).elim
          · exact h0
        exact hlt (.cell b off) (MemPlace.mem_row.2 ⟨0, hpos, by simp⟩)
      · obtain ⟨z, _, rfl⟩ := List.mem_map.1 he; rfl
      · obtain ⟨z, _, rfl⟩ := List.mem_map.1 he
        have hc : c ∈ [PV.int .i64 z] := hc
        simp at hc; subst hc; rfl
      all_goals
        have hi : i < len := by have := (List.getElem?_eq_some_iff.1 e1).1; rwa [hll] at this
        have he : e = .int .i64 (zs.getD i 0) := by
          rw [List.getElem?_map, List.getElem?_take_of_lt hi, List.getElem?_eq_getElem (show i < zs.length by omega)] at e1
          simp at e1
          simp [List.getD, show i < zs.length by omega, ← e1]
        subst he
        have hj : j = 0 := by
          have := (List.getElem?_eq_some_iff.1 e2).1
          simpa [PV.cells] using this
        subst hj
        first
          | (have := hcell i (by omega)
             rw [show off + i * 1 + 0 = off + i by omega]
             rwa [Addr.add_lit] at this)
          | (have hcv : c = .int .i64 (zs.getD i 0) := by simpa [PV.cells] using e2.symm
             subst hcv
             exact .int _ _)
end
end Go.Proofs.Ytkaooejeljdbnaa

