/- FSEven: what its proof needs, part 6. -/
import Derived.Test.YtkaooejeljdbnaaGreatHSEven5
set_option linter.unusedVariables false
set_option linter.unusedSimpArgs false
namespace Go.Proofs.YtkaooejeljdbnaaGreat
open Go
set_option linter.unusedVariables false
set_option linter.unusedSimpArgs false
set_option maxRecDepth 10000
theorem gs_bz {A : Nat → Nat → Rat} {n b : Nat} (hA : ∀ i j, i < n → j < n → Bz (A i j) b) : ∀ k, k ≤ n → ∀ i j, i < n → j < n → Bz (gs A k i j) (bb b k) := by
  intro k
  induction k with
  | zero => intro _ i j hi hj; exact hA i j hi hj
  | succ k ih =>
    intro hk i j hi hj
    have ih := ih (by omega)
    by_cases c : k < i ∧ k ≤ j
    · rw [gs_gt c.1 c.2]
      exact ((ih i j hi hj).sub (((ih i k hi (by omega)).div (ih k k (by omega) (by omega))).mul (ih k j (by omega) hj))).mono (by simp only [bb]; omega)
    · rw [gs_le (by omega)]; exact (ih i j hi hj).mono (by simp only [bb]; omega)
theorem bb_mono {b j k : Nat} (h : j ≤ k) : bb b j ≤ bb b k := Rmono (fun k => bb_step k) h
/-- All that is left at any step has so many digits. -/
def GsB (A : Nat → Nat → Rat) (n D : Nat) : Prop := ∀ k, k ≤ n → ∀ i j, i < n → j < n → Bz (gs A k i j) D
theorem GsB.of {A : Nat → Nat → Rat} {n b : Nat} (hA : ∀ i j, i < n → j < n → Bz (A i j) b) : GsB A n (bb b n) := fun k hk i j hi hj => (gs_bz hA k hk i j hi hj).mono (bb_mono hk)
theorem nlen0 {q : Rat} (h : q = 0) : nlen q.num.natAbs = 0 := by rw [h]; exact nlen_zero_iff.2 rfl
theorem nlen1 {q : Rat} (h : q ≠ 0) : nlen q.num.natAbs ≠ 0 := fun e => h (Rat.num_eq_zero.1 (by have := nlen_zero_iff.1 e; omega))
theorem stepZ_ok (A : Nat → Nat → Rat) (n k : Nat) (hk : k < n) (hn : n ≤ 1000) (hp : piv A k = 0) :
    CallG Tryz.prog 77 [.bptr 0 0, .p (.int .i64 k)] (wkB n (tabF n (gs A k) (n * n)) (tkL A n k)) (.p (.bool false)) (wkB n (tabF n (gs A k) (n * n)) (tkL A n k)) := by
  refine callG_of_vc (wr := wr0) Γok mixed Tryz.func77 (by kernel_rfl) rfl (by kernel_rfl) (le_of_ble rfl) (by simp) ?_
  refine SKeys.tab (fun _ _ => rfl) <| SGet.tab hk hk ?_
  refine SZ.mk (nlen (gs A k k k).num.natAbs : Int) (by simp) ?_
  refine SCmp.yes (eqT (by rw [nlen0 (show gs A k k k = 0 from hp)]; rfl)) ?_
  refine SRet.keep rfl
    (fun B hB k => by simp only [wkB, List.mem_cons, List.not_mem_nil, or_false] at hB; rcases hB with rfl | rfl | rfl <;> rfl) (fun i hi => by
      match i, hi with
      | 0, _ => exact trivial
      | 1, _ => exact trivial
      | 2, _ => exact trivial)
    (fun a B e1 => by
      match a, e1 with
      | 0, e1 =>
        cases e1
        refine .box (cs := wkA n 1 2) (fun d hd => by simp only [wkA, List.mem_cons, List.not_mem_nil, or_false] at hd; rcases hd with rfl | rfl | rfl <;> rfl) rfl fun b c d e1 e2 => ?_
        match b, e1, e2 with
        | 0, e1, e2 => cases e1; cases e2; exact .p _ (.int _ _)
        | 1, e1, e2 => cases e1; cases e2; exact .map rfl
        | 2, e1, e2 => cases e1; cases e2; exact .map rfl
      | 1, e1 => cases e1; exact .map pers_tab
      | 2, e1 => cases e1; exact .map (pers_tk (by omega))) (.tf _)
theorem step_ok (A : Nat → Nat → Rat) (n k : Nat) {D : Nat} (hk : k < n) (hn : n ≤ 1000) (hp : piv A k ≠ 0) (hB : GsB A n D) (hD : 4 * D ≤ 1048576) :
    CallG Tryz.prog 77 [.bptr 0 0, .p (.int .i64 k)] (wkB n (tabF n (gs A k) (n * n)) (tkL A n k)) (.p (.bool true)) (wkB n (tabF n (gs A (k + 1)) (n * n)) (tkL A n (k + 1))) := by
  have nz := nlen1 hp
  refine callG_of_vc (wr := wr0) Γok mixed Tryz.func77 (by kernel_rfl) rfl (by kernel_rfl) (le_of_ble rfl) (by simp) ?_
  refine SKeys.tab (fun _ _ => rfl) <| SGet.tab hk hk ?_
  refine SZ.mk (nlen (gs A k k k).num.natAbs : Int) (by simp) ?_
  refine SCmp.no (eqF (by have : nlen (gs A k k k).num.natAbs ≠ 0 := nz; omega)) ?_
  refine SWrap.i64z ((k + 1 + 0 : Nat) : Int) (by omega) (by omega) ?_
  refine SLoop.mk (Nat × (Nat → Nat → Rat)) (fun (d, F) => ([(0, .bptr 0 0), (1, .p (.int .i64 k)), (5, .bptr 3 0), (6, .p (.int .i64 ((k + 1 + d : Nat) : Int)))], [.box 111 (wkA n 1 2), .map (tabF n F (n * n)), .map (tkL A n k ++ fl d (tkE A k)), .box 33 (bxQ (gs A k k k))]))
    (fun (d, F) => k + 1 + d ≤ n ∧ ∀ a b, a < n → b < n → F a b = if a < k + 1 + d then gs A (k + 1) a b else gs A k a b) (fun x => n - x.1) (0, gs A k) [0, 1, 2, 3]
    ⟨by omega, fun a b _ _ => by
      split
      · exact (gs_le (.inl (by omega))).symm
      · rfl⟩ ⟨rfl, by simp, rfl, rfl, rfl, ⟨rfl, rfl, rfl, rfl, trivial⟩, ⟨rfl, rfl, congrArg Blk.map (List.append_nil _), rfl, trivial⟩⟩ ?_
  intro ⟨d, F⟩ ⟨hd, hF⟩
  by_cases hin : k + 1 + d < n
  · refine SCmp.yes (decide_eq_true (by omega)) ?_
    obtain ⟨i, hi⟩ : ∃ i, i = k + 1 + d := ⟨_, rfl⟩
    have hFi : ∀ b, b < n → F (k + 1 + d) b = gs A k (k + 1 + d) b := fun b hb => by rw [hF _ b hin hb, if_neg (Nat.lt_irrefl _)]
    have hFk : ∀ b, b < n → F k b = gs A k k b := fun b hb => by rw [hF k b hk hb, if_pos (by omega)]; exact gs_le (.inl (Nat.le_refl _))
    have zi : ∀ b, b < n → Bz (F (k + 1 + d) b) D := fun b hb => by rw [hFi b hb]; exact hB k (by omega) _ b hin hb
    have zk : ∀ b, b < n → Bz (F k b) D := fun b hb => by rw [hFk b hb]; exact hB k (by omega) _ b hk hb
    have zp : Bz (gs A k k k) D := hB k (by omega) k k hk hk
    obtain ⟨Q, hQ⟩ : ∃ Q, Q = F (k + 1 + d) k / gs A k k k := ⟨_, rfl⟩
    have zQ : Bz Q (D + D) := by rw [hQ]; exact (zi k hk).div zp
    have hq := quo_ok (F (k + 1 + d) k) (gs A k k k) hp (zi k hk).sz zp.sz (by omega)
    rw [← hQ] at hq
    have hQv : Q = tkV A (k + 1 + d) k := by rw [hQ, hFi k hk]; rfl
    refine SDraw.mkX (by kernel_rfl) ?_
    repeat refine SOp.mk _ _ (And.intro rfl rfl) rfl ?_
    refine SOp.mk _ _ (SKeys.tab (fun _ _ => rfl) <| SGet.tab hin hk (And.intro rfl rfl)) rfl ?_
    repeat refine SOp.mk _ _ (And.intro rfl rfl) rfl ?_
    refine SOp.mk _ _ (SCall.pureT (hq) (fun _ => rfl) (And.intro rfl rfl)) rfl ?_
    repeat refine SOp.mk _ _ (And.intro rfl rfl) rfl ?_
    refine SFin.mk (by kernel_rfl) ?_
    refine SDraw.mkX (by kernel_rfl) ?_
    repeat refine SOp.mk _ _ (And.intro rfl rfl) rfl ?_
    refine SOp.mk _ _ (SKeys.tk (by omega) (fun _ _ => rfl) <| SPut.tk (by omega) (congrArg ratP hQv) (And.intro rfl rfl)) rfl ?_
    refine SFin.mk (by kernel_rfl) ?_
    refine SLoop.mk (Nat × (Nat → Nat → Rat)) (fun (j, G) => ([(0, .bptr 0 0), (1, .p (.int .i64 k)), (5, .bptr 3 0), (6, .p (.int .i64 ((k + 1 + d : Nat) : Int))), (7, .bptr 4 0), (9, .p (.int .i64 j))], [.box 111 (wkA n 1 2), .map (tabF n G (n * n)), .map (tkL A n k ++ fl (d + 1) (tkE A k)), .box 33 (bxQ (gs A k k k)), .box 33 (bxQ Q)]))
      (fun (j, G) => k ≤ j ∧ j ≤ n ∧ ∀ a b, a < n → b < n → G a b = if a = k + 1 + d ∧ k ≤ b ∧ b < j then F (k + 1 + d) b - Q * F k b else F a b) (fun x => n - x.1) (k, F) [0, 1, 2, 3, 4]
      ⟨Nat.le_refl _, by omega, fun a b _ _ => by rw [if_neg (by omega)]⟩ ⟨rfl, by simp, rfl, rfl, rfl, ⟨rfl, rfl, rfl, rfl, rfl, rfl, trivial⟩, ⟨rfl, rfl, rfl, rfl, rfl, trivial⟩⟩ ?_
    intro ⟨j, G⟩ ⟨hkj, hj, hG⟩
    by_cases hjn : j < n
    · refine SCmp.yes (decide_eq_true (by omega)) ?_
      have gi : G (k + 1 + d) j = F (k + 1 + d) j := by rw [hG _ j hin hjn, if_neg (by omega)]
      have gk : G k j = F k j := by rw [hG k j hk hjn, if_neg (by omega)]
      have z1 : Bz (G (k + 1 + d) j) D := by rw [gi]; exact zi j hjn
      have z2 : Bz (G k j) D := by rw [gk]; exact zk j hjn
      refine SDraw.mkX (by kernel_rfl) ?_
      repeat refine SOp.mk _ _ (And.intro rfl rfl) rfl ?_
      refine SOp.mk _ _ (SKeys.tab (fun _ _ => rfl) <| SGet.tab hin hjn (And.intro rfl rfl)) rfl ?_
      repeat refine SOp.mk _ _ (And.intro rfl rfl) rfl ?_
      refine SOp.mk _ _ (SKeys.tab (fun _ _ => rfl) <| SGet.tab hk hjn (And.intro rfl rfl)) rfl ?_
      repeat refine SOp.mk _ _ (And.intro rfl rfl) rfl ?_
      refine SOp.mk _ _ (SCall.pure (ratmul_ok _ _ zQ.sz z2.sz (by omega)) (And.intro rfl rfl)) rfl ?_
      refine SOp.mk _ _ (SCall.pure (ratsub_ok _ _ z1.sz (zQ.mul z2).sz (by omega)) (And.intro rfl rfl)) rfl ?_
      refine SOp.mk _ _ (SKeys.tab (fun _ _ => rfl) <| SPut.tabset hin hjn (And.intro rfl rfl)) rfl ?_
      refine SFin.mk (by kernel_rfl) ?_
      refine SWrap.i64z ((j + 1 : Nat) : Int) (by omega) (by omega) ?_
      refine ⟨(j + 1, _), [0, 1, 2, 3, 4], ⟨by omega, hjn, fun a b ha hb => ?_⟩, by show n - (j + 1) < n - j; omega, ⟨rfl, by simp, rfl, rfl, rfl, ⟨rfl, rfl, rfl, rfl, rfl, rfl, trivial⟩, ⟨rfl, rfl, rfl, rfl, rfl, trivial⟩⟩⟩
      by_cases e : a = k + 1 + d ∧ b = j
      · rw [if_pos e, if_pos ⟨e.1, by omega, by omega⟩, gi, gk, e.2]
      · rw [if_neg e, hG a b ha hb]
        by_cases c : a = k + 1 + d ∧ k ≤ b ∧ b < j
        · rw [if_pos c, if_pos ⟨c.1, c.2.1, by omega⟩]
        · rw [if_neg c, if_neg (by omega)]
    · refine SCmp.no (decide_eq_false (by omega)) ?_
      obtain rfl : j = n := by omega
      refine SWrap.i64z ((k + 1 + (d + 1) : Nat) : Int) (by omega) (by omega) ?_
      refine ⟨(d + 1, G), [0, 1, 2, 3], ⟨by omega, fun a b ha hb => ?_⟩, by show j - (d + 1) < j - d; omega, ⟨rfl, by simp, rfl, rfl, rfl, ⟨rfl, rfl, rfl, rfl, trivial⟩, ⟨rfl, rfl, rfl, rfl, trivial⟩⟩⟩
      rw [hG a b ha hb]
      by_cases c : a = k + 1 + d ∧ k ≤ b ∧ b < j
      · rw [if_pos c, if_pos (by omega), c.1, gs_gt (by omega) c.2.1, hQ, hFi b hb, hFk b hb, hFi k hk]
      · rw [if_neg c, hF a b ha hb]
        by_cases c2 : a = k + 1 + d
        · rw [if_neg (by omega), if_pos (by omega), gs_le (.inr (by omega))]
        · by_cases c3 : a < k + 1 + d
          · rw [if_pos c3, if_pos (by omega)]
          · rw [if_neg c3, if_neg (by omega)]
  · refine SCmp.no (decide_eq_false (by omega)) ?_
    have e1 : tabF n F (n * n) = tabF n (gs A (k + 1)) (n * n) := tabF_congr fun a b ha hb => by rw [hF a b ha hb, if_pos (by omega)]
    have e2 : tkL A n k ++ fl d (tkE A k) = tkL A n (k + 1) := by simp only [tkL]; rw [show d = n - 1 - k by omega]
    rw [← e1, ← e2]
    refine SRet.keep rfl
      (fun B hB k => by simp only [wkB, List.mem_cons, List.not_mem_nil, or_false] at hB; rcases hB with rfl | rfl | rfl <;> rfl) (fun i hi => by
        match i, hi with
        | 0, _ => exact trivial
        | 1, _ => exact trivial
        | 2, _ => exact trivial)
      (fun a B e1 => by
        match a, e1 with
        | 0, e1 =>
          cases e1
          refine .box (cs := wkA n 1 2) (fun d hd => by simp only [wkA, List.mem_cons, List.not_mem_nil, or_false] at hd; rcases hd with rfl | rfl | rfl <;> rfl) rfl fun b c d e1 e2 => ?_
          match b, e1, e2 with
          | 0, e1, e2 => cases e1; cases e2; exact .p _ (.int _ _)
          | 1, e1, e2 => cases e1; cases e2; exact .map rfl
          | 2, e1, e2 => cases e1; cases e2; exact .map rfl
        | 1, e1 => cases e1; exact .map pers_tab
        | 2, e1 => cases e1; exact .map (by rw [e2]; exact pers_tk (by omega))) (.tf _)
end Go.Proofs.YtkaooejeljdbnaaGreat

namespace Go.Proofs.YtkaooejeljdbnaaGreat
open Go
set_option linter.unusedVariables false
set_option linter.unusedSimpArgs false
set_option maxRecDepth 10000
theorem SKeys.tkn {b : PV → Bool} {A : Nat → Nat → Rat} {n k : Nat} {K : Prop} (hk : k ≤ n) (hb : ∀ i k : Nat, b (pairP i k) = true) (hK : K) : SKeys b (tkL A n k) K :=
  .mk (fun e he => by obtain ⟨i, j, rfl, _⟩ := tk_mem k hk e he; exact hb _ _) hK
theorem SGet.tk {A : Nat → Nat → Rat} {n i j : Nat} {K : Option PV → Prop} (hji : j < i) (hin : i < n) (hK : K (some (ratP (tkV A i j)))) : SGet (tkL A n n) (pairP i j) K := by
  obtain ⟨a, h1, h2⟩ := tk_get hji hin n (Nat.le_refl _) (show j < n by omega)
  exact .yes a _ h1 (by rw [keq_pair]; exact decide_eq_true ⟨rfl, rfl⟩) h2 hK
theorem SGet.tkno {A : Nat → Nat → Rat} {n i j : Nat} {K : Option PV → Prop} (hij : i ≤ j) (hK : K Option.none) : SGet (tkL A n n) (pairP i j) K :=
  .no (fun e he => by
    obtain ⟨i', j', rfl, _, h3, _⟩ := tk_mem n (Nat.le_refl _) e he
    rw [keq_pair]; exact decide_eq_false fun h => by omega) hK
/-- A matrix that was gone through, lent. -/
abbrev wkP (n : Nat) (A : Nat → Nat → Rat) : PV := .pel true (.agg [.int .i64 (n : Int), .mp true (tabF n (gs A n) (n * n)), .mp true (tkL A n n)])
theorem slower_ok (A : Nat → Nat → Rat) (n i j : Nat) (hi : i < n) (hj : j < n) : CallP Tryz.prog 79 [wkP n A, pairP i j] (.p (ratP (lowM A i j))) [] := by
  have hc := corner_ok i j
  by_cases e : i = j
  · rw [decide_eq_true e] at hc
    have : lowM A i j = 1 := if_pos e
    rw [this]
    refine callG_of_vc (wr := wr0) Γok mixed Tryz.func79 (by kernel_rfl) rfl (by kernel_rfl) (le_of_ble rfl) (by simp) ?_
    refine SCall.pure (hc) ?_
    refine SCond.mk (fun _ => ?_) (fun h => by cases h)
    refine SCall.pure (sone_ok) ?_
    exact SRet.pure (.p _ (pers_rat _ _ _))
  · rw [decide_eq_false e] at hc
    by_cases c : j < i
    · have : lowM A i j = tkV A i j := by unfold lowM; rw [if_neg e, if_pos c]; rfl
      rw [this]
      refine callG_of_vc (wr := wr0) Γok mixed Tryz.func79 (by kernel_rfl) rfl (by kernel_rfl) (le_of_ble rfl) (by simp) ?_
      refine SCall.pure (hc) ?_
      refine SCond.mk (fun h => by cases h) (fun _ => ?_)
      refine SDraw.mkX (by kernel_rfl) ?_
      repeat refine SOp.mk _ _ (And.intro rfl rfl) rfl ?_
      refine SOp.mk _ _ (SKeys.tkn (Nat.le_refl _) (fun _ _ => rfl) <| SGet.tk c hi (And.intro rfl rfl)) rfl ?_
      repeat refine SOp.mk _ _ (And.intro rfl rfl) rfl ?_
      refine SFin.mk (by kernel_rfl) ?_
      exact SRet.pure (.p _ (pers_rat _ _ _))
    · have : lowM A i j = 0 := by unfold lowM; rw [if_neg e, if_neg c]
      rw [this]
      refine callG_of_vc (wr := wr0) Γok mixed Tryz.func79 (by kernel_rfl) rfl (by kernel_rfl) (le_of_ble rfl) (by simp) ?_
      refine SCall.pure (hc) ?_
      refine SCond.mk (fun h => by cases h) (fun _ => ?_)
      refine SDraw.mkX (by kernel_rfl) ?_
      repeat refine SOp.mk _ _ (And.intro rfl rfl) rfl ?_
      refine SOp.mk _ _ (SKeys.tkn (Nat.le_refl _) (fun _ _ => rfl) <| SGet.tkno (by omega) (And.intro rfl rfl)) rfl ?_
      repeat refine SOp.mk _ _ (And.intro rfl rfl) rfl ?_
      refine SFin.mk (by kernel_rfl) ?_
      refine SCall.pure (szero_ok) ?_
      exact SRet.pure (.p _ (pers_rat _ _ _))
theorem supper_ok (A : Nat → Nat → Rat) (n i j : Nat) (hi : i < n) (hj : j < n) : CallP Tryz.prog 80 [wkP n A, pairP i j] (.p (ratP (uppM A i j))) [] := by
  by_cases c : j < i
  · have : uppM A i j = 0 := if_pos c
    rw [this]
    refine callG_of_vc (wr := wr0) Γok mixed Tryz.func80 (by kernel_rfl) rfl (by kernel_rfl) (le_of_ble rfl) (by simp) ?_
    refine SPos.mk 0 rfl (by decide) ?_
    refine SPos.mk 1 rfl (by decide) ?_
    refine SCmp.yes (decide_eq_true (by omega)) ?_
    refine SCall.pure (szero_ok) ?_
    exact SRet.pure (.p _ (pers_rat _ _ _))
  · have : uppM A i j = gs A n i j := by unfold uppM; rw [if_neg c]; exact (gs_row' (by omega)).symm
    rw [this]
    refine callG_of_vc (wr := wr0) Γok mixed Tryz.func80 (by kernel_rfl) rfl (by kernel_rfl) (le_of_ble rfl) (by simp) ?_
    refine SPos.mk 0 rfl (by decide) ?_
    refine SPos.mk 1 rfl (by decide) ?_
    refine SCmp.no (decide_eq_false (by omega)) ?_
    refine SDraw.mkX (by kernel_rfl) ?_
    repeat refine SOp.mk _ _ (And.intro rfl rfl) rfl ?_
    refine SOp.mk _ _ (SKeys.tab (fun _ _ => rfl) <| SGet.tab hi hj (And.intro rfl rfl)) rfl ?_
    repeat refine SOp.mk _ _ (And.intro rfl rfl) rfl ?_
    refine SFin.mk (by kernel_rfl) ?_
    exact SRet.pure (.p _ (pers_rat _ _ _))
theorem smade_ok (f : FuncId) (p : PV) (n : Nat) (F : Nat → Nat → Rat) {b : Nat} (hF : ∀ i j, i < n → j < n → CallP Tryz.prog f [p, pairP i j] (.p (ratP (F i j))) []) (hB : ∀ i j, i < n → j < n → Bz (F i j) b) (hb : b ≤ 1000000) (hn : n ≤ 1000) :
    CallP Tryz.prog 78 [.int .i64 n, .mfn f [p]] (.p (matP false false n n F)) [] := by
  refine callG_of_vc (wr := wr0) Γok mixed Tryz.func78 (by kernel_rfl) rfl (by kernel_rfl) (le_of_ble rfl) (by simp) ?_
  refine SZ.mk (n : Int) rfl ?_
  refine SLt.mk (by simp) ?_
  refine SMake.mk n rfl (by simp; omega) (by omega) ?_
  refine SMk.rows ?_
  refine SZ.mk (n : Int) rfl ?_
  refine SLoop.mkT Nat (fun i => ([(0, .p (.int .i64 n)), (1, .p (.mfn f [p])), (5, .vec 0 1 0 n), (11, .p (.int .i64 n)), (12, .p (.int .i64 i))], [.rows 24 (half 1 n n i), .pool 33 3 (plr i n F)]))
    (fun i => i ≤ n) (fun i => n - i) 0 [0, 1] _ _ (.pool 33 3 (.done _ _)) (Nat.zero_le _) ⟨rfl, by simp, rfl, rfl, rfl, ⟨rfl, rfl, rfl, rfl, rfl, trivial⟩, ⟨congrArg _ half_ren0, rfl, half_in fun i hi => absurd hi (Nat.not_lt_zero _), trivial⟩⟩ ?_
  intro i hi
  have hi : i ≤ n := hi
  by_cases hin : i < n
  · refine SCmp.yes (decide_eq_true (by omega)) ?_
    refine SZ.mk (n : Int) rfl ?_
    refine SLt.mk (by simp) ?_
    refine SMake.rat n rfl (by omega) ?_
    refine SPos.mk i rfl hin ?_
    refine SLt.mk (by simp; omega) ?_
    refine SAs.mk (halq 1 n n i 2) half_set ?_
    refine SPos.mk i rfl hin ?_
    refine SIdxA.mk i _ rfl (halq_get hin) ?_
    refine SZ.mk (n : Int) rfl ?_
    refine SLoop.mk Nat (fun j => ([(0, .p (.int .i64 n)), (1, .p (.mfn f [p])), (5, .vec 0 1 0 n), (6, .p (.int .i64 i)), (11, .p (.int .i64 n)), (12, .p (.int .i64 i)), (24, .p (.int .i64 n)), (25, .p (.int .i64 j))], [.rows 24 (halq 1 n n i 2), .pool 33 3 (plr i n F), .vec 33 3 (fl n fun k => if k < j then ratP (F i k) else rat0)]))
      (fun j => j ≤ n) (fun j => n - j) 0 [0, 1, 2] (Nat.zero_le _) ⟨rfl, by simp, rfl, rfl, rfl, ⟨rfl, rfl, rfl, rfl, rfl, rfl, rfl, rfl, trivial⟩, ⟨congrArg _ (halq_ren 1 2 rfl (by decide) rfl (by decide)), rfl, congrArg _ ((fl_congr fun k hk => if_neg (by omega)).trans (replicate_fl n rat0).symm), halq_in (fun i hi => by simpa [plenAt] using hi) (fun e => by cases e), trivial⟩⟩ ?_
    intro j hj
    have hj : j ≤ n := hj
    by_cases hjn : j < n
    · refine SCmp.yes (decide_eq_true (by omega)) ?_
      have hFij := hF i j hin hjn
      refine SDraw.mkX (by kernel_rfl) ?_
      repeat refine SOp.mk _ _ (And.intro rfl rfl) rfl ?_
      refine SOp.mk _ _ (SPos.mk i rfl hin (And.intro rfl rfl)) rfl ?_
      refine SOp.mk _ _ (SIdxA.mk i _ rfl (halq_get hin) (And.intro rfl rfl)) rfl ?_
      repeat refine SOp.mk _ _ (And.intro rfl rfl) rfl ?_
      refine SOp.mk _ _ (SCall.pure (pvs := [p, pairP i j]) hFij (And.intro rfl rfl)) rfl ?_
      refine SOp.mk _ _ (SCall.pure (szero_ok) (And.intro rfl rfl)) rfl ?_
      refine SOp.mk _ _ (SCall.pure (gcopy_ok (hB i j hin hjn) hb) (And.intro rfl rfl)) rfl ?_
      refine SOp.mk _ _ (SPos.mk j rfl hjn (And.intro rfl rfl)) rfl ?_
      refine SOp.mk _ _ (SLt.mk (by simp; omega) <| SEs.mk _ (row_step hjn) (And.intro rfl rfl)) rfl ?_
      repeat refine SOp.mk _ _ (And.intro rfl rfl) rfl ?_
      refine SFin.mk (by kernel_rfl) ?_
      refine SWrap.i64z ((j + 1 : Nat) : Int) (by omega) (by omega) ?_
      exact ⟨j + 1, [0, 1, 2], hjn, by show n - (j + 1) < n - j; omega, ⟨rfl, by simp, rfl, rfl, rfl, ⟨rfl, rfl, rfl, rfl, rfl, rfl, rfl, rfl, trivial⟩, ⟨congrArg _ (halq_ren 1 2 rfl (by decide) rfl (by decide)), rfl, rfl, halq_in (fun i hi => by simpa [plenAt] using hi) (fun e => by cases e), trivial⟩⟩⟩
    · refine SCmp.no (decide_eq_false (by omega)) ?_
      obtain rfl : j = n := by omega
      refine SWrap.i64z ((i + 1 : Nat) : Int) (by omega) (by omega) ?_
      exact ⟨i + 1, [0, 3001], hin, by show j - (i + 1) < j - i; omega, ⟨rfl, by simp, rfl, rfl, rfl, ⟨rfl, rfl, rfl, rfl, rfl, trivial⟩, ⟨congrArg _ (half_absorb rfl (by decide) (by simp [plenAt])), ⟨_, _, _, _, rfl, rfl, congrArg _ (plr_snoc.trans (congrArg (fun r => plr i j F ++ [some r]) row_full))⟩, half_in fun i hi => by simpa [plenAt] using hi, trivial⟩⟩⟩
  · refine SCmp.no (decide_eq_false (by omega)) ?_
    obtain rfl : i = n := by omega
    exact SRet.pure (frzM (H := [_, _]) (h := 0) (p := 1) (congrArg (Blk.rows _) half_full) rfl fun i hi => hi)
abbrev wrS : FuncId → Bool := fun f => Nat.beq f 77
theorem sfactorZ_ok (m : Nat → Bool) (g : GV) {b c D : Nat} (h : Wf g b c) (hB : GsB (ent g) g.n D) (hD : 4 * D ≤ 1048576) (hz : brkN (ent g) g.n < g.n) :
    CallP Tryz.prog 30 [genP m g] (.tup [.p (.sl false 1 []), .p (.sl false 1 []), .p (.int .i64 ((brkN (ent g) g.n + 1 : Nat) : Int)), .p (.int .i64 8)]) [] := by
  have h6 := h.n6
  have n1 := h.n1
  obtain ⟨b1, b2, b3⟩ := brkN_spec (ent g) g.n
  obtain ⟨K, hK⟩ : ∃ K, K = brkN (ent g) g.n := ⟨_, rfl⟩
  rw [← hK] at b1 b2 b3 hz ⊢
  have b3 := b3 hz
  refine callG_of_vc (wr := wrS) Γok mixed Tryz.func30 (by kernel_rfl) rfl (by kernel_rfl) (le_of_ble rfl) (by simp) ?_
  refine SCall.pure (gexpand_ok m g h) ?_
  refine SNil.mk (fun _ => ?_) (fun h => absurd h (by simp; omega))
  refine SCall.news (sof_ok false false g.n (ent g) (by omega)) (fun B hB => by simp only [wkB, List.mem_cons, List.not_mem_nil, or_false] at hB; rcases hB with rfl | rfl | rfl <;> exact fun e => by cases e) ?_
  refine SLoop.mk Nat (fun k => ([(7, .bptr 0 0), (18, .p (.int .i64 g.n)), (19, .p (.int .i64 k))], wkB g.n (tabF g.n (gs (ent g) k) (g.n * g.n)) (tkL (ent g) g.n k)))
    (fun k => k ≤ K) (fun k => g.n - k) 0 [1, 2, 3] (Nat.zero_le _) ⟨rfl, by simp, rfl, rfl, rfl, ⟨rfl, rfl, rfl, trivial⟩, ⟨rfl, rfl, rfl, trivial⟩⟩ ?_
  intro k hk
  have hk : k ≤ K := hk
  refine SCmp.yes (decide_eq_true (by omega)) ?_
  by_cases e : k < K
  · refine SCall.three 0 1 2 (step_ok (ent g) g.n k (by omega) (by omega) (b2 k e) hB hD)
      (by decide) (by decide) (by decide) (by decide) rfl ⟨rfl, fun _ => rfl⟩ ⟨rfl, fun _ => rfl⟩ ⟨rfl, fun _ => rfl⟩
        (fun B hB => by simp only [List.mem_cons, List.not_mem_nil, or_false] at hB; rcases hB with rfl | rfl | rfl <;> exact ⟨fun e => by (cases e), fun e => by (cases e)⟩)
        (fun B hB k hk => by
          simp only [List.mem_cons, List.not_mem_nil, or_false] at hB
          rcases hB with rfl | rfl | rfl
          · simp only [Blk.men, AV.menL, AV.men, or_false, false_or] at hk
            rcases hk with rfl | rfl <;> decide
          · exact hk.elim
          · exact hk.elim)
        (fun B hB => by simp only [List.mem_cons, List.not_mem_nil, or_false] at hB; rcases hB with rfl | rfl | rfl <;> exact fun e => by (cases e))
        (fun a ha k hk => by
          simp only [List.mem_cons, List.not_mem_nil, or_false] at ha
          rcases ha with rfl | rfl
          · simp only [AV.men] at hk; subst hk; decide
          · simp only [AV.men] at hk) ?_
    refine SCmp.no (rfl) ?_
    refine SWrap.i64z ((k + 1 : Nat) : Int) (by omega) (by omega) ?_
    exact ⟨k + 1, [0, 1, 2], e, by show g.n - (k + 1) < g.n - k; omega, ⟨rfl, by simp, rfl, rfl, rfl, ⟨rfl, rfl, rfl, trivial⟩, ⟨rfl, rfl, rfl, trivial⟩⟩⟩
  · obtain rfl : k = K := by omega
    refine SCall.three 0 1 2 (stepZ_ok (ent g) g.n k (by omega) (by omega) b3)
      (by decide) (by decide) (by decide) (by decide) rfl ⟨rfl, fun _ => rfl⟩ ⟨rfl, fun _ => rfl⟩ ⟨rfl, fun _ => rfl⟩
        (fun B hB => by simp only [List.mem_cons, List.not_mem_nil, or_false] at hB; rcases hB with rfl | rfl | rfl <;> exact ⟨fun e => by (cases e), fun e => by (cases e)⟩)
        (fun B hB k hk => by
          simp only [List.mem_cons, List.not_mem_nil, or_false] at hB
          rcases hB with rfl | rfl | rfl
          · simp only [Blk.men, AV.menL, AV.men, or_false, false_or] at hk
            rcases hk with rfl | rfl <;> decide
          · exact hk.elim
          · exact hk.elim)
        (fun B hB => by simp only [List.mem_cons, List.not_mem_nil, or_false] at hB; rcases hB with rfl | rfl | rfl <;> exact fun e => by (cases e))
        (fun a ha k hk => by
          simp only [List.mem_cons, List.not_mem_nil, or_false] at ha
          rcases ha with rfl | rfl
          · simp only [AV.men] at hk; subst hk; decide
          · simp only [AV.men] at hk) ?_
    refine SCmp.yes (rfl) ?_
    refine SWrap.i64z ((k + 1 : Nat) : Int) (by omega) (by omega) ?_
    exact SRet.pure (.tup rfl fun i c d e1 e2 => by
      match i, e1, e2 with
      | 0, e1, e2 => cases e1; cases e2; exact .emp 1
      | 1, e1, e2 => cases e1; cases e2; exact .emp 1
      | 2, e1, e2 => cases e1; cases e2; exact .p _ (.int _ _)
      | 3, e1, e2 => cases e1; cases e2; exact .p _ (.int _ _))
theorem sfactor_ok (m : Nat → Bool) (g : GV) {b c D : Nat} (h : Wf g b c) (hB : GsB (ent g) g.n D) (hD : 4 * D ≤ 1000000) (hp : ∀ t, t < g.n → piv (ent g) t ≠ 0) :
    CallP Tryz.prog 30 [genP m g] (.tup [.p (matP false false g.n g.n (lowM (ent g))), .p (matP false false g.n g.n (uppM (ent g))), .p (.int .i64 0), .p (.int .i64 0)]) [] := by
  have h6 := h.n6
  have n1 := h.n1
  have zL : ∀ i j, i < g.n → j < g.n → Bz (lowM (ent g) i j) (D + D + 1) := fun i j hi hj => by
    unfold lowM
    split
    · exact bz_one.mono (by omega)
    · split
      · exact ((hB j (by omega) i j hi hj).div (hB j (by omega) j j hj hj)).mono (by omega)
      · exact bz_zero.mono (by omega)
  have zU : ∀ i j, i < g.n → j < g.n → Bz (uppM (ent g) i j) (D + D + 1) := fun i j hi hj => by
    unfold uppM
    split
    · exact bz_zero.mono (by omega)
    · exact (hB i (by omega) i j hi hj).mono (by omega)
  refine callG_of_vc (wr := wrS) Γok mixed Tryz.func30 (by kernel_rfl) rfl (by kernel_rfl) (le_of_ble rfl) (by simp) ?_
  refine SCall.pure (gexpand_ok m g h) ?_
  refine SNil.mk (fun _ => ?_) (fun h => absurd h (by simp; omega))
  refine SCall.news (sof_ok false false g.n (ent g) (by omega)) (fun B hB => by simp only [wkB, List.mem_cons, List.not_mem_nil, or_false] at hB; rcases hB with rfl | rfl | rfl <;> exact fun e => by cases e) ?_
  refine SLoop.mk Nat (fun k => ([(7, .bptr 0 0), (18, .p (.int .i64 g.n)), (19, .p (.int .i64 k))], wkB g.n (tabF g.n (gs (ent g) k) (g.n * g.n)) (tkL (ent g) g.n k)))
    (fun k => k ≤ g.n) (fun k => g.n - k) 0 [1, 2, 3] (Nat.zero_le _) ⟨rfl, by simp, rfl, rfl, rfl, ⟨rfl, rfl, rfl, trivial⟩, ⟨rfl, rfl, rfl, trivial⟩⟩ ?_
  intro k hk
  have hk : k ≤ g.n := hk
  by_cases hkn : k < g.n
  · refine SCmp.yes (decide_eq_true (by omega)) ?_
    refine SCall.three 0 1 2 (step_ok (ent g) g.n k hkn (by omega) (hp k hkn) hB (by omega))
      (by decide) (by decide) (by decide) (by decide) rfl ⟨rfl, fun _ => rfl⟩ ⟨rfl, fun _ => rfl⟩ ⟨rfl, fun _ => rfl⟩
        (fun B hB => by simp only [List.mem_cons, List.not_mem_nil, or_false] at hB; rcases hB with rfl | rfl | rfl <;> exact ⟨fun e => by (cases e), fun e => by (cases e)⟩)
        (fun B hB k hk => by
          simp only [List.mem_cons, List.not_mem_nil, or_false] at hB
          rcases hB with rfl | rfl | rfl
          · simp only [Blk.men, AV.menL, AV.men, or_false, false_or] at hk
            rcases hk with rfl | rfl <;> decide
          · exact hk.elim
          · exact hk.elim)
        (fun B hB => by simp only [List.mem_cons, List.not_mem_nil, or_false] at hB; rcases hB with rfl | rfl | rfl <;> exact fun e => by (cases e))
        (fun a ha k hk => by
          simp only [List.mem_cons, List.not_mem_nil, or_false] at ha
          rcases ha with rfl | rfl
          · simp only [AV.men] at hk; subst hk; decide
          · simp only [AV.men] at hk) ?_
    refine SCmp.no (rfl) ?_
    refine SWrap.i64z ((k + 1 : Nat) : Int) (by omega) (by omega) ?_
    exact ⟨k + 1, [0, 1, 2], hkn, by show g.n - (k + 1) < g.n - k; omega, ⟨rfl, by simp, rfl, rfl, rfl, ⟨rfl, rfl, rfl, trivial⟩, ⟨rfl, rfl, rfl, trivial⟩⟩⟩
  · refine SCmp.no (decide_eq_false (by omega)) ?_
    obtain rfl : k = g.n := by omega
    have c1 := smade_ok 79 (wkP g.n (ent g)) g.n (lowM (ent g)) (fun i j hi hj => slower_ok (ent g) g.n i j hi hj) zL (by omega) (by omega)
    have c2 := smade_ok 80 (wkP g.n (ent g)) g.n (uppM (ent g)) (fun i j hi hj => supper_ok (ent g) g.n i j hi hj) zU (by omega) (by omega)
    refine SDraw.mkX (by kernel_rfl) ?_
    repeat refine SOp.mk _ _ (And.intro rfl rfl) rfl ?_
    refine SOp.mk _ _ (SCall.pure (c1) (And.intro rfl rfl)) rfl ?_
    repeat refine SOp.mk _ _ (And.intro rfl rfl) rfl ?_
    refine SOp.mk _ _ (SCall.pure (c2) (And.intro rfl rfl)) rfl ?_
    repeat refine SOp.mk _ _ (And.intro rfl rfl) rfl ?_
    refine SFin.mk (by kernel_rfl) ?_
    exact SRet.pure (.tup rfl fun i c d e1 e2 => by
      match i, e1, e2 with
      | 0, e1, e2 => cases e1; cases e2; exact .p _ pers_matP
      | 1, e1, e2 => cases e1; cases e2; exact .p _ pers_matP
      | 2, e1, e2 => cases e1; cases e2; exact .p _ (.int _ _)
      | 3, e1, e2 => cases e1; cases e2; exact .p _ (.int _ _))
end Go.Proofs.YtkaooejeljdbnaaGreat

namespace Go.Proofs.YtkaooejeljdbnaaGreat
open Go
set_option linter.unusedVariables false
set_option linter.unusedSimpArgs false
set_option maxRecDepth 10000
theorem rexpand5_ok (m : Nat → Bool) (g : GV) {b c : Nat} (h : Wf g b c) : CallP Tryz.prog 33 [genP m g] (.p (matP false false g.n g.n (ent g))) [] := by
  have h8 := h.n6
  refine callG_of_vc (wr := wr0) Γok mixed Tryz.func33 (by kernel_rfl) rfl (by kernel_rfl) (le_of_ble rfl) (by simp) ?_
  refine SLoop.mkT Nat (fun i => ([(1, .bptr 0 0), (3, .vec 1 1 0 i), (4, .p (.int .i64 i))], [.box 26 (genA m g), .rows 24 (plc 2 g.n i id), .pool 33 3 (plr i g.n (ent g))]))
    (fun i => i ≤ g.n) (fun i => g.n - i) 0 [0, 1, 2] _ _ (.rows 3 24 rfl (.pool 33 3 (.done _ _))) (Nat.zero_le _) ⟨rfl, by simp, rfl, rfl, rfl, ⟨rfl, rfl, rfl, trivial⟩, ⟨rfl, rfl, rfl, rows_in fun i hi => absurd hi (Nat.not_lt_zero _), trivial⟩⟩ ?_
  intro i hi
  have hi : i ≤ g.n := hi
  by_cases hin : i < g.n
  · refine SCmp.yes (decide_eq_true (by omega)) ?_
    refine SLoop.mkT Nat (fun j => ([(1, .bptr 0 0), (3, .vec 1 1 0 i), (4, .p (.int .i64 i)), (5, .vec 3 3 0 j), (6, .p (.int .i64 j))], [.box 26 (genA m g), .rows 24 (plc 2 g.n i id), .pool 33 3 (plr i g.n (ent g)), .vec 33 3 (rats (lst j (ent g i)))]))
      (fun j => j ≤ g.n) (fun j => g.n - j) 0 [0, 1, 2, 3] _ _ (.step 5 33 3 rfl (.done _ _)) (Nat.zero_le _) ⟨rfl, by simp, rfl, rfl, rfl, ⟨rfl, rfl, rfl, rfl, rfl, trivial⟩, ⟨rfl, congrArg _ (plc_ren 2 rfl (by decide)), rfl, rfl, rows_in fun i hi => by simpa [plenAt] using hi, trivial⟩⟩ ?_
    intro j hj
    have hj : j ≤ g.n := hj
    by_cases hjn : j < g.n
    · refine SCmp.yes (decide_eq_true (by omega)) ?_
      refine SCall.pure (rentry5_ok m g h i j hin hjn) ?_
      refine SEqN.mk (by simp [lst]) <| SView.all rfl <| SRoom.mk (by simp [lst]; omega) (by simp [lst]; omega) <| SEs.mk (rats (lst (j + 1) (ent g i))) (app_lst _ _ _ (rfl)) <| SZN.mk (j + 1) (by simp [lst]) ?_
      refine SWrap.i64z ((j + 1 : Nat) : Int) (by omega) (by omega) ?_
      exact ⟨j + 1, [0, 1, 2, 5], hjn, by show g.n - (j + 1) < g.n - j; omega, ⟨rfl, by simp, rfl, rfl, rfl, ⟨rfl, rfl, rfl, rfl, rfl, trivial⟩, ⟨rfl, congrArg _ (plc_ren 2 rfl (by decide)), rfl, rfl, rows_in fun i hi => by simpa [plenAt] using hi, trivial⟩⟩⟩
    · refine SCmp.no (decide_eq_false (by omega)) ?_
      obtain rfl : j = g.n := by omega
      refine SEqN.mk (by simp) ?_
      refine SRoom.mk (by simp; omega) (by simp; omega) ?_
      refine SAs.mk _ rfl ?_
      refine SZN.mk (i + 1) (by simp) ?_
      refine SWrap.i64z ((i + 1 : Nat) : Int) (by omega) (by omega) ?_
      exact ⟨i + 1, [0, 5, 4002], hin, by show g.n - (i + 1) < g.n - i; omega, ⟨rfl, by simp, rfl, rfl, rfl, ⟨rfl, rfl, rfl, trivial⟩, ⟨rfl, congrArg _ (plc_absorb rfl (by decide) (by simp [plenAt])), ⟨_, _, _, _, rfl, rfl, congrArg _ plr_snoc⟩, rows_in fun i hi => by simpa [plenAt] using hi, trivial⟩⟩⟩
  · refine SCmp.no (decide_eq_false (by omega)) ?_
    obtain rfl : i = g.n := by omega
    exact SRet.pure (frzM (H := [_, _, _]) (h := 1) (p := 2) rfl rfl fun i hi => hi)
end Go.Proofs.YtkaooejeljdbnaaGreat

namespace Go.Proofs.YtkaooejeljdbnaaGreat
open Go
set_option linter.unusedVariables false
set_option linter.unusedSimpArgs false
set_option maxRecDepth 10000
theorem rdet_ok (m m' : Bool) (n : Nat) (A : Nat → Nat → Rat) {R : Nat → Nat} (hRB : RB R n n A) (hn : n ≤ 900) :
    CallP Tryz.prog 46 [matP m m' n n A] (.p (ratP (elim n A n).det)) [] := by
  refine callG_of_vc (wr := wr0) Γok mixed Tryz.func46 (by kernel_rfl) rfl (by kernel_rfl) (le_of_ble rfl) (by simp) ?_
  refine SZ.mk (n : Int) (by simp) ?_
  refine SCall.pureT (rtriangle_ok m m' n n A hRB (Nat.le_refl n) (by omega)) (fun _ => rfl) ?_
  exact SRet.pure (.p _ (pers_rat _ _ _))
end Go.Proofs.YtkaooejeljdbnaaGreat

namespace Go.Proofs.YtkaooejeljdbnaaGreat
open Go
set_option linter.unusedVariables false
set_option linter.unusedSimpArgs false
theorem wf_mkG {k n r : Nat} {ns : List Int} (k1 : 1 ≤ k) (k7 : k ≤ 7) (n1 : 1 ≤ n) (n6 : n ≤ 6) (r1 : k = 6 ∨ k = 7 → 1 ≤ r) (r2 : r ≤ 2) (r0 : k ≤ 5 → r = 0) : Wf (mkG k n r (rowG ns)) 5 13 := by
  have hf : ∀ i, -20 ≤ rowG ns i ∧ rowG ns i ≤ 20 := fun i => smallQ_range _
  have hc := cnt_le (k := k) (r := r) n1 (show n ≤ 8 by omega) (show r ≤ 3 by omega)
  exact {
    k1 := k1, k7 := k7, n1 := n1, n6 := n6, r2 := r2, r1 := r1, r0 := r0
    bA := fun i _ => rowG_bz ns i
    bB := fun i hi => bfix_bz hf (by have hi : i < cntB k n := hi; omega) (hf _) (rowG_bz ns _) _
    bG := fun i _ => rowG_bz ns _
    bH := fun i _ => rowG_bz ns _
    ne := fun i j hi hj => bfix_ne hf (hf _) (show i < cntA k n from hi)
    bc := by omega
    c4 := by omega }
theorem gmR_ok {k : Nat} (n : Int) : (k = 6 ∨ k = 7 → 1 ≤ gmR k n) ∧ gmR k n ≤ 2 ∧ (k ≤ 5 → gmR k n = 0) := by
  unfold gmR
  refine ⟨fun h => by rw [if_pos h]; omega, by split <;> omega, fun h => if_neg (by omega)⟩
theorem gmN_ok (n most : Int) (h1 : 1 ≤ most) : 1 ≤ gmN n most ∧ (gmN n most : Int) ≤ most := by
  have := Int.emod_nonneg n (show most ≠ 0 by omega)
  have := Int.emod_lt_of_pos n (show (0 : Int) < most by omega)
  unfold gmN
  omega
theorem gmK_ok (kind : Int) : 1 ≤ gmK kind ∧ gmK kind ≤ 7 := by unfold gmK; omega
theorem wf_make (kind n most : Int) (ns : List Int) (h1 : 1 ≤ most) (h6 : most ≤ 6) : Wf (mkG (gmK kind) (gmN n most) (gmR (gmK kind) n) (rowG ns)) 5 13 := by
  obtain ⟨r1, r2, r0⟩ := gmR_ok (k := gmK kind) n
  have hn := gmN_ok n most h1
  exact wf_mkG (gmK_ok kind).1 (gmK_ok kind).2 hn.1 (by omega) r1 r2 r0
end Go.Proofs.YtkaooejeljdbnaaGreat

namespace Go.Proofs.YtkaooejeljdbnaaGreat
open Go
set_option linter.unusedVariables false
set_option linter.unusedSimpArgs false
set_option maxRecDepth 10000
theorem take_lst {n k : Nat} {f : Nat → Rat} (h : k ≤ n) : ((rats (lst n f)).take k).drop 0 = rats (lst k f) := by
  rw [List.drop_zero]
  apply List.ext_getElem
  · simp [lst]; omega
  · intro i h1 h2
    simp [lst, rats]
theorem rcut_ok (m m' : Bool) (n w k : Nat) (A : Nat → Nat → Rat) (hkn : k ≤ n) (hkw : k ≤ w) (hw : w ≤ 1000) :
    CallP Tryz.prog 82 [matP m m' n w A, .int .i64 k] (.p (matP false false k k A)) [] := by
  refine callG_of_vc (wr := wr0) Γok mixed Tryz.func82 (by kernel_rfl) rfl (by kernel_rfl) (le_of_ble rfl) (by simp) ?_
  refine SLoop.mkT Nat (fun i => ([(0, .p (matP m m' n w A)), (1, .p (.int .i64 k)), (5, .vec 0 1 0 i), (6, .p (.int .i64 i))], [.rows 24 (plc 1 k i id), .pool 33 3 (plr i k A)]))
    (fun i => i ≤ k) (fun i => k - i) 0 [0, 1] _ _ (.rows 5 24 rfl (.pool 33 3 (.done _ _))) (Nat.zero_le _) ⟨rfl, by simp, rfl, rfl, rfl, ⟨rfl, rfl, rfl, rfl, trivial⟩, ⟨rfl, rfl, rows_in fun i hi => absurd hi (Nat.not_lt_zero _), trivial⟩⟩ ?_
  intro i hi
  have hi : i ≤ k := hi
  by_cases hik : i < k
  · refine SCmp.yes (decide_eq_true (by omega)) ?_
    refine SIdx.mf i rfl (by omega) ?_
    refine SZ.mk (k : Int) rfl ?_
    refine SLt.mk (by simp) ?_
    refine SCut.mk 0 k rfl rfl (by omega) (by simp [lst]; omega) ?_
    refine SEs.mk _ (take_lst hkw) ?_
    refine SRoom.mk (by simp [lst]; omega) (by simp [lst]; omega) ?_
    refine SEqN.mk (by simp) ?_
    refine SRoom.mk (by simp; omega) (by simp; omega) ?_
    refine SAs.mk _ rfl ?_
    refine SZN.mk (i + 1) (by simp) ?_
    refine SWrap.i64z ((i + 1 : Nat) : Int) (by omega) (by omega) ?_
    refine ⟨i + 1, [4, 3001], hik, by show k - (i + 1) < k - i; omega, ⟨rfl, by simp, rfl, rfl, rfl, ⟨rfl, rfl, rfl, rfl, trivial⟩, ⟨congrArg _ ((plc_absorb (p' := 1) (q := 2) (c := k) (k := i) rfl (by decide) (by simp [plenAt])).trans (by simp [lst])), ⟨_, _, _, _, rfl, rfl, congrArg _ plr_snoc⟩, rows_in fun i hi => by simpa [plenAt] using hi, trivial⟩⟩⟩
  · refine SCmp.no (decide_eq_false (by omega)) ?_
    obtain rfl : k = i := by omega
    exact SRet.pure (frzM (h := 0) (p := 1) rfl rfl fun q hq => hq)
theorem rb163 {n : Nat} {A : Nat → Nat → Rat} (hn : n ≤ 6) (hA : ∀ i k, i < n → k < n → Bz (A i k) 163) : RB (bb 163) n n A :=
  RB.std hA (Nat.le_refl _) (Nat.le_trans (dR_mono (j := 6) hn) (by decide +kernel))
theorem rleast_ok (m m' : Bool) (n K : Nat) (A : Nat → Nat → Rat) (hn : n ≤ 6) (hA : ∀ i k, i < n → k < n → Bz (A i k) 163) (hK : K < n) (hp : ∀ t, t < K → piv A t ≠ 0) (hz : piv A K = 0) :
    CallP Tryz.prog 32 [matP m m' n n A] (.p (.int .i64 ((K + 1 : Nat) : Int))) [] := by
  have hd : ∀ i, i < K → (elim (i + 1) A (i + 1)).det ≠ 0 := fun i hi => by
    rw [lead_det fun t ht => hp t (by omega)]
    exact pm_ne fun t ht => hp t (by omega)
  have hd0 : (elim (K + 1) A (K + 1)).det = 0 := lead_zero hp hz
  refine callG_of_vc (wr := wr0) Γok mixed Tryz.func32 (by kernel_rfl) rfl (by kernel_rfl) (le_of_ble rfl) (by simp) ?_
  refine SLoop.mk Nat (fun i => ([(0, .p (matP m m' n n A)), (3, .p (.int .i64 ((i + 1 : Nat) : Int)))], []))
    (fun i => i ≤ K) (fun i => n - i) 0 [] (Nat.zero_le _) ⟨rfl, .nil, rfl, rfl, rfl, ⟨rfl, rfl, trivial⟩, trivial⟩ ?_
  intro i hi
  have hi : i ≤ K := hi
  refine SZ.mk (n : Int) (by simp) ?_
  refine SCmp.yes (decide_eq_true (by omega)) ?_
  refine SCall.pure (rcut_ok m m' n n (i + 1) A (by omega) (by omega) (by omega)) ?_
  refine SCall.pure (rdet_ok false false (i + 1) A (rb163 (by omega) fun a b ha hb => hA a b (by omega) (by omega)) (by omega)) ?_
  refine SCall.pure (rnought_ok (elim (i + 1) A (i + 1)).det) ?_
  by_cases e : i < K
  · rw [decide_eq_false (hd i e)]
    refine SCond.mk (fun h => by cases h) (fun _ => ?_)
    refine SWrap.i64z ((i + 1 + 1 : Nat) : Int) (by omega) (by omega) ?_
    exact ⟨i + 1, [], e, by show n - (i + 1) < n - i; omega, ⟨rfl, .nil, rfl, rfl, rfl, ⟨rfl, rfl, trivial⟩, trivial⟩⟩
  · obtain rfl : K = i := by omega
    rw [decide_eq_true hd0]
    refine SCond.mk (fun _ => ?_) (fun h => by cases h)
    exact SRet.pure (.p _ (.int _ _))
end Go.Proofs.YtkaooejeljdbnaaGreat

namespace Go.Proofs.YtkaooejeljdbnaaGreat
open Go
set_option linter.unusedVariables false
set_option linter.unusedSimpArgs false
set_option maxRecDepth 10000
theorem rall_ok (m m' q q' : Bool) (n w : Nat) (A : Nat → Nat → Rat) {a : Nat} (hA : ∀ i k, i < n → k < w → Bz (A i k) a) (ha : a + a ≤ 1048576) (hn : n ≤ 1000) (hw : w ≤ 1000) :
    CallP Tryz.prog 26 [matP m m' n w A, matP q q' n w A] (.p (.bool true)) [] := by
  refine callG_of_vc (wr := wr0) Γok mixed Tryz.func26 (by kernel_rfl) rfl (by kernel_rfl) (le_of_ble rfl) (by simp) ?_
  refine SZ.mk (n : Int) (by simp) ?_
  refine SZ.mk (n : Int) (by simp) ?_
  refine SCmp.no (neF rfl) ?_
  refine SLoop.mk Nat (fun i => ([(0, .p (matP m m' n w A)), (1, .p (matP q q' n w A)), (5, .p (.int .i64 i))], []))
    (fun i => i ≤ n) (fun i => n - i) 0 [] (Nat.zero_le _) ⟨rfl, .nil, rfl, rfl, rfl, ⟨rfl, rfl, rfl, trivial⟩, trivial⟩ ?_
  intro i hi
  have hi : i ≤ n := hi
  refine SZ.mk (n : Int) (by simp) ?_
  by_cases hin : i < n
  · refine SCmp.yes (decide_eq_true (by omega)) ?_
    have hl : Bl (lst w (A i)) a := Bl.lst fun k hk => hA i k hin hk
    have hR := rrows_ok m' q' (lst w (A i)) (lst w (A i)) hl hl ha (by rw [lst_length]; omega)
    rw [decide_eq_true rfl] at hR
    refine SDraw.mk (by kernel_rfl) ?_
    repeat refine SOp.mk _ _ (And.intro rfl rfl) rfl ?_
    refine SOp.mk _ _ (SIdx.mf i rfl hin (And.intro rfl rfl)) rfl ?_
    repeat refine SOp.mk _ _ (And.intro rfl rfl) rfl ?_
    refine SOp.mk _ _ (SIdx.mf i rfl hin (And.intro rfl rfl)) rfl ?_
    repeat refine SOp.mk _ _ (And.intro rfl rfl) rfl ?_
    refine SOp.mk _ _ (SCall.pure (hR) (And.intro rfl rfl)) rfl ?_
    refine SOp.mk _ _ (SCmp.no rfl (And.intro rfl rfl)) rfl ?_
    refine SWrap.i64z ((i + 1 : Nat) : Int) (by omega) (by omega) ?_
    exact ⟨i + 1, [], hin, by show n - (i + 1) < n - i; omega, ⟨rfl, .nil, rfl, rfl, rfl, ⟨rfl, rfl, rfl, trivial⟩, trivial⟩⟩
  · refine SCmp.no (decide_eq_false (by omega)) ?_
    exact SRet.pure (.tf _)
/-- What is told of a tree is told of another one. -/
def PRle (p' p : PV) : Prop := ∀ w FB v, PR w FB p' v → PR w FB p v
theorem PRle.refl (p : PV) : PRle p p := fun _ _ _ h => h
theorem PRle.nil (m : Bool) (W : Nat) : PRle (.raw (.slice none 0 0)) (.sl m W []) := fun w FB v h => by cases h; exact .nil _ _ _
theorem PRle.agg {cs' cs : List PV} (hl : cs'.length = cs.length) (ho : ∀ c ∈ cs, c.one = true) (h : ∀ (i : Nat) c' c, cs'[i]? = some c' → cs[i]? = some c → PRle c' c) : PRle (.agg cs') (.agg cs) := fun w FB v hv => by
  cases hv with
  | agg _ vs hone hl' h' =>
    refine .agg cs vs ho (by rw [hl', hl]) fun i c v e1 e2 => ?_
    have hi : i < cs'.length := by rw [hl]; exact (List.getElem?_eq_some_iff.1 e1).1
    exact h i cs'[i] c (List.getElem?_eq_getElem hi) e1 _ _ _ (h' i _ v (List.getElem?_eq_getElem hi) e2)
theorem CallG.weak {P : Program} {f : FuncId} {pvs pvs' : List PV} {r : AV} {nb : List Blk} (hc : CallP P f pvs r nb) (hl : pvs'.length = pvs.length) (h : ∀ (i : Nat) p' p, pvs'[i]? = some p' → pvs[i]? = some p → PRle p' p) : CallP P f pvs' r nb :=
  ⟨hc.fn, fun w F Bor β vs ha => hc.run w F Bor β vs { ha with
    len := by rw [ha.len, List.length_map, List.length_map, hl]
    rel := fun i a v e1 e2 => by
      rw [List.getElem?_map] at e1
      cases e : pvs[i]? with
      | none => rw [e] at e1; cases e1
      | some p =>
        rw [e] at e1; cases e1
        have hi : i < pvs'.length := by rw [hl]; exact (List.getElem?_eq_some_iff.1 e).1
        have e' : pvs'[i]? = some pvs'[i] := List.getElem?_eq_getElem hi
        have := ha.rel i (.p pvs'[i]) v (by rw [List.getElem?_map, e']; rfl) e2
        exact .p (h i _ p e' e _ _ _ this.pOf)
    ma := fun a ha k hk => by obtain ⟨v, _, rfl⟩ := List.mem_map.1 ha; simp only [AV.men] at hk }⟩
end Go.Proofs.YtkaooejeljdbnaaGreat

namespace Go.Proofs.YtkaooejeljdbnaaGreat
open Go
set_option linter.unusedVariables false
set_option linter.unusedSimpArgs false
set_option maxRecDepth 10000
structure CauG (g : GV) (b c : Nat) : Prop extends Wf g b c where
  k5 : g.k = 5
theorem CauG.la {g : GV} {b c : Nat} (h : CauG g b c) : g.la = g.n := h.toWf.la3 (by have := h.k5; omega)
theorem CauG.lb {g : GV} {b c : Nat} (h : CauG g b c) : g.lb = g.n := h.toWf.lb5 (by have := h.k5; omega)
end Go.Proofs.YtkaooejeljdbnaaGreat

namespace Go.Proofs.YtkaooejeljdbnaaGreat
open Go
set_option linter.unusedVariables false
set_option linter.unusedSimpArgs false
set_option maxRecDepth 10000
theorem PRle.gen {m : Nat → Bool} {g : GV} {k n r : Int} {a b c d : PV} (hk : k = g.k) (hn : n = g.n) (hr : r = g.r) (ha : PRle a (ratsM (m 0) (lst g.la g.A))) (hb : PRle b (ratsM (m 1) (lst g.lb g.B))) (hc : PRle c (ratsM (m 2) (lst g.lh g.G))) (hd : PRle d (ratsM (m 3) (lst g.lh g.H))) :
    PRle (.agg [.int .i64 k, .int .i64 n, .int .i64 r, a, b, c, d]) (genP m g) := by
  subst hk; subst hn; subst hr
  refine PRle.agg rfl (fun c hc => ?_) fun i c' c e1 e2 => ?_
  · simp only [genC, List.mem_cons, List.not_mem_nil, or_false] at hc
    rcases hc with rfl | rfl | rfl | rfl | rfl | rfl | rfl <;> rfl
  · match i, e1, e2 with
    | 0, e1, e2 => cases e1; cases e2; exact .refl _
    | 1, e1, e2 => cases e1; cases e2; exact .refl _
    | 2, e1, e2 => cases e1; cases e2; exact .refl _
    | 3, e1, e2 => cases e1; cases e2; exact ha
    | 4, e1, e2 => cases e1; cases e2; exact hb
    | 5, e1, e2 => cases e1; cases e2; exact hc
    | 6, e1, e2 => cases e1; cases e2; exact hd
theorem CallG.weak1 {P : Program} {f : FuncId} {p p' : PV} {r : AV} {nb : List Blk} (hc : CallP P f [p] r nb) (h : PRle p' p) : CallP P f [p'] r nb :=
  CallG.weak hc rfl fun i p1 p2 e1 e2 => by
    match i, e1, e2 with
    | 0, e1, e2 => cases e1; cases e2; exact h
end Go.Proofs.YtkaooejeljdbnaaGreat

namespace Go.Proofs.YtkaooejeljdbnaaGreat
open Go
set_option linter.unusedVariables false
set_option linter.unusedSimpArgs false
set_option maxRecDepth 10000
def m11 : Nat → Bool
  | 0 => true
  | _ => false
def g11 : GV := ⟨1, 1, 0, fun _ => ((4 : Int) : Rat), fun _ => 0, fun _ => 0, fun _ => 0⟩
theorem wf_g11 : Wf g11 5 13 where
  k1 := by decide
  k7 := by decide
  n1 := by decide
  n6 := by decide
  r2 := by decide
  r1 := fun h => by rcases h with h | h <;> cases h
  r0 := fun _ => rfl
  bA := fun i _ => int_bz (by decide) (by decide)
  bB := fun i _ => bz_zero.mono (by decide)
  bG := fun i _ => bz_zero.mono (by decide)
  bH := fun i _ => bz_zero.mono (by decide)
  ne := fun i j _ hj => absurd hj (Nat.not_lt_zero _)
  bc := by decide
  c4 := by decide
/-- The last step changes no row. -/
theorem GsB.of' {A : Nat → Nat → Rat} {n b : Nat} (n1 : 1 ≤ n) (hA : ∀ i j, i < n → j < n → Bz (A i j) b) : GsB A n (bb b (n - 1)) := fun k hk i j hi hj => by
  by_cases e : k = n
  · obtain ⟨d, rfl⟩ : ∃ d, n = d + 1 := ⟨n - 1, by omega⟩
    rw [e, gs_le (.inl (by omega))]
    exact (gs_bz hA d (by omega) i j hi hj)
  · exact (gs_bz hA k hk i j hi hj).mono (bb_mono (by omega))
/-- Digits of what is left behind any step, of a Gen of the statements. -/
theorem gsB_wf {g : GV} (h : Wf g 5 13) (h5 : g.n ≤ 5) : GsB (ent g) g.n 42100 := fun k hk i j hi hj =>
  (GsB.of' (b := 163) h.n1 (fun i j hi hj => h.bEnt hi hj) k hk i j hi hj).mono (Nat.le_trans (bb_mono (show g.n - 1 ≤ 4 by omega)) (by decide +kernel))
/-- One row, of one number, made anew. -/
theorem all1_ok (A : Nat → Nat → Rat) {a : Nat} (hA : Bz (A 0 0) a) (ha : a + a ≤ 1048576) : CallP Tryz.prog 26 [matP false false 1 1 A, .sl true 1 [ratsM true (lst 1 fun _ => A 0 0)]] (.p (.bool true)) [] := by
  have h := rall_ok false false true true 1 1 A (a := a) (fun i k hi hk => by
    obtain rfl : i = 0 := by omega
    obtain rfl : k = 0 := by omega
    exact hA) ha (by decide) (by decide)
  exact h
theorem known11_ok : CallP Tryz.prog 28 [] (.p (.bool true)) [] := by
  have hf := sfactor_ok m11 g11 wf_g11 (gsB_wf wf_g11 (by decide)) (by decide) (fun t ht => by
    obtain rfl : t = 0 := by have : t < 1 := ht; omega
    show ent g11 0 0 ≠ 0
    decide +kernel)
  have e1 : lowM (ent g11) 0 0 = ((1 : Int) : Rat) := by decide +kernel
  have e2 : uppM (ent g11) 0 0 = ((4 : Int) : Rat) := by decide +kernel
  have a1 := all1_ok (lowM (ent g11)) (a := 5) (by rw [e1]; exact int_bz (by decide) (by decide)) (by decide)
  have a2 := all1_ok (uppM (ent g11)) (a := 5) (by rw [e2]; exact int_bz (by decide) (by decide)) (by decide)
  rw [e1] at a1
  rw [e2] at a2
  refine callG_of_vc (wr := wr0) Γok mixed Tryz.func28 (by kernel_rfl) rfl (by kernel_rfl) (le_of_ble rfl) (by simp) ?_
  refine SCall.pure (rint_ok 4 (by decide)) ?_
  refine SView.all rfl <| SCall.pureT (pvs := [.agg [.int .i64 1, .int .i64 1, .int .i64 0, ratsM true (lst 1 g11.A), znil, znil, znil]]) (CallG.weak1 hf (.gen rfl rfl rfl (.refl _) (.nil _ _) (.nil _ _) (.nil _ _))) (fun _ => rfl) ?_
  refine SCmp.yes (rfl) ?_
  refine SCmp.yes (rfl) ?_
  refine SCall.pure (rint_ok 1 (by decide)) ?_
  refine SLendR.mk [ratsM true (lst 1 fun _ => ((1 : Int) : Rat))] rfl rfl (fun i c p e1 e2 => ?_) ?_
  · match i, e1, e2 with
    | 0, e1, e2 => cases e1; cases e2; exact .vec (es := rats (lst 1 fun _ => ((1 : Int) : Rat))) rfl (by decide)
  refine SCall.pure (a1) ?_
  refine SCond.mk (fun _ => ?_) (fun h => by cases h)
  refine SCall.pure (rint_ok 4 (by decide)) ?_
  refine SLendR.mk [ratsM true (lst 1 fun _ => ((4 : Int) : Rat))] rfl rfl (fun i c p e1 e2 => ?_) ?_
  · match i, e1, e2 with
    | 0, e1, e2 => cases e1; cases e2; exact .vec (es := rats (lst 1 fun _ => ((4 : Int) : Rat))) rfl (by decide)
  refine SCall.pure (a2) ?_
  exact SRet.pure (.p _ (.bool _))
end Go.Proofs.YtkaooejeljdbnaaGreat

namespace Go.Proofs.YtkaooejeljdbnaaGreat
open Go
set_option linter.unusedVariables false
set_option linter.unusedSimpArgs false
set_option maxRecDepth 10000
theorem gs_sym {A : Nat → Nat → Rat} {n : Nat} (h : ∀ i j, i < n → j < n → A i j = A j i) : ∀ k, k ≤ n → ∀ i j, k ≤ i → k ≤ j → i < n → j < n → gs A k i j = gs A k j i := by
  intro k
  induction k with
  | zero => exact fun _ i j _ _ hi hj => h i j hi hj
  | succ k ih =>
    intro hk i j h1 h2 hi hj
    have ih := ih (by omega)
    rw [gs_gt (by omega) (by omega), gs_gt (by omega) (by omega), ih j i (by omega) (by omega) hj hi, ih j k (by omega) (by omega) hj (by omega), ih k i (by omega) (by omega) (by omega) hi, Rat.div_def, Rat.div_def]
    generalize (gs A k k k)⁻¹ = p
    generalize gs A k i j = a
    generalize gs A k i k = x
    generalize gs A k k j = y
    grind
theorem upp_low {A : Nat → Nat → Rat} {n : Nat} (h : ∀ i j, i < n → j < n → A i j = A j i) (hp : ∀ t, t < n → piv A t ≠ 0) {i j : Nat} (hi : i < n) (hj : j < n) : uppM A i j = lowM A j i * uppM A i i := by
  unfold lowM
  by_cases c1 : j < i
  · rw [show uppM A i j = 0 from if_pos c1, if_neg (by omega), if_neg (by omega)]; grind
  · by_cases c2 : j = i
    · subst c2; rw [if_pos rfl]; grind
    · rw [if_neg c2, if_pos (by omega), upp_diag]
      have e : uppM A i j = gs A i j i := by unfold uppM; rw [if_neg c1]; exact gs_sym h i (by omega) i j (Nat.le_refl _) (by omega) hi hj
      have hpi : gs A i i i ≠ 0 := hp i hi
      rw [e]
      show _ = gs A i j i / gs A i i i * gs A i i i
      generalize gs A i j i = x
      generalize gs A i i i = y at hpi
      grind
/-- The diagonals, made the same on both sides, as far as they are. -/
def evA (N : Nat) (A : Nat → Rat) (i t : Nat) : Rat := if N ≤ t + i ∧ t < N then A (2 * N - 2 - t) else A t
theorem evA_sym {g : GV} {F : Nat → Rat} (hk : g.k = 1) (hF : ∀ t, t < 2 * g.n - 1 → F t = evA g.n g.A g.n t) : ∀ i j, i < g.n → j < g.n → ent { g with A := F } i j = ent { g with A := F } j i := by
  intro i j hi hj
  unfold ent
  rw [if_pos hk, if_pos hk]
  show F (i + g.n - 1 - j) = F (j + g.n - 1 - i)
  rw [hF _ (by omega), hF _ (by omega)]
  unfold evA
  by_cases c : j < i
  · rw [if_neg (by omega), if_pos (by omega)]; congr 1; omega
  · by_cases c2 : i < j
    · rw [if_pos (by omega), if_neg (by omega)]; congr 1; omega
    · obtain rfl : i = j := by omega
      rfl
theorem evA_step {N i : Nat} {A F : Nat → Rat} (hi : i < N) (hF : ∀ t, t < 2 * N - 1 → F t = evA N A i t) : ∀ t, t < 2 * N - 1 → upd F (N - 1 - i + 0) (F (N - 1 + i + 0)) t = evA N A (i + 1) t := by
  intro t ht
  simp only [upd, Nat.add_zero]
  by_cases e : t = N - 1 - i
  · rw [if_pos e, hF _ (by omega)]
    unfold evA
    rw [if_neg (by omega), if_pos (by omega)]; congr 1; omega
  · rw [if_neg e, hF t ht]
    unfold evA
    by_cases c : N ≤ t + i ∧ t < N
    · rw [if_pos c, if_pos (by omega)]
    · rw [if_neg c, if_neg (by omega)]
theorem wf_ev {g : GV} {F : Nat → Rat} (h : Wf g 5 13) (hk : g.k = 1) (hF : ∀ t, t < 2 * g.n - 1 → F t = evA g.n g.A g.n t) : Wf { g with A := F } 5 13 :=
  { h with
    bA := fun i hi => by
      have la := h.la12 (.inl hk)
      have hi : i < g.la := hi
      show Bz (F i) 5
      rw [hF i (by omega)]
      unfold evA
      split
      · exact h.bA _ (by omega)
      · exact h.bA _ hi
    ne := fun i j _ hj => by
      have : g.lb = 0 := if_neg (by omega)
      exact absurd (show j < g.lb from hj) (by omega) }
theorem gsB_toep {g : GV} (h : Wf g 5 13) (hk : g.k = 1) : GsB (ent g) g.n 10000 := fun k hk' i j hi hj =>
  (GsB.of' (b := 5) h.n1 (fun i j hi hj => by
    unfold ent
    rw [if_pos hk]
    have la := h.la12 (.inl hk)
    exact h.bA _ (by omega)) k hk' i j hi hj).mono (Nat.le_trans (bb_mono (show g.n - 1 ≤ 5 by have := h.n6; omega)) (by decide +kernel))
set_option maxHeartbeats 1000000 in
theorem schurEven_ok (m : Bool) (n : Int) (ns : List Int) (hn : I64 n) (hns : I64s ns) : CallP Tryz.prog 6 [.int .i64 n, .sl m 1 (intsP ns)] (.p (.bool true)) [] := by
  have hm := lmake5_ok m 0 n 6 ns (by unfold I64; omega) hn hns (by omega) (by omega)
  have H := wf_make 0 n 6 ns (by omega) (by omega)
  have hk1 : (mkG (gmK 0) (gmN n 6) (gmR (gmK 0) n) (rowG ns)).k = 1 := rfl
  generalize mkG (gmK 0) (gmN n 6) (gmR (gmK 0) n) (rowG ns) = g at hm H hk1
  have n1 := H.n1
  have h6 := H.n6
  have la := H.la12 (.inl hk1)
  have hlen : (rats (lst g.la g.A)).length = g.la := by simp [lst]
  refine callG_of_vc (wr := wr0) Γok mixed Tryz.func6 (by kernel_rfl) rfl (by kernel_rfl) (le_of_ble rfl) (by simp) ?_
  refine SCall.pure (known11_ok) ?_
  refine SCmp.no (rfl) ?_
  refine SCall.pure (hm) ?_
  refine SRoom.mk (by simp [lst]; omega) (by simp [lst]; omega) ?_
  refine SLoop.mk (Nat × (Nat → Rat)) (fun (i, F) => ([(5, .bptr 0 0), (6, .p (.int .i64 i))], [.box 26 [.p (.int .i64 g.k), .p (.int .i64 g.n), .p (.int .i64 g.r), .vec 1 3 0 (rats (lst g.la g.A)).length, .p (ratsM false (lst g.lb g.B)), .p (ratsM false (lst g.lh g.G)), .p (ratsM false (lst g.lh g.H))], .vec 33 3 (rats (lst g.la F))]))
    (fun (i, F) => i ≤ g.n ∧ ∀ t, t < 2 * g.n - 1 → F t = evA g.n g.A i t) (fun x => g.n - x.1) (0, g.A) [0, 1] ⟨Nat.zero_le _, fun t ht => by unfold evA; rw [if_neg (by omega)]⟩ ⟨rfl, by simp, rfl, rfl, rfl, ⟨rfl, rfl, trivial⟩, ⟨rfl, rfl, trivial⟩⟩ ?_
  intro ⟨i, F⟩ ⟨hi, hF⟩
  by_cases hin : i < g.n
  · refine SCmp.yes (decide_eq_true (by omega)) ?_
    have zF : Bz (F (g.n - 1 + i + 0)) 5 := by
      rw [hF _ (by omega)]
      unfold evA
      split
      · exact H.bA _ (by omega)
      · exact H.bA _ (by omega)
    refine SDraw.mkX (by kernel_rfl) ?_
    repeat refine SOp.mk _ _ (And.intro rfl rfl) rfl ?_
    refine SOp.mk _ _ (SWrap.i64z ((g.n - 1 : Nat) : Int) (by omega) (by omega) (And.intro rfl rfl)) rfl ?_
    repeat refine SOp.mk _ _ (And.intro rfl rfl) rfl ?_
    refine SOp.mk _ _ (SWrap.i64z ((g.n - 1 - i : Nat) : Int) (by omega) (by omega) (And.intro rfl rfl)) rfl ?_
    repeat refine SOp.mk _ _ (And.intro rfl rfl) rfl ?_
    refine SOp.mk _ _ (SWrap.i64z ((g.n - 1 : Nat) : Int) (by omega) (by omega) (And.intro rfl rfl)) rfl ?_
    repeat refine SOp.mk _ _ (And.intro rfl rfl) rfl ?_
    refine SOp.mk _ _ (SWrap.i64z ((g.n - 1 + i : Nat) : Int) (by omega) (by omega) (And.intro rfl rfl)) rfl ?_
    repeat refine SOp.mk _ _ (And.intro rfl rfl) rfl ?_
    refine SOp.mk _ _ (SPos.mk (g.n - 1 + i) rfl (by rw [hlen]; omega) (And.intro rfl rfl)) rfl ?_
    refine SOp.mk _ _ (SIdx.rv (g.n - 1 + i + 0) (F (g.n - 1 + i + 0)) rfl (by omega) rfl (And.intro rfl rfl)) rfl ?_
    repeat refine SOp.mk _ _ (And.intro rfl rfl) rfl ?_
    refine SOp.mk _ _ (SCall.pure (rcopy_ok (F (g.n - 1 + i + 0)) zF (by omega)) (And.intro rfl rfl)) rfl ?_
    refine SOp.mk _ _ (SPos.mk (g.n - 1 - i) rfl (by rw [hlen]; omega) (And.intro rfl rfl)) rfl ?_
    refine SOp.mk _ _ (SLt.rf (by omega) <| SEs.rf (And.intro rfl rfl)) rfl ?_
    refine SFin.mk (by kernel_rfl) ?_
    refine SWrap.i64z ((i + 1 : Nat) : Int) (by omega) (by omega) ?_
    exact ⟨(i + 1, _), [0, 1], ⟨hin, evA_step hin hF⟩, by show g.n - (i + 1) < g.n - i; omega, ⟨rfl, by simp, rfl, rfl, rfl, ⟨rfl, rfl, trivial⟩, ⟨rfl, rfl, trivial⟩⟩⟩
  · refine SCmp.no (decide_eq_false (by omega)) ?_
    obtain rfl : g.n = i := by omega
    have H2 := wf_ev H hk1 hF
    have hs := evA_sym hk1 hF
    obtain ⟨A, hA⟩ : ∃ A, A = ent { g with A := F } := ⟨_, rfl⟩
    have hB := gsB_toep H2 hk1
    have hf1 := sfactorZ_ok m11 { g with A := F } H2 hB (by decide)
    have hf2 := sfactor_ok m11 { g with A := F } H2 hB (by decide)
    have hx := rexpand5_ok m11 { g with A := F } H2
    have bE : ∀ i k, i < g.n → k < g.n → Bz (ent { g with A := F } i k) 163 := fun i k hi hk => H2.bEnt hi hk
    rw [← hA] at hB hf1 hf2 hx hs bE
    obtain ⟨b1, b2, b3⟩ := brkN_spec A g.n
    by_cases hz : brkN A g.n < g.n
    · have f3 := rleast_ok false false g.n (brkN A g.n) A h6 bE hz b2 (b3 hz)
      refine SView.all (by simp [lst]) <| SCall.pureT (pvs := [genP m11 { g with A := F }]) (hf1 hz) (fun _ => rfl) ?_
      refine SCmp.yes (rfl) ?_
      refine SCmp.yes (rfl) ?_
      refine SView.all (by simp [lst]) <| SCall.pure (pvs := [genP m11 { g with A := F }]) hx ?_
      refine SCall.pure (f3) ?_
      refine SCmp.yes (decide_eq_true (by omega)) ?_
      exact SRet.pure (.tf _)
    · have hp : ∀ t, t < g.n → piv A t ≠ 0 := fun t ht => b2 t (by omega)
      refine SView.all (by simp [lst]) <| SCall.pureT (pvs := [genP m11 { g with A := F }]) (hf2 hp) (fun _ => rfl) ?_
      refine SCmp.no (neF rfl) ?_
      refine SZ.mk (g.n : Int) (by simp) ?_
      refine SCmp.no (neF rfl) ?_
      refine SZ.mk (g.n : Int) (by simp) ?_
      refine SCmp.no (neF rfl) ?_
      refine SLoop.mk Nat (fun i => ([(5, .bptr 0 0), (7, .p (matP false false g.n g.n (lowM A))), (8, .p (matP false false g.n g.n (uppM A))), (11, .p (.int .i64 i))], [.box 26 [.p (.int .i64 g.k), .p (.int .i64 g.n), .p (.int .i64 g.r), .vec 1 3 0 (rats (lst g.la g.A)).length, .p (ratsM false (lst g.lb g.B)), .p (ratsM false (lst g.lh g.G)), .p (ratsM false (lst g.lh g.H))], .vec 33 3 (rats (lst g.la F))]))
        (fun i => i ≤ g.n) (fun i => g.n - i) 0 [0, 1] (Nat.zero_le _) ⟨rfl, by simp, rfl, rfl, rfl, ⟨rfl, rfl, rfl, rfl, trivial⟩, ⟨rfl, rfl, trivial⟩⟩ ?_
      intro i hi
      have hi : i ≤ g.n := hi
      by_cases hin : i < g.n
      · refine SCmp.yes (decide_eq_true (by omega)) ?_
        refine SDraw.mk (by kernel_rfl) ?_
        repeat refine SOp.mk _ _ (And.intro rfl rfl) rfl ?_
        refine SOp.mk _ _ (SIdx.mf i rfl hin (And.intro rfl rfl)) rfl ?_
        repeat refine SOp.mk _ _ (And.intro rfl rfl) rfl ?_
        refine SOp.mk _ _ (SZ.mk (g.n : Int) (by simp [lst]) (And.intro rfl rfl)) rfl ?_
        repeat refine SOp.mk _ _ (And.intro rfl rfl) rfl ?_
        refine SOp.mk _ _ (SCmp.no (neF rfl) (And.intro rfl rfl)) rfl ?_
        repeat refine SOp.mk _ _ (And.intro rfl rfl) rfl ?_
        refine SOp.mk _ _ (SIdx.mf i rfl hin (And.intro rfl rfl)) rfl ?_
        repeat refine SOp.mk _ _ (And.intro rfl rfl) rfl ?_
        refine SOp.mk _ _ (SZ.mk (g.n : Int) (by simp [lst]) (And.intro rfl rfl)) rfl ?_
        repeat refine SOp.mk _ _ (And.intro rfl rfl) rfl ?_
        refine SOp.mk _ _ (SCmp.no (neF rfl) (And.intro rfl rfl)) rfl ?_
        repeat refine SOp.mk _ _ (And.intro rfl rfl) rfl ?_
        refine SWrap.i64z ((i + 1 : Nat) : Int) (by omega) (by omega) ?_
        exact ⟨i + 1, [0, 1], hin, by show g.n - (i + 1) < g.n - i; omega, ⟨rfl, by simp, rfl, rfl, rfl, ⟨rfl, rfl, rfl, rfl, trivial⟩, ⟨rfl, rfl, trivial⟩⟩⟩
      · refine SCmp.no (decide_eq_false (by omega)) ?_
        refine SLoop.mk Nat (fun i => ([(5, .bptr 0 0), (7, .p (matP false false g.n g.n (lowM A))), (8, .p (matP false false g.n g.n (uppM A))), (12, .p (.int .i64 i))], [.box 26 [.p (.int .i64 g.k), .p (.int .i64 g.n), .p (.int .i64 g.r), .vec 1 3 0 (rats (lst g.la g.A)).length, .p (ratsM false (lst g.lb g.B)), .p (ratsM false (lst g.lh g.G)), .p (ratsM false (lst g.lh g.H))], .vec 33 3 (rats (lst g.la F))]))
          (fun i => i ≤ g.n) (fun i => g.n - i) 0 [0, 1] (Nat.zero_le _) ⟨rfl, by simp, rfl, rfl, rfl, ⟨rfl, rfl, rfl, rfl, trivial⟩, ⟨rfl, rfl, trivial⟩⟩ ?_
        intro i hi
        have hi : i ≤ g.n := hi
        by_cases hin : i < g.n
        · refine SCmp.yes (decide_eq_true (by omega)) ?_
          refine SLoop.mk Nat (fun j => ([(5, .bptr 0 0), (7, .p (matP false false g.n g.n (lowM A))), (8, .p (matP false false g.n g.n (uppM A))), (12, .p (.int .i64 i)), (13, .p (.int .i64 j))], [.box 26 [.p (.int .i64 g.k), .p (.int .i64 g.n), .p (.int .i64 g.r), .vec 1 3 0 (rats (lst g.la g.A)).length, .p (ratsM false (lst g.lb g.B)), .p (ratsM false (lst g.lh g.G)), .p (ratsM false (lst g.lh g.H))], .vec 33 3 (rats (lst g.la F))]))
            (fun j => j ≤ g.n) (fun j => g.n - j) 0 [0, 1] (Nat.zero_le _) ⟨rfl, by simp, rfl, rfl, rfl, ⟨rfl, rfl, rfl, rfl, rfl, trivial⟩, ⟨rfl, rfl, trivial⟩⟩ ?_
          intro j hj
          have hj : j ≤ g.n := hj
          by_cases hjn : j < g.n
          · refine SCmp.yes (decide_eq_true (by omega)) ?_
            have zL : Bz (lowM A j i) 20001 := by
              unfold lowM
              split
              · exact bz_one.mono (by omega)
              · split
                · exact ((hB i (by omega) j i hjn hin).div (hB i (by omega) i i hin hin)).mono (by omega)
                · exact bz_zero.mono (by omega)
            have zU : ∀ j, j < g.n → Bz (uppM A i j) 10001 := fun j hj => by
              unfold uppM
              split
              · exact bz_zero.mono (by omega)
              · exact (hB i (by omega) i j hin hj).mono (by omega)
            have zM : Bz (lowM A j i * uppM A i i) 40000 := (zL.mul (zU i hin)).mono (by omega)
            have zV : Bz (uppM A i j) 40000 := (zU j hjn).mono (by omega)
            have sp := rsame_ok (uppM A i j) (lowM A j i * uppM A i i) zV zM (by omega)
            rw [decide_eq_true (upp_low hs hp hin hjn)] at sp
            refine SDraw.mk (by kernel_rfl) ?_
            repeat refine SOp.mk _ _ (And.intro rfl rfl) rfl ?_
            refine SOp.mk _ _ (SIdx.mf i rfl hin (And.intro rfl rfl)) rfl ?_
            repeat refine SOp.mk _ _ (And.intro rfl rfl) rfl ?_
            refine SOp.mk _ _ (SIdx.rv j (uppM A i j) rfl hjn rfl (And.intro rfl rfl)) rfl ?_
            repeat refine SOp.mk _ _ (And.intro rfl rfl) rfl ?_
            refine SOp.mk _ _ (SIdx.mf j rfl hjn (And.intro rfl rfl)) rfl ?_
            repeat refine SOp.mk _ _ (And.intro rfl rfl) rfl ?_
            refine SOp.mk _ _ (SIdx.rv i (lowM A j i) rfl hin rfl (And.intro rfl rfl)) rfl ?_
            repeat refine SOp.mk _ _ (And.intro rfl rfl) rfl ?_
            refine SOp.mk _ _ (SIdx.mf i rfl hin (And.intro rfl rfl)) rfl ?_
            repeat refine SOp.mk _ _ (And.intro rfl rfl) rfl ?_
            refine SOp.mk _ _ (SIdx.rv i (uppM A i i) rfl hin rfl (And.intro rfl rfl)) rfl ?_
            repeat refine SOp.mk _ _ (And.intro rfl rfl) rfl ?_
            refine SOp.mk _ _ (SCall.pure (rmulq_ok _ _ zL (zU i hin) (by omega)) (And.intro rfl rfl)) rfl ?_
            refine SOp.mk _ _ (SCall.pure (sp) (And.intro rfl rfl)) rfl ?_
            refine SOp.mk _ _ (SCmp.no rfl (And.intro rfl rfl)) rfl ?_
            refine SWrap.i64z ((j + 1 : Nat) : Int) (by omega) (by omega) ?_
            exact ⟨j + 1, [0, 1], hjn, by show g.n - (j + 1) < g.n - j; omega, ⟨rfl, by simp, rfl, rfl, rfl, ⟨rfl, rfl, rfl, rfl, rfl, trivial⟩, ⟨rfl, rfl, trivial⟩⟩⟩
          · refine SCmp.no (decide_eq_false (by omega)) ?_
            refine SWrap.i64z ((i + 1 : Nat) : Int) (by omega) (by omega) ?_
            exact ⟨i + 1, [0, 1], hin, by show g.n - (i + 1) < g.n - i; omega, ⟨rfl, by simp, rfl, rfl, rfl, ⟨rfl, rfl, rfl, rfl, trivial⟩, ⟨rfl, rfl, trivial⟩⟩⟩
        · refine SCmp.no (decide_eq_false (by omega)) ?_
          exact SRet.pure (.tf _)
end Go.Proofs.YtkaooejeljdbnaaGreat

namespace Go.Proofs.YtkaooejeljdbnaaGreat
open Go Go.ChangeShapes Go.WideShapes Go.ChangeAt Go.RowKit Go.WideElems
set_option linter.unusedVariables false
set_option linter.unusedSimpArgs false
theorem Tryz.own : ownKnob Tryz.prog.godebug = none := by kernel_rfl
theorem Tryz.laidOut : laidOutB Tryz.prog = true := by kernel_rfl
theorem Tryz.cells3 : Tryz.prog.cellsOf 3 = 1 := by kernel_rfl
abbrev oldF (W : World) : Nat → Prop := fun b => b < W.heap.size
theorem law_call {P : Program} {f : FuncId} {pvs : List PV} (hc : CallP P f pvs (.p (.bool true)) []) {W : World} {vs : List Value} (hl : vs.length = pvs.length) (hv : ∀ (i : Nat) p v, pvs[i]? = some p → vs[i]? = some v → PR W (FBof noBor (oldF W)) p v) :
    Calls P f vs.toArray W fun e W' => e = .returned (.bool true) ∧ Below W.heap.size W W' := by
  refine (hc.run W (oldF W) noBor (fun _ => (none, 0)) vs ⟨by simp [hl], fun i a v e1 e2 => ?_, fun h => by rw [look_nil]; trivial, fun b h => h, fun b h => h.elim, fun h b hl => ?_, fun h h' b hl => ?_, fun a ha k hk => ?_, fun h k hk => ?_⟩).mono ?_
  · rw [List.getElem?_map] at e1
    cases hp : pvs[i]? with
    | none => rw [hp] at e1; cases e1
    | some p => rw [hp] at e1; cases e1; exact .p (hv i p v hp e2)
  · rw [look_nil] at hl; exact hl.elim
  · rw [look_nil] at hl; exact hl.elim
  · obtain ⟨p, _, rfl⟩ := List.mem_map.1 ha; simp only [AV.men] at hk
  · rw [look_nil] at hk; exact hk.elim
  · intro e W' ⟨v, F', β', he, hr⟩
    subst he
    refine ⟨?_, hr.os, hr.tape, hr.output, hr.size, fun b hb => hr.same b hb fun h hl => ?_⟩
    · have := hr.rel
      cases this with | p h => cases h; rfl
    · rw [look_nil] at hl; exact hl.elim
section
variable {H : Type} {enc : TypeId × Value → H} {P : Program} {W : World} {base : Nat} {sp : Nat → Bool} {held : Bool}
theorem openInt {t : TypeId} {r : Go.Reach} {b0 : Nat} {v : Value} {d : DataW H} {ps : List MemPlace} (ht : P.underlying t = some (.int .i64)) (hval : Value.okWide P W r b0 t v) (hd : DataW.Trod enc P W base sp held t v d ps) :
    ∃ n, v = .int .i64 n ∧ I64 n := by
  obtain ⟨n, h1, h2, h3, h4⟩ := open_int ht hval hd
  refine ⟨n, h1, ?_⟩
  simp [Lit.wf, IntKind.min, IntKind.max, IntKind.signed, IntKind.bits] at h4
  exact ⟨by omega, by omega⟩
theorem openInts {t e : TypeId} {r : Go.Reach} {b0 : Nat} {v : Value} {d : DataW H} {ps : List MemPlace} (ht : P.underlying t = some (.slice e)) (he : P.underlying e = some (.int .i64)) (hc : P.cellsOf e = 1) (hval : Value.okWide P W r b0 t v)
    (hd : DataW.Trod enc P W base sp held t v d ps) (hlt : ∀ x ∈ ps, x.block < W.heap.size) : ∃ zs : List Int, I64s zs ∧ PR W (FBof noBor (oldF W)) (.sl false 1 (intsP zs)) v := by
  obtain ⟨a0, len, cap, rfl⟩ := okWide_slice ht hval
  obtain ⟨fuel, hf⟩ := hd
  rcases open_ints ht he hc hf with ⟨hcs, hx⟩ | ⟨a, len', cap', zs, hcs, _, hl, hm, hz, hx, hcell, hwz⟩
  · simp [Value.cells] at hcs
    obtain ⟨rfl, rfl, rfl⟩ := hcs
    exact ⟨[], fun i => by simp [I64], .nil _ _ _⟩
  · simp [Value.cells] at hcs
    obtain ⟨rfl, rfl, rfl⟩ := hcs
    simp only [Prod.mk.injEq] at hx
    obtain ⟨_, rfl⟩ := hx
    have hlen : len ≤ zs.length := by rw [hz]; split <;> omega
    have hspot : a.spot = none := by
      simp only [Value.okWide, ht, Cell.okWide] at hval
      simp [Cell.ok, World.has] at hval
      first | exact hval.1.2.1 | exact hval.2.1 | (have := hval; simp_all)
    obtain ⟨b, off, spot⟩ := a
    simp only at hspot
    subst hspot
    refine ⟨zs.take len, fun i => ?_, ?_⟩
    · by_cases hi : i < (zs.take len).length
      · have hm : (zs.take len).getD i 0 ∈ zs := by
          have : (zs.take len).getD i 0 = (zs.take len)[i] := by simp only [List.getD, List.getElem?_eq_getElem hi, Option.getD_some]
          rw [this]
          exact List.mem_of_mem_take (List.getElem_mem hi)
        have h4 := hwz _ hm
        generalize (zs.take len).getD i 0 = q at h4 ⊢
        simp [Lit.wf, IntKind.min, IntKind.max, IntKind.signed, IntKind.bits] at h4
        exact ⟨by omega, by omega⟩
      · rw [getD_ge _ 0 (by omega)]; simp [I64]
    · have hll : (intsP (zs.take len)).length = len := by simp; omega
      have h := PR.sl (w := W) (FB := FBof noBor (oldF W)) false 1 (intsP (zs.take len)) b off cap (fun i _ => .int .i64 (zs.getD i 0)) (by rw [hll]; exact hl) (fun hne => ?_) (fun e he => ?_) (fun e he c hc => ?_) (fun i e j c e1 e2 => ?_) (fun i e j c e1 e2 => ?_)
      · rw [hll] at h; exact h
      · have hpos : 0 < zs.length := by
          rcases Nat.eq_zero_or_pos zs.length with h0 | h0
          · exact (hne (by rw [List.length_eq_zero_iff.1 h0]; simp)).elim
          · exact h0
        exact hlt (.cell b off) (MemPlace.mem_row.2 ⟨0, hpos, by simp⟩)
      · obtain ⟨z, _, rfl⟩ := List.mem_map.1 he; rfl
      · obtain ⟨z, _, rfl⟩ := List.mem_map.1 he
        have hc : c ∈ [PV.int .i64 z] := hc
        simp at hc; subst hc; rfl
      all_goals
        have hi : i < len := by have := (List.getElem?_eq_some_iff.1 e1).1; rwa [hll] at this
        have he : e = .int .i64 (zs.getD i 0) := by
          rw [List.getElem?_map, List.getElem?_take_of_lt hi, List.getElem?_eq_getElem (show i < zs.length by omega)] at e1
          simp at e1
          simp [List.getD, show i < zs.length by omega, ← e1]
        subst he
        have hj : j = 0 := by
          have := (List.getElem?_eq_some_iff.1 e2).1
          simpa [PV.cells] using this
        subst hj
        first
          | (have := hcell i (by omega)
             rw [show off + i * 1 + 0 = off + i by omega]
             rwa [Addr.add_lit] at this)
          | (have hcv : c = .int .i64 (zs.getD i 0) := by simpa [PV.cells] using e2.symm
             subst hcv
             exact .int _ _)
end
end Go.Proofs.YtkaooejeljdbnaaGreat

