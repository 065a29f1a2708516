/- FGSolves: what its proof needs, part 6. -/
import Derived.Test.YtjfcphohgicolaaGreatHGSolves5
set_option linter.unusedVariables false
set_option linter.unusedSimpArgs false
namespace Go.Proofs.YtjfcphohgicolaaGreat
open Go
set_option linter.unusedVariables false
set_option linter.unusedSimpArgs false
set_option maxRecDepth 10000
theorem kzero_ok : CallP Tryz.prog 40 [] (.p (ratP 0)) [] := by
  refine callG_of_vc (wr := wr0) Γok mixed Tryz.func40 (by kernel_rfl) rfl (by kernel_rfl) (le_of_ble rfl) (by simp) ?_
  refine SRet.pure ?_
  rw [ratP_zero]
  exact conv3 ⟨rfl, rfl, rfl⟩ (.p _ (.bool _)) (.p _ (.sl _ _ (fun e he => by simp at he))) (frz1 rfl)
theorem kone_ok : CallP Tryz.prog 79 [] (.p (ratP 1)) [] := by
  refine callG_of_vc (wr := wr0) Γok mixed Tryz.func79 (by kernel_rfl) rfl (by kernel_rfl) (le_of_ble rfl) (by simp) ?_
  refine SRet.pure ?_
  rw [ratP_one']
  exact conv3 ⟨rfl, rfl, rfl⟩ (.p _ (.bool _)) (frz1 rfl) (frz1 rfl)
abbrev permP (n : Nat) (s : Nat → Nat) : List PV := fl n fun i => .int .i64 ((s i : Nat) : Int)
abbrev gwA (n : Nat) (q : Rat) : List AV := [.vec (.t 1) 1 0 n, .vec (.t 3) 1 0 n, .map (.t 4), .p (.bool (decide (q.num < 0))), .p (natP q.num.natAbs), .p (natP q.den)]
abbrev gwB (n : Nat) (G : Nat → Nat → Rat) (s : Nat → Nat) (es : List (PV × PV)) (q : Rat) : List Blk := [.box 74 (gwA n q), .rows 24 (plc 2 n n s), .pool 31 3 (plr n n G), .vec 3 1 (permP n s), .map es]
theorem pers_perm {n : Nat} {s : Nat → Nat} : ∀ e ∈ permP n s, ∀ c ∈ e.cells, Pers c := fun e he c hc => by
  obtain ⟨i, _, rfl⟩ := fl_mem he
  simp only [PV.cells, List.mem_singleton] at hc
  subst hc; exact .int _ _
theorem permP_set {n i k : Nat} {s : Nat → Nat} : (permP n s).set i (.int .i64 ((k : Nat) : Int)) = permP n (upd s i k) := by
  rw [fl_set]; exact fl_congr fun j _ => by unfold upd; split <;> rfl
theorem permP_congr {n : Nat} {s s' : Nat → Nat} (h : ∀ i, i < n → s i = s' i) : permP n s = permP n s' := fl_congr fun i hi => by rw [h i hi]
theorem plr_congr {n w : Nat} {G G' : Nat → Nat → Rat} (h : ∀ r j, r < n → j < w → G r j = G' r j) : plr n w G = plr n w G' := fl_congr fun r hr => by rw [lst_congr fun j hj => h r j hr hj]
/-- All of it is handed back. -/
theorem SRet.gw {n : Nat} {G G' : Nat → Nat → Rat} {s s' : Nat → Nat} {es es' : List (PV × PV)} {q q' : Rat} {H : Hp} {av r : AV} (hH : H.take 5 = gwB n G' s' es' q') (hes : ∀ e ∈ es', Pers e.1 ∧ Pers e.2) (hv : Conv [0, 1, 2, 3, 4] H av r) :
    SRet (gwB n G s es q) av H r (gwB n G' s' es' q') := by
  have get : ∀ i, i < 5 → H.getD i .free = (gwB n G' s' es' q').getD i .free := fun i hi => by
    rw [← hH]; simp [List.getD, List.getElem?_take_of_lt hi]
  have g0 : H.getD 0 .free = .box 74 (gwA n q') := get 0 (by decide)
  have g1 : H.getD 1 .free = .rows 24 (plc 2 n n s') := get 1 (by decide)
  have g2 : H.getD 2 .free = .pool 31 3 (plr n n G') := get 2 (by decide)
  have g3 : H.getD 3 .free = .vec 3 1 (permP n s') := get 3 (by decide)
  have g4 : H.getD 4 .free = .map es' := get 4 (by decide)
  have key : ∀ h : Hd, look (gwB n G s es q) h ≠ .free → (look H h).live ∨ (h = .t 2 ∧ look H h ≠ .free) := fun h hh => by
    have hk := look_lt hh
    have hk : h.key < 5 := hk
    cases h with
    | t i =>
      simp only [look]
      have hk : i < 5 := hk
      match i, hk with
      | 0, _ => rw [g0]; exact .inl trivial
      | 1, _ => rw [g1]; exact .inl trivial
      | 2, _ => rw [g2]; exact .inr ⟨rfl, fun e => by cases e⟩
      | 3, _ => rw [g3]; exact .inl trivial
      | 4, _ => rw [g4]; exact .inl trivial
    | r i k =>
      have hk : i < 5 := hk
      match i, hk with
      | 0, _ => exact absurd rfl hh
      | 1, _ => exact absurd rfl hh
      | 3, _ => exact absurd rfl hh
      | 4, _ => exact absurd rfl hh
      | 2, _ =>
        have hkn : k < n := by
          apply Classical.byContradiction
          intro hkn
          refine hh ?_
          show (Blk.pool 31 3 (plr n n G)).row k = .free
          simp only [Blk.row]
          rw [List.getElem?_eq_none (by simp; omega)]
        left
        simp only [look]
        rw [g2]
        simp only [Blk.row]
        rw [fl_get hkn]; trivial
  refine .mk [0, 1, 2, 3, 4] rfl (by decide) rfl (Nat.le_refl _) (fun h hh => ?_) (fun h hh => ?_) (fun i h B e1 e2 => ?_) hv
  · rcases key h (Blk.live_ne hh) with h1 | ⟨rfl, _⟩
    · exact h1
    · exact hh.elim
  · rcases key h hh with h1 | ⟨_, h1⟩
    · exact Blk.live_ne h1
    · exact h1
  · match i, e1, e2 with
    | 0, e1, e2 =>
      cases e1; cases e2; rw [g0]
      refine .box (fun d hd => by simp only [gwA, List.mem_cons, List.not_mem_nil, or_false] at hd; rcases hd with rfl | rfl | rfl | rfl | rfl | rfl <;> rfl) rfl fun b c d e1 e2 => ?_
      match b, e1, e2 with
      | 0, e1, e2 => cases e1; cases e2; exact .vec rfl
      | 1, e1, e2 => cases e1; cases e2; exact .vec rfl
      | 2, e1, e2 => cases e1; cases e2; exact .map rfl
      | 3, e1, e2 => cases e1; cases e2; exact .p _ (.bool _)
      | 4, e1, e2 => cases e1; cases e2; exact .p _ (.sl _ _ (pers_limbs _))
      | 5, e1, e2 => cases e1; cases e2; exact .p _ (.sl _ _ (pers_limbs _))
    | 1, e1, e2 =>
      cases e1; cases e2; rw [g1]
      refine .rows (fun d hd => by obtain ⟨i, _, rfl⟩ := fl_mem hd; rfl) rfl fun b c d e1 e2 => ?_
      obtain ⟨hb, rfl⟩ := fl_get_iff.1 e1
      obtain ⟨_, rfl⟩ := fl_get_iff.1 e2
      exact .vecr rfl
    | 2, e1, e2 =>
      cases e1; cases e2; rw [g2]
      exact .pool fun k es hk => by
        obtain ⟨_, h⟩ := fl_get_iff.1 hk
        cases h; exact pers_rats _
    | 3, e1, e2 => cases e1; cases e2; rw [g3]; exact .vec pers_perm
    | 4, e1, e2 => cases e1; cases e2; rw [g4]; exact .map hes
theorem plc_id {ρ : Hd → Hd} {p c n : Nat} {s : Nat → Nat} (h : ∀ k, ρ (.r p k) = .r p k) : AV.renL ρ (plc p c n s) = plc p c n s := by
  rw [renL_fl]; exact fl_congr fun i _ => by simp only [AV.ren, h]
/-- A call that works on it. -/
theorem SCall.gw {P : Program} {f : FuncId} {L : Hd → Blk} {base n k : Nat} {K : AV → List (Hd × Blk) → Prop} {G G' : Nat → Nat → Rat} {s s' : Nat → Nat} {es es' : List (PV × PV)} {q q' : Rat} {r : AV}
    (hc : CallG P f [.bptr 0 0, .p (.int .i64 (k : Int))] (gwB n G s es q) r (gwB n G' s' es' q')) (hr : ∀ ρ, r.ren ρ = r) (hb : 5 ≤ base)
    (e0 : L (.t 0) = .box 74 (gwA n q) ∧ ∀ k, L (.r 0 k) = .free) (e1 : L (.t 1) = .rows 24 (plc 2 n n s) ∧ ∀ k, L (.r 1 k) = .free) (e2 : L (.t 2) = .dead ∧ ∀ k, L (.r 2 k) = (Blk.pool 31 3 (plr n n G)).row k)
    (e3 : L (.t 3) = .vec 3 1 (permP n s) ∧ ∀ k, L (.r 3 k) = .free) (e4 : L (.t 4) = .map es ∧ ∀ k, L (.r 4 k) = .free)
    (hk : K r [(.t 0, .box 74 (gwA n q')), (.t 1, .rows 24 (plc 2 n n s')), (.t 2, .pool 31 3 (plr n n G')), (.t 3, .vec 3 1 (permP n s')), (.t 4, .map es')]) {raw : List AV} :
    SCall P true f raw [.bptr 0 0, .p (.int .i64 (k : Int))] L base K := by
  have hρ : ∀ k, renOf [0, 1, 2, 3, 4] base (.r 2 k) = .r 2 k := fun k => rfl
  refine .mk [0, 1, 2, 3, 4] [.bptr 0 0, .p (.int .i64 (k : Int))] r (gwB n G s es q) (gwB n G' s' es' q') (fun e => by cases e) (by decide) (fun h hh => by simp only [List.mem_cons, List.not_mem_nil, or_false] at hh; omega) rfl rfl (fun i h B g1 g2 => ?_)
    (fun B hB => by simp only [gwB, List.mem_cons, List.not_mem_nil, or_false] at hB; rcases hB with rfl | rfl | rfl | rfl | rfl <;> exact ⟨fun e => by (cases e), fun e => by (cases e)⟩)
    (fun B hB k hk => ?_) (Nat.le_refl _) (fun B hB => by simp only [gwB, List.mem_cons, List.not_mem_nil, or_false] at hB; rcases hB with rfl | rfl | rfl | rfl | rfl <;> exact fun e => by (cases e))
    (fun a ha k hk => by
      simp only [List.mem_cons, List.not_mem_nil, or_false] at ha
      rcases ha with rfl | rfl
      · simp only [AV.men] at hk; subst hk; decide
      · simp only [AV.men] at hk) hc ?_
  · match i, g1, g2 with
    | 0, g1, g2 => cases g1; cases g2; exact e0
    | 1, g1, g2 =>
      cases g1; cases g2
      refine ⟨?_, e1.2⟩
      show _ = Blk.rows _ (AV.renL _ _)
      rw [plc_id hρ]; exact e1.1
    | 2, g1, g2 => cases g1; cases g2; exact e2
    | 3, g1, g2 => cases g1; cases g2; exact e3
    | 4, g1, g2 => cases g1; cases g2; exact e4
  · simp only [gwB, List.mem_cons, List.not_mem_nil, or_false] at hB
    rcases hB with rfl | rfl | rfl | rfl | rfl
    · simp only [Blk.men, gwA, AV.menL, AV.men, or_false, false_or] at hk
      rcases hk with rfl | rfl | rfl <;> decide
    · simp only [Blk.men, AV.menL_iff] at hk
      obtain ⟨c, hc, hk⟩ := hk
      obtain ⟨i, _, rfl⟩ := fl_mem hc
      simp only [AV.men] at hk
      subst hk; exact (by decide : 2 < 5)
    · exact hk.elim
    · exact hk.elim
    · exact hk.elim
  · rw [hr]
    show K r [_, (_, Blk.rows _ (AV.renL _ _)), _, _, _]
    rw [plc_id hρ]
    exact hk
theorem plr_in {n w r : Nat} {G : Nat → Nat → Rat} (h : r < n) : r < (plr n w G).length := by simpa using h
theorem mxN_bz {f : Nat → Rat} {g : Rat} {D : Nat} (hg : Bz g D) : ∀ c, (∀ j, j < c → Bz (f j) D) → Bz (mxN f c g) D := by
  intro c
  induction c with
  | zero => exact fun _ => hg
  | succ c ih =>
    intro h
    simp only [mxN]
    split
    · exact (h c (by omega)).abs
    · exact ih fun j hj => h j (by omega)
theorem mxR_bz {B : Nat → Nat → Rat} {n k : Nat} {g : Rat} {D : Nat} (hg : Bz g D) : ∀ d, (∀ i j, k ≤ i → i < k + d → j < n → Bz (B i j) D) → Bz (mxR B n k d g) D := by
  intro d
  induction d with
  | zero => exact fun _ => hg
  | succ d ih =>
    intro h
    simp only [mxR]
    exact mxN_bz (ih fun i j h1 h2 h3 => h i j h1 (by omega) h3) n fun j hj => h (k + d) j (by omega) (by omega) hj
theorem glook_ok (n k : Nat) (G B : Nat → Nat → Rat) (s : Nat → Nat) (es : List (PV × PV)) (q : Rat) {D : Nat} (hk : k ≤ n) (hn : n ≤ 1000) (hs : ∀ i, i < n → s i < n) (hG : ∀ i j, i < n → j < n → G (s i) j = B i j)
    (hB : ∀ i j, i < n → j < n → Bz (B i j) D) (hq : Bz q D) (hD : D + D ≤ 1000000) (hes : ∀ e ∈ es, Pers e.1 ∧ Pers e.2) :
    CallG Tryz.prog 41 [.bptr 0 0, .p (.int .i64 (k : Int))] (gwB n G s es q) (.tup []) (gwB n G s es (mxR B n k (n - k) q)) := by
  refine callG_of_vc (wr := wr0) Γok mixed Tryz.func41 (by kernel_rfl) rfl (by kernel_rfl) (le_of_ble rfl) (by simp) ?_
  refine SCut.mk k n rfl rfl hk (Nat.le_refl _) ?_
  refine SZ.mk ((n - k : Nat) : Int) rfl ?_
  refine SLoop.mk Nat (fun d => ([(0, .bptr 0 0), (13, .vec 1 1 (0 + k) (n - k)), (14, .p (.int .i64 ((n - k : Nat) : Int))), (15, .p (.int .i64 (d : Nat)))], gwB n G s es (mxR B n k d q)))
    (fun d => d ≤ n - k) (fun d => n - k - d) 0 [0, 1, 2, 3, 4] (Nat.zero_le _) ⟨rfl, by simp, rfl, rfl, rfl, ⟨rfl, rfl, rfl, rfl, trivial⟩, ⟨rfl, congrArg _ (plc_ren 2 rfl (by decide)), rfl, rfl, rfl, rows_in fun q hq => by simpa [plenAt] using hs q hq, by simp, trivial⟩⟩ ?_
  intro d hd
  have hd : d ≤ n - k := hd
  by_cases hdn : d < n - k
  · refine SCmp.yes (decide_eq_true (by omega)) ?_
    refine SPos.mk d rfl hdn ?_
    refine SIdxA.plc (k + d) (by omega) (by omega) ?_
    refine SZ.mk (n : Int) rfl ?_
    have zr : Bz (mxR B n k d q) D := mxR_bz hq d fun i j h1 h2 h3 => hB i j (by omega) h3
    refine SLoop.mk Nat (fun c => ([(0, .bptr 0 0), (13, .vec 1 1 (0 + k) (n - k)), (14, .p (.int .i64 ((n - k : Nat) : Int))), (15, .p (.int .i64 (d : Nat))), (19, .vec (.r 2 (s (k + d))) 3 0 n), (20, .p (.int .i64 n)), (21, .p (.int .i64 (c : Nat)))], gwB n G s es (mxN (B (k + d)) c (mxR B n k d q))))
      (fun c => c ≤ n) (fun c => n - c) 0 [0, 1, 2, 3, 4] (Nat.zero_le _) ⟨rfl, by simp, rfl, rfl, rfl, ⟨rfl, rfl, rfl, rfl, rfl, rfl, rfl, trivial⟩, ⟨rfl, congrArg _ (plc_ren 2 rfl (by decide)), rfl, rfl, rfl, plr_in (hs _ (show k + d < n by omega)), rows_in fun q hq => by simpa [plenAt] using hs q hq, by simp, trivial⟩⟩ ?_
    intro c hc
    have hc : c ≤ n := hc
    by_cases hcn : c < n
    · refine SCmp.yes (decide_eq_true (by omega)) ?_
      have zc := hB (k + d) c (by omega) hcn
      have zm : Bz (mxN (B (k + d)) c (mxR B n k d q)) D := mxN_bz zr c fun j hj => hB (k + d) j (by omega) (by omega)
      refine SPos.mk c rfl hcn ?_
      refine SRow.plr (hs _ (by omega)) ?_
      refine SIdx.rv (c + 0) (B (k + d) c) rfl (by omega) (hG _ _ (by omega) hcn) ?_
      by_cases hgt : mxN (B (k + d)) c (mxR B n k d q) < (B (k + d) c).abs
      · have e : mxN (B (k + d)) (c + 1) (mxR B n k d q) = (B (k + d) c).abs := if_pos hgt
        refine SDraw.mk (by kernel_rfl) ?_
        repeat refine SOp.mk _ _ (And.intro rfl rfl) rfl ?_
        refine SOp.mk _ _ (SCall.pure (vabs_ok (B (k + d) c) zc (by omega)) (And.intro rfl rfl)) rfl ?_
        repeat refine SOp.mk _ _ (And.intro rfl rfl) rfl ?_
        refine SOp.mk _ _ (SCall.pure (ratcmp_ok _ _ zc.abs.sz zm.sz (by omega)) (And.intro rfl rfl)) rfl ?_
        refine SOp.mk _ _ (SCmp.yes (decide_eq_true (cmpQ_pos.2 hgt)) (And.intro rfl rfl)) rfl ?_
        refine SCall.pure (vabs_ok (B (k + d) c) zc (by omega)) ?_
        refine SWrap.i64z ((c + 1 : Nat) : Int) (by omega) (by omega) ?_
        exact ⟨c + 1, [0, 1, 2, 3, 4], hcn, by show n - (c + 1) < n - c; omega, ⟨rfl, by simp, rfl, rfl, rfl, ⟨rfl, rfl, rfl, rfl, rfl, rfl, rfl, trivial⟩, ⟨by rw [e]; rfl, congrArg _ (plc_ren 2 rfl (by decide)), rfl, rfl, rfl, plr_in (hs _ (show k + d < n by omega)), rows_in fun q hq => by simpa [plenAt] using hs q hq, by simp, trivial⟩⟩⟩
      · have e : mxN (B (k + d)) (c + 1) (mxR B n k d q) = mxN (B (k + d)) c (mxR B n k d q) := if_neg hgt
        refine SDraw.mk (by kernel_rfl) ?_
        repeat refine SOp.mk _ _ (And.intro rfl rfl) rfl ?_
        refine SOp.mk _ _ (SCall.pure (vabs_ok (B (k + d) c) zc (by omega)) (And.intro rfl rfl)) rfl ?_
        repeat refine SOp.mk _ _ (And.intro rfl rfl) rfl ?_
        refine SOp.mk _ _ (SCall.pure (ratcmp_ok _ _ zc.abs.sz zm.sz (by omega)) (And.intro rfl rfl)) rfl ?_
        refine SOp.mk _ _ (SCmp.no (decide_eq_false (mt cmpQ_pos.1 hgt)) (And.intro rfl rfl)) rfl ?_
        refine SWrap.i64z ((c + 1 : Nat) : Int) (by omega) (by omega) ?_
        exact ⟨c + 1, [0, 1, 2, 3, 4], hcn, by show n - (c + 1) < n - c; omega, ⟨rfl, by simp, rfl, rfl, rfl, ⟨rfl, rfl, rfl, rfl, rfl, rfl, rfl, trivial⟩, ⟨by rw [e]; rfl, congrArg _ (plc_ren 2 rfl (by decide)), rfl, rfl, rfl, plr_in (hs _ (show k + d < n by omega)), rows_in fun q hq => by simpa [plenAt] using hs q hq, by simp, trivial⟩⟩⟩
    · refine SCmp.no (decide_eq_false (by omega)) ?_
      obtain rfl : c = n := by omega
      refine SWrap.i64z ((d + 1 : Nat) : Int) (by omega) (by omega) ?_
      exact ⟨d + 1, [0, 1, 2, 3, 4], hdn, by show c - k - (d + 1) < c - k - d; omega, ⟨rfl, by simp, rfl, rfl, rfl, ⟨rfl, rfl, rfl, rfl, trivial⟩, ⟨rfl, congrArg _ (plc_ren 2 rfl (by decide)), rfl, rfl, rfl, rows_in fun q hq => by simpa [plenAt] using hs q hq, by simp, trivial⟩⟩⟩
  · refine SCmp.no (decide_eq_false (by omega)) ?_
    obtain rfl : d = n - k := by omega
    exact SRet.gw rfl hes (.tup rfl fun i c d e => by simp at e)
end Go.Proofs.YtjfcphohgicolaaGreat

namespace Go.Proofs.YtjfcphohgicolaaGreat
open Go
set_option linter.unusedVariables false
set_option linter.unusedSimpArgs false
set_option maxRecDepth 10000
theorem upd_swS {s : Nat → Nat} {p k : Nat} : upd (upd s k (s p)) p (s k) = swS s p k := by
  funext i
  unfold upd swS
  by_cases e : i = p
  · rw [if_pos e, if_pos e]
  · rw [if_neg e, if_neg e]
    by_cases e2 : i = k
    · rw [if_pos e2, if_pos e2]
    · rw [if_neg e2, if_neg e2]
theorem swS_lt {s : Nat → Nat} {n p k : Nat} (hs : ∀ i, i < n → s i < n) (hp : p < n) (hk : k < n) : ∀ i, i < n → swS s p k i < n := fun i hi => hs _ (swp_lt hp hk hi)
theorem SIdx.perm {n : Nat} {s : Nat → Nat} {i : Int} {K : Nat → PV → Prop} (j : Nat) (hi : i = j) (hj : j < n) (hk : K j (.int .i64 ((s j : Nat) : Int))) : SIdx (permP n s) i K := .mk j _ hi (fl_get hj) hk
theorem SLt.perm {n i : Nat} {s : Nat → Nat} {K : Prop} (h : i < n) (hk : K) : SLt i (permP n s).length K := .mk (by simpa using h) hk
theorem SEs.perm {n i k : Nat} {s : Nat → Nat} {K : List PV → Prop} (hk : K (permP n (upd s i k))) : SEs ((permP n s).set i (.int .i64 ((k : Nat) : Int))) K := .mk _ permP_set hk
theorem gpick_ok (n k : Nat) (G B : Nat → Nat → Rat) (s : Nat → Nat) (es : List (PV × PV)) (q : Rat) (b : Bool) {D : Nat} (hk : k < n) (hn : n ≤ 1000) (hs : ∀ i, i < n → s i < n) (hG : ∀ i j, i < n → j < n → G (s i) j = B i j)
    (hB : ∀ i j, i < n → j < n → Bz (B i j) D) (hD : D + D ≤ 1000000) (hes : ∀ e ∈ es, Pers e.1 ∧ Pers e.2) (hb : b = decide (B (pvt B n k) k ≠ 0)) :
    CallG Tryz.prog 42 [.bptr 0 0, .p (.int .i64 (k : Int))] (gwB n G s es q) (.p (.bool b)) (gwB n G (swS s (pvt B n k) k) es q) := by
  obtain ⟨p1, p2, _⟩ := pvt_spec (B := B) hk
  refine callG_of_vc (wr := wr0) Γok mixed Tryz.func42 (by kernel_rfl) rfl (by kernel_rfl) (le_of_ble rfl) (by simp) ?_
  refine SWrap.i64z ((k + 1 + 0 : Nat) : Int) (by omega) (by omega) ?_
  refine SLoop.mk Nat (fun d => ([(0, .bptr 0 0), (1, .p (.int .i64 k)), (5, .p (.int .i64 (patG B k d : Nat))), (6, .p (.int .i64 ((k + 1 + d : Nat) : Int)))], gwB n G s es q))
    (fun d => k + 1 + d ≤ n) (fun d => n - d) 0 [0, 1, 2, 3, 4] (by show k + 1 + 0 ≤ n; omega) ⟨rfl, by simp, rfl, rfl, rfl, ⟨rfl, rfl, rfl, rfl, trivial⟩, ⟨rfl, congrArg _ (plc_ren 2 rfl (by decide)), rfl, rfl, rfl, rows_in fun q hq => by simpa [plenAt] using hs q hq, by simp, trivial⟩⟩ ?_
  intro d hd
  have hd : k + 1 + d ≤ n := hd
  obtain ⟨a1, a2, _⟩ := patG_spec (B := B) (k := k) d
  refine SZ.mk (n : Int) rfl ?_
  by_cases hdn : k + 1 + d < n
  · refine SCmp.yes (decide_eq_true (by omega)) ?_
    have z1 := hB (k + 1 + d) k hdn hk
    have z2 := hB (patG B k d) k (by omega) hk
    by_cases hgt : (B (patG B k d) k).abs < (B (k + 1 + d) k).abs
    · have e : patG B k (d + 1) = k + 1 + d := if_pos hgt
      refine SDraw.mk (by kernel_rfl) ?_
      repeat refine SOp.mk _ _ (And.intro rfl rfl) rfl ?_
      refine SOp.mk _ _ (SPos.mk (k + 1 + d) rfl hdn (And.intro rfl rfl)) rfl ?_
      refine SOp.mk _ _ (SIdxA.plc (k + 1 + d + 0) rfl (by omega) (And.intro rfl rfl)) rfl ?_
      repeat refine SOp.mk _ _ (And.intro rfl rfl) rfl ?_
      refine SOp.mk _ _ (SPos.mk k rfl hk (And.intro rfl rfl)) rfl ?_
      refine SOp.mk _ _ (SRow.plr (hs _ (by omega)) <| SIdx.rv (k + 0) (B (k + 1 + d) k) rfl (by omega) (hG _ _ (by omega) hk) (And.intro rfl rfl)) rfl ?_
      refine SOp.mk _ _ (SCall.pure (vabs_ok _ z1 (by omega)) (And.intro rfl rfl)) rfl ?_
      repeat refine SOp.mk _ _ (And.intro rfl rfl) rfl ?_
      refine SOp.mk _ _ (SPos.mk (patG B k d) rfl (by omega) (And.intro rfl rfl)) rfl ?_
      refine SOp.mk _ _ (SIdxA.plc (patG B k d + 0) rfl (by omega) (And.intro rfl rfl)) rfl ?_
      repeat refine SOp.mk _ _ (And.intro rfl rfl) rfl ?_
      refine SOp.mk _ _ (SPos.mk k rfl hk (And.intro rfl rfl)) rfl ?_
      refine SOp.mk _ _ (SRow.plr (hs _ (by omega)) <| SIdx.rv (k + 0) (B (patG B k d) k) rfl (by omega) (hG _ _ (by omega) hk) (And.intro rfl rfl)) rfl ?_
      refine SOp.mk _ _ (SCall.pure (vabs_ok _ z2 (by omega)) (And.intro rfl rfl)) rfl ?_
      refine SOp.mk _ _ (SCall.pure (ratcmp_ok _ _ z1.abs.sz z2.abs.sz (by omega)) (And.intro rfl rfl)) rfl ?_
      refine SOp.mk _ _ (SCmp.yes (decide_eq_true (cmpQ_pos.2 hgt)) (And.intro rfl rfl)) rfl ?_
      refine SWrap.i64z ((k + 1 + (d + 1) : Nat) : Int) (by omega) (by omega) ?_
      exact ⟨d + 1, [0, 1, 2, 3, 4], by show k + 1 + (d + 1) ≤ n; omega, by show n - (d + 1) < n - d; omega, ⟨rfl, by simp, rfl, rfl, rfl, ⟨rfl, rfl, congrArg (fun x : Nat => AV.p (.int .i64 (x : Int))) e, rfl, trivial⟩, ⟨rfl, congrArg _ (plc_ren 2 rfl (by decide)), rfl, rfl, rfl, rows_in fun q hq => by simpa [plenAt] using hs q hq, by simp, trivial⟩⟩⟩
    · have e : patG B k (d + 1) = patG B k d := if_neg hgt
      refine SDraw.mk (by kernel_rfl) ?_
      repeat refine SOp.mk _ _ (And.intro rfl rfl) rfl ?_
      refine SOp.mk _ _ (SPos.mk (k + 1 + d) rfl hdn (And.intro rfl rfl)) rfl ?_
      refine SOp.mk _ _ (SIdxA.plc (k + 1 + d + 0) rfl (by omega) (And.intro rfl rfl)) rfl ?_
      repeat refine SOp.mk _ _ (And.intro rfl rfl) rfl ?_
      refine SOp.mk _ _ (SPos.mk k rfl hk (And.intro rfl rfl)) rfl ?_
      refine SOp.mk _ _ (SRow.plr (hs _ (by omega)) <| SIdx.rv (k + 0) (B (k + 1 + d) k) rfl (by omega) (hG _ _ (by omega) hk) (And.intro rfl rfl)) rfl ?_
      refine SOp.mk _ _ (SCall.pure (vabs_ok _ z1 (by omega)) (And.intro rfl rfl)) rfl ?_
      repeat refine SOp.mk _ _ (And.intro rfl rfl) rfl ?_
      refine SOp.mk _ _ (SPos.mk (patG B k d) rfl (by omega) (And.intro rfl rfl)) rfl ?_
      refine SOp.mk _ _ (SIdxA.plc (patG B k d + 0) rfl (by omega) (And.intro rfl rfl)) rfl ?_
      repeat refine SOp.mk _ _ (And.intro rfl rfl) rfl ?_
      refine SOp.mk _ _ (SPos.mk k rfl hk (And.intro rfl rfl)) rfl ?_
      refine SOp.mk _ _ (SRow.plr (hs _ (by omega)) <| SIdx.rv (k + 0) (B (patG B k d) k) rfl (by omega) (hG _ _ (by omega) hk) (And.intro rfl rfl)) rfl ?_
      refine SOp.mk _ _ (SCall.pure (vabs_ok _ z2 (by omega)) (And.intro rfl rfl)) rfl ?_
      refine SOp.mk _ _ (SCall.pure (ratcmp_ok _ _ z1.abs.sz z2.abs.sz (by omega)) (And.intro rfl rfl)) rfl ?_
      refine SOp.mk _ _ (SCmp.no (decide_eq_false (mt cmpQ_pos.1 hgt)) (And.intro rfl rfl)) rfl ?_
      refine SWrap.i64z ((k + 1 + (d + 1) : Nat) : Int) (by omega) (by omega) ?_
      exact ⟨d + 1, [0, 1, 2, 3, 4], by show k + 1 + (d + 1) ≤ n; omega, by show n - (d + 1) < n - d; omega, ⟨rfl, by simp, rfl, rfl, rfl, ⟨rfl, rfl, congrArg (fun x : Nat => AV.p (.int .i64 (x : Int))) e, rfl, trivial⟩, ⟨rfl, congrArg _ (plc_ren 2 rfl (by decide)), rfl, rfl, rfl, rows_in fun q hq => by simpa [plenAt] using hs q hq, by simp, trivial⟩⟩⟩
  · refine SCmp.no (decide_eq_false (by omega)) ?_
    have e : patG B k d = pvt B n k := by unfold pvt; rw [show n - 1 - k = d by omega]
    rw [e]
    generalize hp : pvt B n k = p at p1 p2 hb ⊢
    have hs' := swS_lt hs p2 hk
    refine SDraw.mkX (by kernel_rfl) ?_
    repeat refine SOp.mk _ _ (And.intro rfl rfl) rfl ?_
    refine SOp.mk _ _ (SPos.mk p rfl p2 (And.intro rfl rfl)) rfl ?_
    refine SOp.mk _ _ (SIdxA.plc (p + 0) rfl p2 (And.intro rfl rfl)) rfl ?_
    repeat refine SOp.mk _ _ (And.intro rfl rfl) rfl ?_
    refine SOp.mk _ _ (SPos.mk k rfl hk (And.intro rfl rfl)) rfl ?_
    refine SOp.mk _ _ (SIdxA.plc (k + 0) rfl hk (And.intro rfl rfl)) rfl ?_
    refine SOp.mk _ _ (SPos.mk k rfl hk (And.intro rfl rfl)) rfl ?_
    refine SOp.mk _ _ (SLt.plc hk <| SAs.plc (And.intro rfl rfl)) rfl ?_
    refine SOp.mk _ _ (SPos.mk p rfl p2 (And.intro rfl rfl)) rfl ?_
    refine SOp.mk _ _ (SLt.plc p2 <| SAs.plc (And.intro rfl rfl)) rfl ?_
    refine SFin.mk (by kernel_rfl) ?_
    refine SDraw.mkX (by kernel_rfl) ?_
    repeat refine SOp.mk _ _ (And.intro rfl rfl) rfl ?_
    refine SOp.mk _ _ (SPos.mk p rfl p2 (And.intro rfl rfl)) rfl ?_
    refine SOp.mk _ _ (SIdx.perm p rfl p2 (And.intro rfl rfl)) rfl ?_
    repeat refine SOp.mk _ _ (And.intro rfl rfl) rfl ?_
    refine SOp.mk _ _ (SPos.mk k rfl hk (And.intro rfl rfl)) rfl ?_
    refine SOp.mk _ _ (SIdx.perm k rfl hk (And.intro rfl rfl)) rfl ?_
    refine SOp.mk _ _ (SPos.mk k rfl hk (And.intro rfl rfl)) rfl ?_
    refine SOp.mk _ _ (SLt.perm hk <| SEs.perm (And.intro rfl rfl)) rfl ?_
    refine SOp.mk _ _ (SPos.mk p rfl p2 (And.intro rfl rfl)) rfl ?_
    refine SOp.mk _ _ (SLt.perm p2 <| SEs.perm (And.intro rfl rfl)) rfl ?_
    refine SFin.mk (by kernel_rfl) ?_
    refine SPos.mk k rfl hk ?_
    refine SIdxA.plc (k + 0) rfl hk ?_
    refine SPos.mk k rfl hk ?_
    have eg : G (upd (upd s k (s p)) p (s k) k) k = B p k := by
      rw [upd_swS]
      show G (s (if k = p then k else if k = k then p else k)) k = _
      by_cases c : k = p
      · rw [if_pos c, hG k k hk hk, c]
      · rw [if_neg c, if_pos rfl, hG p k p2 hk]
    have el : upd (upd s k (s p)) p (s k) k < n := by rw [upd_swS]; exact hs' k hk
    refine SRow.plr el ?_
    refine SIdx.rv (k + 0) (B p k) rfl hk eg ?_
    refine SZ.mk (nlen (B p k).num.natAbs : Int) (by simp) ?_
    by_cases hz : B p k = 0
    · refine SCmp.no (decide_eq_false (by rw [nlen0 hz]; decide)) ?_
      have hb : b = false := by rw [hb]; exact decide_eq_false (fun h => h hz)
      subst hb
      rw [← upd_swS]
      exact SRet.gw rfl hes (.tf _)
    · refine SCmp.yes (decide_eq_true (by have := nlen1 hz; omega)) ?_
      have hb : b = true := by rw [hb]; exact decide_eq_true hz
      subst hb
      rw [← upd_swS]
      exact SRet.gw rfl hes (.tf _)
end Go.Proofs.YtjfcphohgicolaaGreat

namespace Go.Proofs.YtjfcphohgicolaaGreat
open Go
set_option linter.unusedVariables false
set_option linter.unusedSimpArgs false
set_option maxRecDepth 10000
abbrev gtE (s : Nat → Nat) (P : Nat → Nat → Rat) (k d : Nat) : PV × PV := (pairP (s (k + 1 + d)) k, ratP (P (k + 1 + d) k / P k k))
/-- Entries by rows and columns, of columns ahead of one. -/
def KeyB (es : List (PV × PV)) (k : Nat) : Prop := ∀ e ∈ es, ∃ r j v, e = (pairP r j, ratP v) ∧ j < k
theorem KeyB.pers {es : List (PV × PV)} {k : Nat} (h : KeyB es k) : ∀ e ∈ es, Pers e.1 ∧ Pers e.2 := fun e he => by
  obtain ⟨r, j, v, rfl, _⟩ := h e he
  exact ⟨pers_pair _ _, pers_rat _ _ _⟩
theorem KeyB.app {es : List (PV × PV)} {k d : Nat} {s : Nat → Nat} {P : Nat → Nat → Rat} (h : KeyB es k) : KeyB (es ++ fl d (gtE s P k)) (k + 1) := fun e he => by
  rcases List.mem_append.1 he with he | he
  · obtain ⟨r, j, v, e, hj⟩ := h e he
    exact ⟨r, j, v, e, by omega⟩
  · obtain ⟨d, _, rfl⟩ := fl_mem he
    exact ⟨_, _, _, rfl, by omega⟩
theorem SKeys.kb {b : PV → Bool} {es : List (PV × PV)} {k : Nat} {K : Prop} (h : KeyB es k) (hb : ∀ i k : Nat, b (pairP i k) = true) (hK : K) : SKeys b es K :=
  .mk (fun e he => by obtain ⟨r, j, v, rfl, _⟩ := h e he; exact hb _ _) hK
theorem SPut.kb {es : List (PV × PV)} {n k d i : Nat} {s : Nat → Nat} {P : Nat → Nat → Rat} {v : PV} {K : List (PV × PV) → Prop} (h : KeyB es k) (inj : ∀ i j, i < n → j < n → s i = s j → i = j) (hi : i = k + 1 + d) (hd : i < n) (hv : v = ratP (P i k / P k k))
    (hK : K (es ++ fl (d + 1) (gtE s P k))) : SPut (es ++ fl d (gtE s P k)) (pairP (s i) k) v K := by
  subst hv; subst hi
  refine .new _ (fun e he => ?_) (by rw [List.append_assoc, fl_snoc]) hK
  rcases List.mem_append.1 he with he | he
  · obtain ⟨r, j, v, rfl, hj⟩ := h e he
    rw [keq_pair]; exact decide_eq_false fun h => by omega
  · obtain ⟨d', hd', rfl⟩ := fl_mem he
    rw [keq_pair]; exact decide_eq_false fun ⟨h, _⟩ => by have := inj _ _ hd (by omega) h; omega
set_option maxHeartbeats 1000000 in
theorem gclean_ok (n k : Nat) (G P : Nat → Nat → Rat) (s si : Nat → Nat) (es : List (PV × PV)) (q : Rat) {D : Nat} (hk : k < n) (hn : n ≤ 1000) (hs : ∀ i, i < n → s i < n) (inj : ∀ i j, i < n → j < n → s i = s j → i = j)
    (hsi : ∀ r, r < n → si r < n ∧ s (si r) = r) (hG : ∀ i j, i < n → j < n → G (s i) j = P i j) (hP : ∀ i j, i < n → j < n → Bz (P i j) D) (hD : 4 * D + 1 ≤ 1000000) (hp : P k k ≠ 0) (hes : KeyB es k) :
    CallG Tryz.prog 43 [.bptr 0 0, .p (.int .i64 (k : Int))] (gwB n G s es q) (.tup []) (gwB n (fun r j => redA P k (si r) j) s (es ++ fl (n - 1 - k) (gtE s P k)) q) := by
  refine callG_of_vc (wr := wr0) Γok mixed Tryz.func43 (by kernel_rfl) rfl (by kernel_rfl) (le_of_ble rfl) (by simp) ?_
  refine SWrap.i64z ((k + 1 : Nat) : Int) (by omega) (by omega) ?_
  refine SLoop.mk (Nat × Nat × (Nat → Nat → Rat)) (fun (i, d, G) => ([(0, .bptr 0 0), (1, .p (.int .i64 k)), (4, .p (.int .i64 (i : Nat)))], gwB n G s (es ++ fl d (gtE s P k)) q))
    (fun (i, d, G) => i = k + 1 + d ∧ i ≤ n ∧ ∀ t c, t < n → c < n → G (s t) c = if t < i then redA P k t c else P t c) (fun x => n - x.1) (k + 1, 0, G) [0, 1, 2, 3, 4]
    ⟨rfl, by omega, fun t c ht hc => by
      rw [hG t c ht hc]
      split
      · unfold redA; rw [if_neg (by omega)]
      · rfl⟩ ⟨rfl, by simp, rfl, rfl, rfl, ⟨rfl, rfl, rfl, trivial⟩, ⟨rfl, congrArg _ (plc_ren 2 rfl (by decide)), rfl, rfl, congrArg Blk.map (List.append_nil _), rows_in fun q hq => by simpa [plenAt] using hs q hq, by simp, trivial⟩⟩ ?_
  intro ⟨i, d, G1⟩ ⟨hi, hd, hG1⟩
  refine SZ.mk (n : Int) rfl ?_
  by_cases hin : i < n
  · refine SCmp.yes (decide_eq_true (by omega)) ?_
    have gi : ∀ c, c < n → G1 (s i) c = P i c := fun c hc => by rw [hG1 i c (by omega) hc, if_neg (by omega)]
    have gk : ∀ c, c < n → G1 (s k) c = P k c := fun c hc => by rw [hG1 k c hk hc, if_pos (by omega)]; unfold redA; rw [if_neg (Nat.lt_irrefl k)]
    have z1 := hP i k hin hk
    have z2 := hP k k hk hk
    have zq := z1.div z2
    have hq := quo_ok (P i k) (P k k) hp z1.sz z2.sz (by omega)
    obtain ⟨Q, hQ⟩ : ∃ Q, Q = P i k / P k k := ⟨_, rfl⟩
    rw [← hQ] at zq hq
    refine SDraw.mkX (by kernel_rfl) ?_
    repeat refine SOp.mk _ _ (And.intro rfl rfl) rfl ?_
    refine SOp.mk _ _ (SPos.mk i rfl hin (And.intro rfl rfl)) rfl ?_
    refine SOp.mk _ _ (SIdxA.plc (i + 0) rfl hin (And.intro rfl rfl)) rfl ?_
    repeat refine SOp.mk _ _ (And.intro rfl rfl) rfl ?_
    refine SOp.mk _ _ (SPos.mk k rfl hk (And.intro rfl rfl)) rfl ?_
    refine SOp.mk _ _ (SRow.plr (hs _ hin) <| SIdx.rv (k + 0) (P i k) rfl hk (gi k hk) (And.intro rfl rfl)) rfl ?_
    repeat refine SOp.mk _ _ (And.intro rfl rfl) rfl ?_
    refine SOp.mk _ _ (SPos.mk k rfl hk (And.intro rfl rfl)) rfl ?_
    refine SOp.mk _ _ (SIdxA.plc (k + 0) rfl hk (And.intro rfl rfl)) rfl ?_
    repeat refine SOp.mk _ _ (And.intro rfl rfl) rfl ?_
    refine SOp.mk _ _ (SPos.mk k rfl hk (And.intro rfl rfl)) rfl ?_
    refine SOp.mk _ _ (SRow.plr (hs _ hk) <| SIdx.rv (k + 0) (P k k) rfl hk (gk k hk) (And.intro rfl rfl)) rfl ?_
    refine SOp.mk _ _ (SCall.pureT (hq) (fun _ => rfl) (And.intro rfl rfl)) rfl ?_
    repeat refine SOp.mk _ _ (And.intro rfl rfl) rfl ?_
    refine SFin.mk (by kernel_rfl) ?_
    refine SDraw.mkX (by kernel_rfl) ?_
    repeat refine SOp.mk _ _ (And.intro rfl rfl) rfl ?_
    refine SOp.mk _ _ (SPos.mk i rfl hin (And.intro rfl rfl)) rfl ?_
    refine SOp.mk _ _ (SIdx.perm (i + 0) rfl hin (And.intro rfl rfl)) rfl ?_
    repeat refine SOp.mk _ _ (And.intro rfl rfl) rfl ?_
    refine SOp.mk _ _ (SKeys.kb hes.app (fun _ _ => rfl) <| SPut.kb (P := P) hes inj hi hin (congrArg ratP hQ) (And.intro rfl rfl)) rfl ?_
    refine SFin.mk (by kernel_rfl) ?_
    refine SPos.mk i rfl hin ?_
    refine SIdxA.plc (i + 0) rfl hin ?_
    refine SZ.mk (n : Int) rfl ?_
    refine SLoop.mk (Nat × (Nat → Nat → Rat)) (fun (c, G) => ([(0, .bptr 0 0), (1, .p (.int .i64 k)), (4, .p (.int .i64 (i : Nat))), (5, .bptr 5 0), (64, .p (.int .i64 n)), (65, .p (.int .i64 (c : Nat)))], gwB n G s (es ++ fl (d + 1) (gtE s P k)) q ++ [.box 31 (bxQ Q)]))
      (fun (c, G) => c ≤ n ∧ ∀ t x, t < n → x < n → G (s t) x = if t = i then (if x < c then redA P k i x else P i x) else G1 (s t) x) (fun x => n - x.1) (0, G1) [0, 1, 2, 3, 4, 5]
      ⟨Nat.zero_le _, fun t x ht hx => by
        by_cases e : t = i
        · rw [if_pos e, if_neg (Nat.not_lt_zero _), e]; exact gi x hx
        · rw [if_neg e]⟩ ⟨rfl, by simp, rfl, rfl, rfl, ⟨rfl, rfl, rfl, rfl, rfl, rfl, trivial⟩, ⟨rfl, congrArg _ (plc_ren 2 rfl (by decide)), rfl, rfl, rfl, rfl, rows_in fun q hq => by simpa [plenAt] using hs q hq, by simp, trivial⟩⟩ ?_
    intro ⟨c, G2⟩ ⟨hc, hG2⟩
    by_cases hcn : c < n
    · refine SCmp.yes (decide_eq_true (by omega)) ?_
      have di : G2 (s i) c = P i c := by rw [hG2 i c hin hcn, if_pos rfl, if_neg (Nat.lt_irrefl c)]
      have dk : G2 (s k) c = P k c := by rw [hG2 k c hk hcn, if_neg (by omega)]; exact gk c hcn
      have z3 := hP i c hin hcn
      have z4 := hP k c hk hcn
      refine SDraw.mkX (by kernel_rfl) ?_
      repeat refine SOp.mk _ _ (And.intro rfl rfl) rfl ?_
      refine SOp.mk _ _ (SPos.mk i rfl hin (And.intro rfl rfl)) rfl ?_
      refine SOp.mk _ _ (SIdxA.plc (i + 0) rfl hin (And.intro rfl rfl)) rfl ?_
      repeat refine SOp.mk _ _ (And.intro rfl rfl) rfl ?_
      refine SOp.mk _ _ (SPos.mk i rfl hin (And.intro rfl rfl)) rfl ?_
      refine SOp.mk _ _ (SIdxA.plc (i + 0) rfl hin (And.intro rfl rfl)) rfl ?_
      repeat refine SOp.mk _ _ (And.intro rfl rfl) rfl ?_
      refine SOp.mk _ _ (SPos.mk c rfl hcn (And.intro rfl rfl)) rfl ?_
      refine SOp.mk _ _ (SRow.plr (hs _ hin) <| SIdx.rv (c + 0) (P i c) rfl hcn di (And.intro rfl rfl)) rfl ?_
      repeat refine SOp.mk _ _ (And.intro rfl rfl) rfl ?_
      refine SOp.mk _ _ (SPos.mk k rfl hk (And.intro rfl rfl)) rfl ?_
      refine SOp.mk _ _ (SIdxA.plc (k + 0) rfl hk (And.intro rfl rfl)) rfl ?_
      repeat refine SOp.mk _ _ (And.intro rfl rfl) rfl ?_
      refine SOp.mk _ _ (SPos.mk c rfl hcn (And.intro rfl rfl)) rfl ?_
      refine SOp.mk _ _ (SRow.plr (hs _ hk) <| SIdx.rv (c + 0) (P k c) rfl hcn dk (And.intro rfl rfl)) rfl ?_
      refine SOp.mk _ _ (SCall.pure (ratmul_ok Q (P k c) zq.sz z4.sz (by omega)) (And.intro rfl rfl)) rfl ?_
      refine SOp.mk _ _ (SCall.pure (ratsub_ok (P i c) (Q * P k c) z3.sz (zq.mul z4).sz (by omega)) (And.intro rfl rfl)) rfl ?_
      refine SOp.mk _ _ (SPos.mk c rfl hcn (And.intro rfl rfl)) rfl ?_
      refine SOp.mk _ _ (SRow.plr (hs _ hin) <| SLt.rf (show c + 0 < n by omega) <| SEs.rf (And.intro rfl rfl)) rfl ?_
      refine SPool.plr (hs _ hin) ?_
      refine SFin.mk (by kernel_rfl) ?_
      refine SWrap.i64z ((c + 1 : Nat) : Int) (by omega) (by omega) ?_
      refine ⟨(c + 1, _), [0, 1, 2, 3, 4, 5], ⟨hcn, ?_⟩, by show n - (c + 1) < n - c; omega, ⟨rfl, by simp, rfl, rfl, rfl, ⟨rfl, rfl, rfl, rfl, rfl, rfl, trivial⟩, ⟨rfl, congrArg _ (plc_ren 2 rfl (by decide)), rfl, rfl, rfl, rfl, rows_in fun q hq => by simpa [plenAt] using hs q hq, by simp, trivial⟩⟩⟩
      exact upd2_step inj hin hcn hG2 (by rw [hQ]; exact (if_pos (by omega)).symm)
    · refine SCmp.no (decide_eq_false (by omega)) ?_
      obtain rfl : c = n := by omega
      refine SWrap.i64z ((i + 1 : Nat) : Int) (by omega) (by omega) ?_
      refine ⟨(i + 1, d + 1, G2), [0, 1, 2, 3, 4], ⟨by omega, hin, fun t x ht hx => ?_⟩, by show c - (i + 1) < c - i; omega, ⟨rfl, by simp, rfl, rfl, rfl, ⟨rfl, rfl, rfl, trivial⟩, ⟨rfl, congrArg _ (plc_ren 2 rfl (by decide)), rfl, rfl, rfl, rows_in fun q hq => by simpa [plenAt] using hs q hq, by simp, trivial⟩⟩⟩
      rw [hG2 t x ht hx]
      by_cases e : t = i
      · rw [if_pos e, if_pos hx, if_pos (by omega), e]
      · rw [if_neg e, hG1 t x ht hx]
        by_cases e2 : t < i
        · rw [if_pos e2, if_pos (by omega)]
        · rw [if_neg e2, if_neg (by omega)]
  · refine SCmp.no (decide_eq_false (by omega)) ?_
    obtain rfl : d = n - 1 - k := by omega
    have e : plr n n G1 = plr n n fun r j => redA P k (si r) j := plr_congr fun r j hr hj => by
      obtain ⟨h1, h2⟩ := hsi r hr
      have := hG1 (si r) j h1 hj
      rw [h2, if_pos (by omega)] at this
      exact this
    exact SRet.gw (congrArg (fun x => [Blk.box 74 (gwA n q), .rows 24 (plc 2 n n s), .pool 31 3 x, .vec 3 1 (permP n s), .map (es ++ fl (n - 1 - k) (gtE s P k))]) e) hes.app.pers (.tup rfl fun i c d e => by simp at e)
end Go.Proofs.YtjfcphohgicolaaGreat

namespace Go.Proofs.YtjfcphohgicolaaGreat
open Go
set_option linter.unusedVariables false
set_option linter.unusedSimpArgs false
set_option maxRecDepth 10000
theorem kbelow_ok (i j : Nat) : CallP Tryz.prog 80 [pairP i j] (.p (.bool (decide (j < i)))) [] := by
  by_cases c : j < i
  · rw [decide_eq_true c]
    refine callG_of_vc (wr := wr0) Γok mixed Tryz.func80 (by kernel_rfl) rfl (by kernel_rfl) (le_of_ble rfl) (by simp) ?_
    refine SZ.mk (i : Int) (by show (if (j : Int) > i then (j : Int) else i) = i; split <;> omega) ?_
    have h1 : ((i : Int) == (i : Int)) = true := eqT rfl
    have h2 : ((j : Int) == (i : Int)) = false := eqF (by omega)
    refine SCmp.yes (by rw [h1, h2]; rfl) ?_
    refine SCmp.yes (decide_eq_true (by omega)) ?_
    exact SRet.pure (.tf _)
  · rw [decide_eq_false c]
    refine callG_of_vc (wr := wr0) Γok mixed Tryz.func80 (by kernel_rfl) rfl (by kernel_rfl) (le_of_ble rfl) (by simp) ?_
    refine SZ.mk (j : Int) (by show (if (j : Int) > i then (j : Int) else i) = j; split <;> omega) ?_
    have h1 : ((i : Int) == (i : Int)) = true := eqT rfl
    have h2 : ((j : Int) == (j : Int)) = true := eqT rfl
    refine SCmp.no (by rw [h1, h2]; rfl) ?_
    exact SRet.pure (.tf _)
def gtk (n : Nat) (A : Nat → Nat → Rat) : Nat → List (PV × PV)
  | 0 => []
  | k + 1 => gtk n A k ++ fl (n - 1 - k) (gtE (gk n A (k + 1)).s (gkP n A k) k)
theorem gtk_key {n : Nat} {A : Nat → Nat → Rat} : ∀ k, KeyB (gtk n A k) k := by
  intro k
  induction k with
  | zero => intro e he; simp [gtk] at he
  | succ k ih => exact ih.app
theorem gtk_get {n : Nat} {A : Nat → Nat → Rat} : ∀ k, k ≤ n → ∀ i j, i < n → j < i → j < k → ∃ a : Nat, (gtk n A k)[a]? = some (pairP ((gk n A k).s i) j, ratP ((gk n A k).M i j)) ∧
    ∀ (b : Nat) e', b ≠ a → (gtk n A k)[b]? = some e' → PV.keq (pairP ((gk n A k).s i) j) e'.1 = false := by
  intro k
  induction k with
  | zero => intro _ i j _ _ h; exact absurd h (Nat.not_lt_zero _)
  | succ k ih =>
    intro hk i j hi hji hjk
    obtain ⟨p1, p2, _⟩ := pvt_spec (B := (gk n A k).B) (n := n) (k := k) (by omega)
    obtain ⟨_, inj, _⟩ := gk_perm (n := n) (A := A) (k + 1) hk
    have news : ∀ (b : Nat) e', (fl (n - 1 - k) (gtE (gk n A (k + 1)).s (gkP n A k) k))[b]? = some e' → ∃ d, d = b ∧ k + 1 + d < n ∧ e' = gtE (gk n A (k + 1)).s (gkP n A k) k d := fun b e' he => by
      obtain ⟨hb, rfl⟩ := fl_get_iff.1 he
      exact ⟨b, rfl, by omega, rfl⟩
    simp only [gtk]
    by_cases e : j = k
    · subst e
      have eM : (gk n A (j + 1)).M i j = gkP n A j i j / gkP n A j j j := by rw [gk_succ]; show mulS _ _ j i j = _; unfold mulS; rw [if_pos rfl, if_pos hji]
      refine ⟨(gtk n A j).length + (i - (j + 1)), ?_, fun b e' hb he => ?_⟩
      · rw [List.getElem?_append_right (by omega), show (gtk n A j).length + (i - (j + 1)) - (gtk n A j).length = i - (j + 1) by omega, fl_get (by omega), eM]
        simp only [gtE]
        rw [show j + 1 + (i - (j + 1)) = i by omega]
      · by_cases hl : b < (gtk n A j).length
        · rw [List.getElem?_append_left hl] at he
          obtain ⟨r, j', v, rfl, hj'⟩ := gtk_key j e' (List.mem_of_getElem? he)
          rw [keq_pair]; exact decide_eq_false fun h => by omega
        · rw [List.getElem?_append_right (by omega)] at he
          obtain ⟨d, hd, hdn, rfl⟩ := news _ _ he
          rw [keq_pair]
          exact decide_eq_false fun ⟨h, _⟩ => by have := inj _ _ hi hdn h; omega
    · have hi' := swp_lt p2 (show k < n by omega) hi
      have hji' : j < (if i = pvt (gk n A k).B n k then k else if i = k then pvt (gk n A k).B n k else i) := by
        by_cases c : i < k
        · rw [swp_low p1 c]; exact hji
        · have := swp_ge' p1 (show k ≤ i by omega); omega
      obtain ⟨a, h1, h2⟩ := ih (by omega) _ j hi' hji' (by omega)
      have eS : (gk n A (k + 1)).s i = (gk n A k).s (if i = pvt (gk n A k).B n k then k else if i = k then pvt (gk n A k).B n k else i) := by rw [gk_succ]; rfl
      have eM : (gk n A (k + 1)).M i j = (gk n A k).M (if i = pvt (gk n A k).B n k then k else if i = k then pvt (gk n A k).B n k else i) j := by rw [gk_succ]; exact if_neg e
      have hl := (List.getElem?_eq_some_iff.1 h1).1
      refine ⟨a, by rw [List.getElem?_append_left hl, eS, eM]; exact h1, fun b e' hb he => ?_⟩
      by_cases hl : b < (gtk n A k).length
      · rw [List.getElem?_append_left hl] at he; rw [eS]; exact h2 b e' hb he
      · rw [List.getElem?_append_right (by omega)] at he
        obtain ⟨d, hd, hdn, rfl⟩ := news _ _ he
        rw [keq_pair]; exact decide_eq_false fun h => by omega
/-- What is worked on, lent. -/
abbrev gkPtr (n : Nat) (rows : List PV) (s : Nat → Nat) (es : List (PV × PV)) (q : Rat) : PV := .pel true (.agg [.sl true 1 rows, .sl true 1 (permP n s), .mp true es, .bool (decide (q.num < 0)), natP q.num.natAbs, natP q.den])
theorem glower_ok (n : Nat) (A : Nat → Nat → Rat) (rows : List PV) (q : Rat) {D : Nat} (i j : Nat) (hi : i < n) (hj : j < n) (hz : Bz (gL n A i j) D) (hD : D ≤ 1000000) :
    CallP Tryz.prog 45 [gkPtr n rows (gO n A) (gtk n A n) q, pairP i j] (.p (ratP (gL n A i j))) [] := by
  by_cases e : i = j
  · subst e
    rw [gL_diag hi]
    refine callG_of_vc (wr := wr0) Γok mixed Tryz.func45 (by kernel_rfl) rfl (by kernel_rfl) (le_of_ble rfl) (by simp) ?_
    refine SCmp.yes (eqT rfl) ?_
    refine SCall.pure (kone_ok) ?_
    exact SRet.pure (.p _ (pers_rat _ _ _))
  · have hb := kbelow_ok i j
    by_cases c : j < i
    · rw [decide_eq_true c] at hb
      obtain ⟨a, h1, h2⟩ := gtk_get (A := A) n (Nat.le_refl _) i j hi c hj
      refine callG_of_vc (wr := wr0) Γok mixed Tryz.func45 (by kernel_rfl) rfl (by kernel_rfl) (le_of_ble rfl) (by simp) ?_
      refine SCmp.no (eqF (by omega)) ?_
      refine SCall.pure (hb) ?_
      refine SCond.mk (fun _ => ?_) (fun h => by cases h)
      refine SDraw.mkX (by kernel_rfl) ?_
      repeat refine SOp.mk _ _ (And.intro rfl rfl) rfl ?_
      refine SOp.mk _ _ (SIdx.perm i rfl hi (And.intro rfl rfl)) rfl ?_
      repeat refine SOp.mk _ _ (And.intro rfl rfl) rfl ?_
      refine SOp.mk _ _ (SKeys.kb (gtk_key n) (fun _ _ => rfl) <| SGet.yes a _ h1 (by rw [keq_pair]; exact decide_eq_true ⟨rfl, rfl⟩) h2 (And.intro rfl rfl)) rfl ?_
      refine SOp.mk _ _ (SCall.pure (kzero_ok) (And.intro rfl rfl)) rfl ?_
      refine SOp.mk _ _ (SCall.pure (gcopy_ok hz hD) (And.intro rfl rfl)) rfl ?_
      repeat refine SOp.mk _ _ (And.intro rfl rfl) rfl ?_
      refine SFin.mk (by kernel_rfl) ?_
      exact SRet.pure (.p _ (pers_rat _ _ _))
    · rw [decide_eq_false c] at hb
      rw [gL_up hi (by omega)]
      refine callG_of_vc (wr := wr0) Γok mixed Tryz.func45 (by kernel_rfl) rfl (by kernel_rfl) (le_of_ble rfl) (by simp) ?_
      refine SCmp.no (eqF (by omega)) ?_
      refine SCall.pure (hb) ?_
      refine SCond.mk (fun h => by cases h) (fun _ => ?_)
      refine SCall.pure (kzero_ok) ?_
      exact SRet.pure (.p _ (pers_rat _ _ _))
abbrev halv (p c n k q c' : Nat) : List AV := fl n fun i => if i < k then .vec (.r p i) 3 0 c else if i = k then .vec (.t q) 3 0 c' else .emp
theorem half_get {p c n k : Nat} (h : k < n) : (half p c n k)[k]? = some .emp := by rw [fl_get h, if_neg (Nat.lt_irrefl k)]
theorem half_setv {p c n k q c' : Nat} : (half p c n k).set k (.vec (.t q) 3 0 c') = halv p c n k q c' := by
  rw [fl_set]
  refine fl_congr fun i _ => ?_
  unfold upd
  by_cases e : i = k
  · rw [if_pos e, if_neg (by omega), if_pos e]
  · rw [if_neg e]
    show (if i < k then AV.vec (.r p i) 3 0 c else .emp) = _
    by_cases e2 : i < k
    · rw [if_pos e2, if_pos e2]
    · rw [if_neg e2, if_neg e2, if_neg e]
theorem halv_get {p c n k q c' : Nat} (h : k < n) : (halv p c n k q c')[k]? = some (.vec (.t q) 3 0 c') := by rw [fl_get h, if_neg (Nat.lt_irrefl k), if_pos rfl]
theorem halv_set {p c n k q c' q2 c2 : Nat} : (halv p c n k q c').set k (.vec (.t q2) 3 0 c2) = halv p c n k q2 c2 := by
  rw [fl_set]
  refine fl_congr fun i _ => ?_
  unfold upd
  by_cases e : i = k
  · rw [if_pos e, if_neg (by omega), if_pos e]
  · rw [if_neg e]
    show (if i < k then AV.vec (.r p i) 3 0 c else if i = k then AV.vec (.t q) 3 0 c' else .emp) = _
    by_cases e2 : i < k
    · rw [if_pos e2, if_pos e2]
    · rw [if_neg e2, if_neg e2, if_neg e, if_neg e]
theorem halv_ren {hs : List Nat} {P : Hp} {p c n k q c' : Nat} (p' q' : Nat) (hp : hs.getD p 0 = p') (hp' : p' < 1000) (hq : hs.getD q 0 = q') (hq' : q' < 1000) : AV.renL (renW hs P) (halv p c n k q c') = halv p' c n k q' c' := by
  rw [renL_fl]
  refine fl_congr fun i hi => ?_
  have eb : Nat.blt p' 1000 = true := blt_iff.2 hp'
  have ec : Nat.blt q' 1000 = true := blt_iff.2 hq'
  by_cases e : i < k
  · rw [if_pos e, if_pos e]; simp only [AV.ren, renW, hp, eb, cond_true]
  · rw [if_neg e, if_neg e]
    by_cases e2 : i = k
    · rw [if_pos e2, if_pos e2]; simp only [AV.ren, renW, hq, ec, cond_true]; rw [show ptop q' = q' from Nat.mod_eq_of_lt hq']
    · rw [if_neg e2, if_neg e2]; simp only [AV.ren]
theorem half_ren {hs : List Nat} {P : Hp} {p c n k : Nat} (p' : Nat) (hp : hs.getD p 0 = p') (hp' : p' < 1000) : AV.renL (renW hs P) (half p c n k) = half p' c n k := by
  rw [renL_fl]
  refine fl_congr fun i hi => ?_
  have eb : Nat.blt p' 1000 = true := blt_iff.2 hp'
  by_cases e : i < k
  · rw [if_pos e, if_pos e]; simp only [AV.ren, renW, hp, eb, cond_true]
  · rw [if_neg e, if_neg e]; simp only [AV.ren]
theorem halv_in {P : Hp} {p c n k q c' : Nat} (h : ∀ i, i < k → i < plenAt P p) (hq : look P (.t q) ≠ .free) : ∀ x ∈ halv p c n k q c', ∀ h, x.men h → look P h ≠ .free := by
  intro x hx g hg
  obtain ⟨i, hi, rfl⟩ := fl_mem hx
  by_cases e : i < k
  · rw [if_pos e] at hg
    simp only [AV.men] at hg
    subst hg
    exact look_row (h i e)
  · rw [if_neg e] at hg
    by_cases e2 : i = k
    · rw [if_pos e2] at hg
      simp only [AV.men] at hg
      subst hg; exact hq
    · rw [if_neg e2] at hg; exact hg.elim
theorem gown_ok (m m' : Bool) (n : Nat) (A : Nat → Nat → Rat) {D : Nat} (n1 : 1 ≤ n) (hn : n ≤ 1000) (hA : ∀ i j, i < n → j < n → Bz (A i j) D) (hD : D ≤ 1000000) :
    CallP Tryz.prog 44 [matP m m' n n A] (.p (matP false false n n A)) [] := by
  refine callG_of_vc (wr := wr0) Γok mixed Tryz.func44 (by kernel_rfl) rfl (by kernel_rfl) (le_of_ble rfl) (by simp) ?_
  refine SZ.mk (n : Int) (by simp) ?_
  refine SZ.mk (n : Int) rfl ?_
  refine SLt.mk (by simp) ?_
  refine SMake.mk n rfl (by simp; omega) (by omega) ?_
  refine SMk.rows ?_
  refine SZ.mk (n : Int) (by simp) ?_
  refine SLoop.mkT Nat (fun i => ([(0, .p (matP m m' n n A)), (3, .vec 0 1 0 n), (11, .p (.int .i64 n)), (12, .p (.int .i64 (i : Nat)))], [.rows 24 (half 1 n n i), .pool 31 3 (plr i n A)]))
    (fun i => i ≤ n) (fun i => n - i) 0 [0, 1] _ _ (.pool 31 3 (.done _ _)) (Nat.zero_le _) ⟨rfl, by simp, rfl, rfl, rfl, ⟨rfl, rfl, rfl, rfl, trivial⟩, ⟨congrArg _ half_ren0, rfl, half_in fun i hi => absurd hi (Nat.not_lt_zero _), trivial⟩⟩ ?_
  intro i hi
  have hi : i ≤ n := hi
  by_cases hin : i < n
  · refine SCmp.yes (decide_eq_true (by omega)) ?_
    refine SIdx.mf i rfl hin ?_
    refine SZ.mk (n : Int) (by simp [lst]) ?_
    refine SLoop.mk Nat (fun j => match j with
        | 0 => ([(0, .p (matP m m' n n A)), (3, .vec 0 1 0 n), (4, .p (.int .i64 (i : Nat))), (11, .p (.int .i64 n)), (12, .p (.int .i64 (i : Nat))), (18, .p (ratsM m' (lst n (A i)))), (19, .p (.int .i64 n)), (20, .p (.int .i64 0))], [.rows 24 (half 1 n n i), .pool 31 3 (plr i n A)])
        | j + 1 => ([(0, .p (matP m m' n n A)), (3, .vec 0 1 0 n), (4, .p (.int .i64 (i : Nat))), (11, .p (.int .i64 n)), (12, .p (.int .i64 (i : Nat))), (18, .p (ratsM m' (lst n (A i)))), (19, .p (.int .i64 n)), (20, .p (.int .i64 ((j + 1 : Nat) : Int)))], [.rows 24 (halv 1 n n i 2 (j + 1)), .pool 31 3 (plr i n A), .vec 31 3 (rats (lst (j + 1) (A i)))]))
      (fun j => j ≤ n) (fun j => n - j) 0 [0, 1] (Nat.zero_le _) ⟨rfl, by simp, rfl, rfl, rfl, ⟨rfl, rfl, rfl, rfl, rfl, rfl, rfl, rfl, trivial⟩, ⟨congrArg _ (half_ren 1 rfl (by decide)), rfl, half_in fun i hi => by simpa [plenAt] using hi, trivial⟩⟩ ?_
    intro j hj
    match j, hj with
    | 0, hj =>
      refine SCmp.yes (decide_eq_true (by omega)) ?_
      refine SIdx.rf 0 rfl (by omega) ?_
      refine SDraw.mkX (by kernel_rfl) ?_
      repeat refine SOp.mk _ _ (And.intro rfl rfl) rfl ?_
      refine SOp.mk _ _ (SPos.mk i rfl hin (And.intro rfl rfl)) rfl ?_
      refine SOp.mk _ _ (SIdxA.mk (i + 0) _ rfl (half_get hin) (And.intro rfl rfl)) rfl ?_
      repeat refine SOp.mk _ _ (And.intro rfl rfl) rfl ?_
      refine SOp.mk _ _ (SCall.pure (kzero_ok) (And.intro rfl rfl)) rfl ?_
      refine SOp.mk _ _ (SCall.pure (gcopy_ok (hA i 0 hin (by omega)) hD) (And.intro rfl rfl)) rfl ?_
      repeat refine SOp.mk _ _ (And.intro rfl rfl) rfl ?_
      refine SOp.mk _ _ (SView.all rfl <| SRoom.mk (by simp) (by simp) (And.intro rfl rfl)) rfl ?_
      repeat refine SOp.mk _ _ (And.intro rfl rfl) rfl ?_
      refine SOp.mk _ _ (SPos.mk i rfl hin (And.intro rfl rfl)) rfl ?_
      refine SOp.mk _ _ (SLt.mk (by simp; omega) <| SAs.mk (halv 1 n n i 4 1) half_setv (And.intro rfl rfl)) rfl ?_
      repeat refine SOp.mk _ _ (And.intro rfl rfl) rfl ?_
      refine SFin.mk (by kernel_rfl) ?_
      refine SWrap.i64z ((0 + 1 : Nat) : Int) (by omega) (by omega) ?_
      exact ⟨1, [0, 1, 4], n1, by show n - 1 < n - 0; omega, ⟨rfl, by simp, rfl, rfl, rfl, ⟨rfl, rfl, rfl, rfl, rfl, rfl, rfl, rfl, trivial⟩, ⟨congrArg _ (halv_ren 1 4 rfl (by decide) rfl (by decide)), rfl, rfl, halv_in (fun i hi => by simpa [plenAt] using hi) (fun e => by cases e), trivial⟩⟩⟩
    | j + 1, hj =>
      have hj : j + 1 ≤ n := hj
      by_cases hjn : j + 1 < n
      · refine SCmp.yes (decide_eq_true (by omega)) ?_
        refine SIdx.rf (j + 1) rfl hjn ?_
        refine SDraw.mkX (by kernel_rfl) ?_
        repeat refine SOp.mk _ _ (And.intro rfl rfl) rfl ?_
        refine SOp.mk _ _ (SPos.mk i rfl hin (And.intro rfl rfl)) rfl ?_
        refine SOp.mk _ _ (SIdxA.mk (i + 0) _ rfl (halv_get hin) (And.intro rfl rfl)) rfl ?_
        repeat refine SOp.mk _ _ (And.intro rfl rfl) rfl ?_
        refine SOp.mk _ _ (SCall.pure (kzero_ok) (And.intro rfl rfl)) rfl ?_
        refine SOp.mk _ _ (SCall.pure (gcopy_ok (hA i (j + 1) hin hjn) hD) (And.intro rfl rfl)) rfl ?_
        repeat refine SOp.mk _ _ (And.intro rfl rfl) rfl ?_
        refine SOp.mk _ _ (SEqN.mk (by simp [lst]) <| SView.all rfl <| SRoom.mk (by simp [lst]; omega) (by simp [lst]; omega) <| SEs.mk (rats (lst (j + 1 + 1) (A i))) (app_lst _ _ _ (rfl)) <| SZN.mk (j + 1 + 1) (by simp [lst]) (And.intro rfl rfl)) rfl ?_
        repeat refine SOp.mk _ _ (And.intro rfl rfl) rfl ?_
        refine SOp.mk _ _ (SPos.mk i rfl hin (And.intro rfl rfl)) rfl ?_
        refine SOp.mk _ _ (SLt.mk (by simp; omega) <| SAs.mk (halv 1 n n i 5 (j + 1 + 1)) halv_set (And.intro rfl rfl)) rfl ?_
        repeat refine SOp.mk _ _ (And.intro rfl rfl) rfl ?_
        refine SFin.mk (by kernel_rfl) ?_
        refine SWrap.i64z ((j + 1 + 1 : Nat) : Int) (by omega) (by omega) ?_
        exact ⟨j + 1 + 1, [0, 1, 5], hjn, by show n - (j + 1 + 1) < n - (j + 1); omega, ⟨rfl, by simp, rfl, rfl, rfl, ⟨rfl, rfl, rfl, rfl, rfl, rfl, rfl, rfl, trivial⟩, ⟨congrArg _ (halv_ren 1 5 rfl (by decide) rfl (by decide)), rfl, rfl, halv_in (fun i hi => by simpa [plenAt] using hi) (fun e => by cases e), trivial⟩⟩⟩
      · refine SCmp.no (decide_eq_false (by omega)) ?_
        obtain rfl : n = j + 1 := by omega
        refine SWrap.i64z ((i + 1 : Nat) : Int) (by omega) (by omega) ?_
        exact ⟨i + 1, [0, 3001], hin, by show j + 1 - (i + 1) < j + 1 - i; omega, ⟨rfl, by simp, rfl, rfl, rfl, ⟨rfl, rfl, rfl, rfl, trivial⟩, ⟨congrArg _ (half_absorb rfl (by decide) (by simp [plenAt])), ⟨_, _, _, _, rfl, rfl, congrArg _ plr_snoc⟩, half_in fun i hi => by simpa [plenAt] using hi, trivial⟩⟩⟩
  · refine SCmp.no (decide_eq_false (by omega)) ?_
    obtain rfl : i = n := by omega
    exact SRet.pure (frzM (H := [_, _]) (h := 0) (p := 1) (congrArg (Blk.rows _) half_full) rfl fun i hi => hi)
end Go.Proofs.YtjfcphohgicolaaGreat

namespace Go.Proofs.YtjfcphohgicolaaGreat
open Go
set_option linter.unusedVariables false
set_option linter.unusedSimpArgs false
set_option maxRecDepth 10000
theorem rall_ok (m m' q q' : Bool) (n w : Nat) (A : Nat → Nat → Rat) {a : Nat} (hA : ∀ i k, i < n → k < w → Bz (A i k) a) (ha : a + a ≤ 1048576) (hn : n ≤ 1000) (hw : w ≤ 1000) :
    CallP Tryz.prog 37 [matP m m' n w A, matP q q' n w A] (.p (.bool true)) [] := by
  refine callG_of_vc (wr := wr0) Γok mixed Tryz.func37 (by kernel_rfl) rfl (by kernel_rfl) (le_of_ble rfl) (by simp) ?_
  refine SZ.mk (n : Int) (by simp) ?_
  refine SZ.mk (n : Int) (by simp) ?_
  refine SCmp.no (neF rfl) ?_
  refine SLoop.mk Nat (fun i => ([(0, .p (matP m m' n w A)), (1, .p (matP q q' n w A)), (5, .p (.int .i64 i))], []))
    (fun i => i ≤ n) (fun i => n - i) 0 [] (Nat.zero_le _) ⟨rfl, .nil, rfl, rfl, rfl, ⟨rfl, rfl, rfl, trivial⟩, trivial⟩ ?_
  intro i hi
  have hi : i ≤ n := hi
  refine SZ.mk (n : Int) (by simp) ?_
  by_cases hin : i < n
  · refine SCmp.yes (decide_eq_true (by omega)) ?_
    have hl : Bl (lst w (A i)) a := Bl.lst fun k hk => hA i k hin hk
    have hR := rrows_ok m' q' (lst w (A i)) (lst w (A i)) hl hl ha (by rw [lst_length]; omega)
    rw [decide_eq_true rfl] at hR
    refine SDraw.mk (by kernel_rfl) ?_
    repeat refine SOp.mk _ _ (And.intro rfl rfl) rfl ?_
    refine SOp.mk _ _ (SIdx.mf i rfl hin (And.intro rfl rfl)) rfl ?_
    repeat refine SOp.mk _ _ (And.intro rfl rfl) rfl ?_
    refine SOp.mk _ _ (SIdx.mf i rfl hin (And.intro rfl rfl)) rfl ?_
    repeat refine SOp.mk _ _ (And.intro rfl rfl) rfl ?_
    refine SOp.mk _ _ (SCall.pure (hR) (And.intro rfl rfl)) rfl ?_
    refine SOp.mk _ _ (SCmp.no rfl (And.intro rfl rfl)) rfl ?_
    refine SWrap.i64z ((i + 1 : Nat) : Int) (by omega) (by omega) ?_
    exact ⟨i + 1, [], hin, by show n - (i + 1) < n - i; omega, ⟨rfl, .nil, rfl, rfl, rfl, ⟨rfl, rfl, rfl, trivial⟩, trivial⟩⟩
  · refine SCmp.no (decide_eq_false (by omega)) ?_
    exact SRet.pure (.tf _)
/-- What is told of a tree is told of another one. -/
def PRle (p' p : PV) : Prop := ∀ w FB v, PR w FB p' v → PR w FB p v
theorem PRle.refl (p : PV) : PRle p p := fun _ _ _ h => h
theorem PRle.nil (m : Bool) (W : Nat) : PRle (.raw (.slice none 0 0)) (.sl m W []) := fun w FB v h => by cases h; exact .nil _ _ _
theorem PRle.agg {cs' cs : List PV} (hl : cs'.length = cs.length) (ho : ∀ c ∈ cs, c.one = true) (h : ∀ (i : Nat) c' c, cs'[i]? = some c' → cs[i]? = some c → PRle c' c) : PRle (.agg cs') (.agg cs) := fun w FB v hv => by
  cases hv with
  | agg _ vs hone hl' h' =>
    refine .agg cs vs ho (by rw [hl', hl]) fun i c v e1 e2 => ?_
    have hi : i < cs'.length := by rw [hl]; exact (List.getElem?_eq_some_iff.1 e1).1
    exact h i cs'[i] c (List.getElem?_eq_getElem hi) e1 _ _ _ (h' i _ v (List.getElem?_eq_getElem hi) e2)
theorem CallG.weak {P : Program} {f : FuncId} {pvs pvs' : List PV} {r : AV} {nb : List Blk} (hc : CallP P f pvs r nb) (hl : pvs'.length = pvs.length) (h : ∀ (i : Nat) p' p, pvs'[i]? = some p' → pvs[i]? = some p → PRle p' p) : CallP P f pvs' r nb :=
  ⟨hc.fn, fun w F Bor β vs ha => hc.run w F Bor β vs { ha with
    len := by rw [ha.len, List.length_map, List.length_map, hl]
    rel := fun i a v e1 e2 => by
      rw [List.getElem?_map] at e1
      cases e : pvs[i]? with
      | none => rw [e] at e1; cases e1
      | some p =>
        rw [e] at e1; cases e1
        have hi : i < pvs'.length := by rw [hl]; exact (List.getElem?_eq_some_iff.1 e).1
        have e' : pvs'[i]? = some pvs'[i] := List.getElem?_eq_getElem hi
        have := ha.rel i (.p pvs'[i]) v (by rw [List.getElem?_map, e']; rfl) e2
        exact .p (h i _ p e' e _ _ _ this.pOf)
    ma := fun a ha k hk => by obtain ⟨v, _, rfl⟩ := List.mem_map.1 ha; simp only [AV.men] at hk }⟩
end Go.Proofs.YtjfcphohgicolaaGreat

namespace Go.Proofs.YtjfcphohgicolaaGreat
open Go
set_option linter.unusedVariables false
set_option linter.unusedSimpArgs false
theorem wf_mkG {k n r : Nat} {ns : List Int} (k1 : 1 ≤ k) (k7 : k ≤ 7) (n1 : 1 ≤ n) (n6 : n ≤ 6) (r1 : k = 6 ∨ k = 7 → 1 ≤ r) (r2 : r ≤ 2) (r0 : k ≤ 5 → r = 0) : Wf (mkG k n r (rowG ns)) 5 13 := by
  have hf : ∀ i, -20 ≤ rowG ns i ∧ rowG ns i ≤ 20 := fun i => smallQ_range _
  have hc := cnt_le (k := k) (r := r) n1 (show n ≤ 8 by omega) (show r ≤ 3 by omega)
  exact {
    k1 := k1, k7 := k7, n1 := n1, n6 := n6, r2 := r2, r1 := r1, r0 := r0
    bA := fun i _ => rowG_bz ns i
    bB := fun i hi => bfix_bz hf (by have hi : i < cntB k n := hi; omega) (hf _) (rowG_bz ns _) _
    bG := fun i _ => rowG_bz ns _
    bH := fun i _ => rowG_bz ns _
    ne := fun i j hi hj => bfix_ne hf (hf _) (show i < cntA k n from hi)
    bc := by omega
    c4 := by omega }
theorem gmR_ok {k : Nat} (n : Int) : (k = 6 ∨ k = 7 → 1 ≤ gmR k n) ∧ gmR k n ≤ 2 ∧ (k ≤ 5 → gmR k n = 0) := by
  unfold gmR
  refine ⟨fun h => by rw [if_pos h]; omega, by split <;> omega, fun h => if_neg (by omega)⟩
theorem gmN_ok (n most : Int) (h1 : 1 ≤ most) : 1 ≤ gmN n most ∧ (gmN n most : Int) ≤ most := by
  have := Int.emod_nonneg n (show most ≠ 0 by omega)
  have := Int.emod_lt_of_pos n (show (0 : Int) < most by omega)
  unfold gmN
  omega
theorem wf_g13 {g : GV} {ns : List Int} {b c : Nat} (h : Wf g b c) (hk : g.k = 5 ∨ g.k = 7) : Wf (g13 g ns) b c := by
  unfold g13
  split
  · rename_i ht
    have hla : g.la = g.n := h.la3 (by omega)
    have n1 := h.n1
    have ha : ∀ i, i < g.n → ∃ j, j < g.n ∧ upd g.A (g.n - 1) (g.A 0) i = g.A j := fun i hi => by
      by_cases e : i = g.n - 1
      · exact ⟨0, by omega, by rw [e, upd_same]⟩
      · exact ⟨i, hi, upd_other _ _ e⟩
    exact { h with
      bA := fun i hi => by
        obtain ⟨j, hj, e⟩ := ha i (by rw [← hla]; exact hi)
        show Bz (upd g.A (g.n - 1) (g.A 0) i) b
        rw [e]; exact h.bA j (by rw [hla]; exact hj)
      ne := fun i k hi hk => by
        obtain ⟨j, hj, e⟩ := ha i (by rw [← hla]; exact hi)
        show upd g.A (g.n - 1) (g.A 0) i ≠ g.B k
        rw [e]; exact h.ne j k (by rw [hla]; exact hj) hk }
  · exact h
theorem g13_k {g : GV} {ns : List Int} : (g13 g ns).k = g.k := by unfold g13; split <;> rfl
theorem g13_n {g : GV} {ns : List Int} : (g13 g ns).n = g.n := by unfold g13; split <;> rfl
end Go.Proofs.YtjfcphohgicolaaGreat

namespace Go.Proofs.YtjfcphohgicolaaGreat
open Go
set_option linter.unusedVariables false
set_option linter.unusedSimpArgs false
set_option maxRecDepth 10000
/-- Both rows of nodes are lent. -/
def m15 : Nat → Bool
  | 0 => true
  | 1 => true
  | _ => false
theorem PRle.gen {m : Nat → Bool} {g : GV} {k n r : Int} {a b c d : PV} (hk : k = g.k) (hn : n = g.n) (hr : r = g.r) (ha : PRle a (ratsM (m 0) (lst g.la g.A))) (hb : PRle b (ratsM (m 1) (lst g.lb g.B))) (hc : PRle c (ratsM (m 2) (lst g.lh g.G))) (hd : PRle d (ratsM (m 3) (lst g.lh g.H))) :
    PRle (.agg [.int .i64 k, .int .i64 n, .int .i64 r, a, b, c, d]) (genP m g) := by
  subst hk; subst hn; subst hr
  refine PRle.agg rfl (fun c hc => ?_) fun i c' c e1 e2 => ?_
  · simp only [genC, List.mem_cons, List.not_mem_nil, or_false] at hc
    rcases hc with rfl | rfl | rfl | rfl | rfl | rfl | rfl <;> rfl
  · match i, e1, e2 with
    | 0, e1, e2 => cases e1; cases e2; exact .refl _
    | 1, e1, e2 => cases e1; cases e2; exact .refl _
    | 2, e1, e2 => cases e1; cases e2; exact .refl _
    | 3, e1, e2 => cases e1; cases e2; exact ha
    | 4, e1, e2 => cases e1; cases e2; exact hb
    | 5, e1, e2 => cases e1; cases e2; exact hc
    | 6, e1, e2 => cases e1; cases e2; exact hd
theorem CallG.weak1 {P : Program} {f : FuncId} {p p' : PV} {r : AV} {nb : List Blk} (hc : CallP P f [p] r nb) (h : PRle p' p) : CallP P f [p'] r nb :=
  CallG.weak hc rfl fun i p1 p2 e1 e2 => by
    match i, e1, e2 with
    | 0, e1, e2 => cases e1; cases e2; exact h
end Go.Proofs.YtjfcphohgicolaaGreat

namespace Go.Proofs.YtjfcphohgicolaaGreat
open Go
set_option linter.unusedVariables false
set_option linter.unusedSimpArgs false
set_option maxRecDepth 10000
/-- The matrix, handed out as the caller's own. -/
theorem gexpandO_ok (m : Nat → Bool) (g : GV) {b c : Nat} (h : Wf g b c) : CallP Tryz.prog 39 [genP m g] (.vec 0 1 0 g.n) [.rows 24 (plc 1 g.n g.n id), .pool 31 3 (plr g.n g.n (ent g))] := by
  have h6 := h.n6
  have n1 := h.n1
  refine callG_of_vc (wr := wr0) Γok mixed Tryz.func39 (by kernel_rfl) rfl (by kernel_rfl) (le_of_ble rfl) (by simp) ?_
  refine SCall.pure (gcheck_ok m g h) ?_
  refine SCmp.no (rfl) ?_
  refine SZ.mk (g.n : Int) rfl ?_
  refine SLt.mk (by simp) ?_
  refine SMake.mk g.n rfl (by simp; omega) (by omega) ?_
  refine SMk.rows ?_
  refine SZ.mk (g.n : Int) rfl ?_
  refine SLoop.mkT Nat (fun i => ([(1, .bptr 0 0), (3, .vec 1 1 0 g.n), (13, .p (.int .i64 g.n)), (14, .p (.int .i64 i))], [.box 26 (genA m g), .rows 24 (half 2 g.n g.n i), .pool 31 3 (plr i g.n (ent g))]))
    (fun i => i ≤ g.n) (fun i => g.n - i) 0 [0, 1, 2] _ _ (.pool 31 3 (.done _ _)) (Nat.zero_le _) ⟨rfl, by simp, rfl, rfl, rfl, ⟨rfl, rfl, rfl, rfl, trivial⟩, ⟨rfl, congrArg _ half_ren0, rfl, half_in fun i hi => absurd hi (Nat.not_lt_zero _), trivial⟩⟩ ?_
  intro i hi
  have hi : i ≤ g.n := hi
  by_cases hin : i < g.n
  · refine SCmp.yes (decide_eq_true (by omega)) ?_
    refine SZ.mk (g.n : Int) rfl ?_
    refine SLt.mk (by simp) ?_
    refine SMake.rat g.n rfl (by omega) ?_
    refine SPos.mk i rfl hin ?_
    refine SLt.mk (by simp; omega) ?_
    refine SAs.mk (halq 2 g.n g.n i 3) half_set ?_
    refine SPos.mk i rfl hin ?_
    refine SIdxA.mk i _ rfl (halq_get hin) ?_
    refine SZ.mk (g.n : Int) rfl ?_
    refine SLoop.mk (Nat × (Nat → Rat)) (fun (j, F) => ([(1, .bptr 0 0), (3, .vec 1 1 0 g.n), (4, .p (.int .i64 i)), (13, .p (.int .i64 g.n)), (14, .p (.int .i64 i)), (27, .p (.int .i64 g.n)), (28, .p (.int .i64 j))], [.box 26 (genA m g), .rows 24 (halq 2 g.n g.n i 3), .pool 31 3 (plr i g.n (ent g)), .vec 31 3 (fl g.n fun k => if k < j then ratP (ent g i k) else rat0)]))
      (fun (j, F) => j ≤ g.n) (fun x => g.n - x.1) (0, ent g i) [0, 1, 2, 3] (Nat.zero_le _) ⟨rfl, by simp, rfl, rfl, rfl, ⟨rfl, rfl, rfl, rfl, rfl, rfl, rfl, trivial⟩, ⟨rfl, congrArg _ (halq_ren 2 3 rfl (by decide) rfl (by decide)), rfl, congrArg _ ((fl_congr fun k hk => if_neg (by omega)).trans (replicate_fl g.n rat0).symm), halq_in (fun i hi => by simpa [plenAt] using hi) (fun e => by cases e), trivial⟩⟩ ?_
    intro ⟨j, F⟩ hj
    have hj : j ≤ g.n := hj
    by_cases hjn : j < g.n
    · refine SCmp.yes (decide_eq_true (by omega)) ?_
      refine SDraw.mkX (by kernel_rfl) ?_
      repeat refine SOp.mk _ _ (And.intro rfl rfl) rfl ?_
      refine SOp.mk _ _ (SPos.mk i rfl hin (And.intro rfl rfl)) rfl ?_
      refine SOp.mk _ _ (SIdxA.mk i _ rfl (halq_get hin) (And.intro rfl rfl)) rfl ?_
      repeat refine SOp.mk _ _ (And.intro rfl rfl) rfl ?_
      refine SOp.mk _ _ (SCall.pure (gentry_ok m g h i j hin hjn) (And.intro rfl rfl)) rfl ?_
      refine SOp.mk _ _ (SPos.mk j rfl hjn (And.intro rfl rfl)) rfl ?_
      refine SOp.mk _ _ (SLt.mk (by simp; omega) <| SEs.mk _ (row_step hjn) (And.intro rfl rfl)) rfl ?_
      repeat refine SOp.mk _ _ (And.intro rfl rfl) rfl ?_
      refine SFin.mk (by kernel_rfl) ?_
      refine SWrap.i64z ((j + 1 : Nat) : Int) (by omega) (by omega) ?_
      exact ⟨(j + 1, F), [0, 1, 2, 3], hjn, by show g.n - (j + 1) < g.n - j; omega, ⟨rfl, by simp, rfl, rfl, rfl, ⟨rfl, rfl, rfl, rfl, rfl, rfl, rfl, trivial⟩, ⟨rfl, congrArg _ (halq_ren 2 3 rfl (by decide) rfl (by decide)), rfl, rfl, halq_in (fun i hi => by simpa [plenAt] using hi) (fun e => by cases e), trivial⟩⟩⟩
    · refine SCmp.no (decide_eq_false (by omega)) ?_
      obtain rfl : j = g.n := by omega
      refine SWrap.i64z ((i + 1 : Nat) : Int) (by omega) (by omega) ?_
      exact ⟨i + 1, [0, 1, 4002], hin, by show g.n - (i + 1) < g.n - i; omega, ⟨rfl, by simp, rfl, rfl, rfl, ⟨rfl, rfl, rfl, rfl, trivial⟩, ⟨rfl, congrArg _ (half_absorb rfl (by decide) (by simp [plenAt])), ⟨_, _, _, _, rfl, rfl, congrArg _ (plr_snoc.trans (congrArg (fun r => plr i g.n (ent g) ++ [some r]) row_full))⟩, half_in fun i hi => by simpa [plenAt] using hi, trivial⟩⟩⟩
  · refine SCmp.no (decide_eq_false (by omega)) ?_
    obtain rfl : i = g.n := by omega
    refine SRet.mk [1, 2] rfl (by decide) rfl (Nat.zero_le _) (fun h hl => by rw [look_nil] at hl; exact hl.elim) (fun h hl => absurd (look_nil h) hl) (fun a h B e1 e2 => ?_) (.vec rfl)
    match a, e1, e2 with
    | 0, e1, e2 =>
      cases e1; cases e2
      show ConvB _ _ (Blk.rows _ (half 2 g.n g.n g.n)) _
      rw [half_full]
      refine .rows (fun d hd => by obtain ⟨i, _, rfl⟩ := fl_mem hd; rfl) (by simp) fun b c d e1 e2 => ?_
      obtain ⟨hb, rfl⟩ := fl_get_iff.1 e1
      obtain ⟨_, rfl⟩ := fl_get_iff.1 e2
      exact .vecr rfl
    | 1, e1, e2 =>
      cases e1; cases e2
      exact .pool fun k es hk => by
        obtain ⟨_, h⟩ := fl_get_iff.1 hk
        cases h; exact pers_rats _
/-- A call that makes a matrix and answers with it. -/
theorem SCall.mtx {P : Program} {wr : Bool} {f : FuncId} {L : Hd → Blk} {base n w N : Nat} {K : AV → List (Hd × Blk) → Prop} {pvs : List PV} {T T' : TypeId} {G : Nat → Nat → Rat} (hc : CallP P f pvs (.vec 0 1 0 n) [.rows T (plc 1 w n id), .pool T' 3 (plr N w G)])
    (hk : K (.vec base 1 0 n) [(.t base, .rows T (plc (base + 1) w n id)), (.t (base + 1), .pool T' 3 (plr N w G))]) {raw : List AV} : SCall P wr f raw (pvs.map .p) L base K := by
  refine SCall.news hc (fun B hB => by simp only [List.mem_cons, List.not_mem_nil, or_false] at hB; rcases hB with rfl | rfl <;> exact fun e => by (cases e)) ?_
  have e : AV.renL (renOf [] base) (plc 1 w n id) = plc (base + 1) w n id := by
    rw [renL_fl]; exact fl_congr fun i _ => by simp only [AV.ren, renOf, renN]; rfl
  show K (.vec (.t (base + (0 - 0))) 1 0 n) [(.t (base + (0 - 0)), .rows T (AV.renL _ _)), (.t (base + (1 - 0)), _)]
  rw [e]; exact hk
/-- A contract that tells less of its answer. -/
theorem CallG.weakR {P : Program} {f : FuncId} {pvs : List PV} {r r' : AV} {nb : List Blk} (hc : CallP P f pvs r' nb) (h : ∀ w FB β v, VR w FB β r' v → VR w FB β r v) (hm : ∀ k, ¬ r.men k) : CallP P f pvs r nb :=
  ⟨hc.fn, fun w F Bor β vs ha => (hc.run w F Bor β vs ha).mono fun e w' ⟨v, F', β', h1, h2⟩ => ⟨v, F', β', h1, { h2 with rel := h _ _ _ _ h2.rel, mr := fun k hk => (hm k hk).elim }⟩⟩
theorem VR.weak2 {p p' : PV} {c : PV} (h : PRle p' p) : ∀ w FB β v, VR w FB β (.tup [.p p', .p c]) v → VR w FB β (.tup [.p p, .p c]) v := fun w FB β v hv => by
  cases hv with | tup _ vs hl hr =>
  refine .tup _ vs hl fun i d x e1 e2 => ?_
  match i, e1, e2 with
  | 0, e1, e2 => cases e1; exact .p (h _ _ _ (hr 0 _ _ rfl e2).pOf)
  | 1, e1, e2 => cases e1; exact hr 1 _ _ rfl e2
def GkB (n : Nat) (A : Nat → Nat → Rat) (D : Nat) : Prop := ∀ k, k ≤ n → ∀ i j, i < n → j < n → Bz ((gk n A k).B i j) D
theorem GkB.P {n : Nat} {A : Nat → Nat → Rat} {D : Nat} (h : GkB n A D) {k : Nat} (hk : k < n) : ∀ i j, i < n → j < n → Bz (gkP n A k i j) D := fun i j hi hj => by
  obtain ⟨p1, p2, _⟩ := pvt_spec (B := (gk n A k).B) hk
  exact h k (by omega) _ j (swp_lt p2 hk hi) hj
theorem gk_bz {n b : Nat} {A : Nat → Nat → Rat} (hA : ∀ i j, i < n → j < n → Bz (A i j) b) : ∀ k, k ≤ n → ∀ i j, i < n → j < n → Bz ((gk n A k).B i j) (bb b k) := by
  intro k
  induction k with
  | zero => intro _ i j hi hj; exact hA i j hi hj
  | succ k ih =>
    intro hk i j hi hj
    have ih := ih (by omega)
    obtain ⟨p1, p2, _⟩ := pvt_spec (B := (gk n A k).B) (n := n) (k := k) (by omega)
    have zP : ∀ i j, i < n → j < n → Bz (gkP n A k i j) (bb b k) := fun i j hi hj => ih _ j (swp_lt p2 (by omega) hi) hj
    by_cases c : k < i
    · rw [gk_gt c]
      exact ((zP i j hi hj).sub (((zP i k hi (by omega)).div (zP k k (by omega) (by omega))).mul (zP k j (by omega) hj))).mono (by simp only [bb]; omega)
    · rw [gk_le (by omega)]; exact (zP i j hi hj).mono (by simp only [bb]; omega)
theorem GkB.of {n b : Nat} {A : Nat → Nat → Rat} (n1 : 1 ≤ n) (hA : ∀ i j, i < n → j < n → Bz (A i j) b) : GkB n A (bb b (n - 1)) := fun k hk i j hi hj => by
  by_cases e : k = n
  · obtain ⟨d, rfl⟩ : ∃ d, n = d + 1 := ⟨n - 1, by omega⟩
    obtain ⟨p1, p2, _⟩ := pvt_spec (B := (gk (d + 1) A d).B) (n := d + 1) (k := d) (by omega)
    rw [e, gk_le (by omega)]
    exact gk_bz hA d (by omega) _ j (swp_lt p2 (by omega) hi) hj
  · exact (gk_bz hA k hk i j hi hj).mono (bb_mono (by omega))
theorem ggr_bz {n D : Nat} {A : Nat → Nat → Rat} (h : GkB n A D) (hD : 1 ≤ D) : ∀ k, k ≤ n → Bz (ggr n A k) D := by
  intro k
  induction k with
  | zero => intro _; exact mxR_bz (bz_zero.mono hD) n fun i j _ h2 h3 => h 0 (Nat.zero_le _) i j (by omega) h3
  | succ k ih => intro hk; exact mxR_bz (ih (by omega)) _ fun i j _ h2 h3 => h k (by omega) i j (by omega) h3
theorem gM_bz {n D : Nat} {A : Nat → Nat → Rat} (h : GkB n A D) (hD : 1 ≤ D) : ∀ k, k ≤ n → ∀ i j, i < n → Bz ((gk n A k).M i j) (D + D) := by
  intro k
  induction k with
  | zero => intro _ i j _; exact bz_zero.mono (by omega)
  | succ k ih =>
    intro hk i j hi
    obtain ⟨p1, p2, _⟩ := pvt_spec (B := (gk n A k).B) (n := n) (k := k) (by omega)
    have sw : Bz (swpM (gk n A k).M (pvt (gk n A k).B n k) k i j) (D + D) := ih (by omega) _ j (swp_lt p2 (by omega) hi)
    rw [gk_succ]
    show Bz (mulS _ _ k i j) _
    unfold mulS
    split
    · split
      · exact (h.P (by omega) i k hi (by omega)).div (h.P (by omega) k k (by omega) (by omega))
      · split
        · exact bz_one.mono (by omega)
        · exact sw
    · exact sw
def gro (n : Nat) (A : Nat → Nat → Rat) : Rat := ggr n A n / ggr n A 0
abbrev part0 : PV := .agg [.sl false 1 [], .sl false 1 [], .sl false 1 [], .bool false, .sl false 1 [], .sl false 1 []]
abbrev partC (n : Nat) (A : Nat → Nat → Rat) : List PV := [.sl false 1 (permP n (gO n A)), matP false false n n (gL n A), matP false false n n (gU n A), .bool (decide ((gro n A).num < 0)), natP (gro n A).num.natAbs, natP (gro n A).den]
abbrev partP (n : Nat) (A : Nat → Nat → Rat) : PV := .agg (partC n A)
theorem part_le : PRle (.agg [.raw (.slice none 0 0), .raw (.slice none 0 0), .raw (.slice none 0 0), .bool false, .sl false 1 [], .sl false 1 []]) part0 := by
  refine PRle.agg rfl (fun c hc => by simp only [List.mem_cons, List.not_mem_nil, or_false] at hc; rcases hc with rfl | rfl | rfl | rfl | rfl | rfl <;> rfl) fun i c' c e1 e2 => ?_
  match i, e1, e2 with
  | 0, e1, e2 => cases e1; cases e2; exact .nil _ _
  | 1, e1, e2 => cases e1; cases e2; exact .nil _ _
  | 2, e1, e2 => cases e1; cases e2; exact .nil _ _
  | 3, e1, e2 => cases e1; cases e2; exact .refl _
  | 4, e1, e2 => cases e1; cases e2; exact .refl _
  | 5, e1, e2 => cases e1; cases e2; exact .refl _
theorem pers_part0 : Pers (.agg [.raw (.slice none 0 0), .raw (.slice none 0 0), .raw (.slice none 0 0), .bool false, .sl false 1 [], .sl false 1 []]) := .agg _ fun c hc => by
  simp only [List.mem_cons, List.not_mem_nil, or_false] at hc
  rcases hc with rfl | rfl | rfl | rfl | rfl | rfl <;> first | exact .raw _ | exact .bool _ | exact .sl _ _ (fun e he => by simp at he)
theorem nomen2 {p c : PV} (k : Hd) : ¬ (AV.tup [.p p, .p c]).men k := fun h => by simp only [AV.men, AV.menL, or_false] at h
end Go.Proofs.YtjfcphohgicolaaGreat

namespace Go.Proofs.YtjfcphohgicolaaGreat
open Go
set_option linter.unusedVariables false
set_option linter.unusedSimpArgs false
set_option maxRecDepth 10000
abbrev wrK : FuncId → Bool := fun f => Nat.beq f 41 || (Nat.beq f 42 || Nat.beq f 43)
abbrev zpartA : List AV := [.p (.raw (.slice none 0 0)), .p (.raw (.slice none 0 0)), .p (.raw (.slice none 0 0)), .p (.bool false), .p (.sl false 1 []), .p (.sl false 1 [])]
theorem perm0 {n : Nat} : List.replicate n (PV.int .i64 0) = permP n fun t => if t < 0 then t else 0 := (replicate_fl n _).trans (fl_congr fun i _ => congrArg (fun x : Nat => PV.int .i64 (x : Int)) (if_neg (Nat.not_lt_zero i)).symm)
theorem gw_next {n k : Nat} {A : Nat → Nat → Rat} {si : Nat → Nat} (hk : k < n) (hsi : ∀ r, r < n → si r < n ∧ (gk n A (k + 1)).s (si r) = r) : ∀ i j, i < n → j < n → (fun r j => redA (gkP n A k) k (si r) j) ((gk n A (k + 1)).s i) j = (gk n A (k + 1)).B i j := fun i j hi hj => by
  obtain ⟨h1, h2, _⟩ := gk_perm (n := n) (A := A) (k + 1) hk
  obtain ⟨a, b⟩ := hsi _ (h1 i hi)
  have e := h2 _ _ a hi b
  show redA (gkP n A k) k (si ((gk n A (k + 1)).s i)) j = _
  rw [e, gk_succ]
theorem gw_swp {n k : Nat} {A G : Nat → Nat → Rat} (hk : k < n) (hG : ∀ i j, i < n → j < n → G ((gk n A k).s i) j = (gk n A k).B i j) : ∀ i j, i < n → j < n → G ((gk n A (k + 1)).s i) j = gkP n A k i j := fun i j hi hj => by
  obtain ⟨p1, p2, _⟩ := pvt_spec (B := (gk n A k).B) hk
  rw [gk_succ]
  exact hG _ j (swp_lt p2 hk hi) hj
theorem gw_inv {n k : Nat} {A : Nat → Nat → Rat} (hk : k ≤ n) : ∃ si : Nat → Nat, ∀ r, r < n → si r < n ∧ (gk n A k).s (si r) = r := by
  obtain ⟨_, _, h3⟩ := gk_perm (n := n) (A := A) k hk
  refine ⟨fun r => if h : r < n then (h3 r h).choose else 0, fun r hr => ?_⟩
  show (if h : r < n then (h3 r h).choose else 0) < n ∧ (gk n A k).s (if h : r < n then (h3 r h).choose else 0) = r
  rw [dif_pos hr]
  exact (h3 r hr).choose_spec
theorem kfactorZ_ok (m : Nat → Bool) (g : GV) {b c D K : Nat} (h : Wf g b c) (hk : g.k = 5 ∨ g.k = 7) (hB : GkB g.n (ent g) D) (h1 : 1 ≤ D) (hD : 4 * D + 1 ≤ 1000000) (hK : K < g.n) (hp : ∀ t, t < K → gpiv g.n (ent g) t ≠ 0) (hz : gpiv g.n (ent g) K = 0) :
    CallP Tryz.prog 11 [genP m g] (.tup [.p part0, .p (.int .i64 9)]) [] := by
  have h6 := h.n6
  have n1 := h.n1
  refine CallG.weakR ?_ (VR.weak2 part_le) nomen2
  rcases hk with e | e
  · refine callG_of_vc (wr := wrK) Γok mixed Tryz.func11 (by kernel_rfl) rfl (by kernel_rfl) (le_of_ble rfl) (by simp) ?_
    refine SCmp.no (neF (by rw [e]; rfl)) ?_
    refine SCall.mtx (gexpandO_ok m g h) ?_
    refine SNil.mk (fun _ => ?_) (fun h => absurd h (by omega))
    refine SDraw.mkX (by kernel_rfl) ?_
    repeat refine SOp.mk _ _ (And.intro rfl rfl) rfl ?_
    refine SOp.mk _ _ (SZ.mk (g.n : Int) rfl (And.intro rfl rfl)) rfl ?_
    repeat refine SOp.mk _ _ (And.intro rfl rfl) rfl ?_
    refine SOp.mk _ _ (SZ.mk (g.n : Int) rfl <| SLt.mk (by simp) <| SMake.mk g.n rfl (by show g.n * 8 ≤ _; omega) (by omega) (And.intro rfl rfl)) rfl ?_
    repeat refine SOp.mk _ _ (And.intro rfl rfl) rfl ?_
    refine SOp.mk _ _ (SCall.pure (kzero_ok) (And.intro rfl rfl)) rfl ?_
    repeat refine SOp.mk _ _ (And.intro rfl rfl) rfl ?_
    refine SFin.mk (by kernel_rfl) ?_
    refine SZ.mk (g.n : Int) rfl ?_
    refine SLoop.mk (Nat × (Nat → Nat)) (fun (i, s) => ([(2, .bptr 5 0), (5, .bptr 0 0), (39, .p (.int .i64 g.n)), (40, .p (.int .i64 (i : Nat)))],
        [.box 74 (gwA g.n 0), .rows 24 (plc 2 g.n g.n id), .pool 31 3 (plr g.n g.n (ent g)), .vec 3 1 (permP g.n s), .map [], .box 33 zpartA]))
      (fun (i, s) => i ≤ g.n ∧ ∀ t, t < g.n → s t = if t < i then t else 0) (fun x => g.n - x.1) (0, fun t => if t < 0 then t else 0) [6, 2, 3, 4, 5, 1] ⟨Nat.zero_le _, fun t _ => rfl⟩
      ⟨rfl, by simp, rfl, rfl, rfl, ⟨rfl, rfl, rfl, rfl, trivial⟩, ⟨rfl, congrArg _ (plc_ren 3 rfl (by decide)), rfl, congrArg _ perm0.symm, rfl, rfl, rows_in fun q hq => by simpa [plenAt] using hq, trivial⟩⟩ ?_
    intro ⟨i, s⟩ ⟨hi, hs⟩
    by_cases hin : i < g.n
    · refine SCmp.yes (decide_eq_true (by omega)) ?_
      refine SPos.mk i rfl hin ?_
      refine SLt.perm hin ?_
      refine SEs.perm ?_
      refine SWrap.i64z ((i + 1 : Nat) : Int) (by omega) (by omega) ?_
      refine ⟨(i + 1, _), [0, 1, 2, 3, 4, 5], ⟨hin, fun t ht => ?_⟩, by show g.n - (i + 1) < g.n - i; omega, ⟨rfl, by simp, rfl, rfl, rfl, ⟨rfl, rfl, rfl, rfl, trivial⟩, ⟨rfl, congrArg _ (plc_ren 2 rfl (by decide)), rfl, rfl, rfl, rfl, rows_in fun q hq => by simpa [plenAt] using hq, trivial⟩⟩⟩
      show upd s (i + 0) i t = _
      unfold upd
      by_cases e : t = i
      · rw [if_pos (by omega), if_pos (by omega), e]
      · rw [if_neg (by omega), hs t ht]
        by_cases e2 : t < i
        · rw [if_pos e2, if_pos (by omega)]
        · rw [if_neg e2, if_neg (by omega)]
    refine SCmp.no (decide_eq_false (by omega)) ?_
    obtain rfl : i = g.n := by omega
    have es : permP g.n s = permP g.n id := permP_congr fun t ht => by rw [hs t ht, if_pos ht]; rfl
    refine SCall.gw (glook_ok g.n 0 (ent g) (ent g) id [] 0 (Nat.zero_le _) (by omega) (fun i hi => hi) (fun _ _ _ _ => rfl) (hB 0 (Nat.zero_le _)) (bz_zero.mono h1) (by omega) (fun e he => by simp at he)) (fun _ => rfl) (by decide) ⟨rfl, fun _ => rfl⟩ ⟨rfl, fun _ => rfl⟩ ⟨rfl, fun _ => rfl⟩ ⟨congrArg (Blk.vec 3 1) es, fun _ => rfl⟩ ⟨rfl, fun _ => rfl⟩ ?_
    refine SZ.mk (g.n : Int) rfl ?_
    refine SLoop.mk (Nat × (Nat → Nat → Rat)) (fun (k, G) => ([(2, .bptr 5 0), (5, .bptr 0 0), (7, .bptr 6 0), (61, .p (.int .i64 g.n)), (62, .p (.int .i64 (k : Nat)))],
        gwB g.n G (gk g.n (ent g) k).s (gtk g.n (ent g) k) (ggr g.n (ent g) k) ++ [.box 33 zpartA, .box 31 (bxQ (ggr g.n (ent g) 0))]))
      (fun (k, G) => k ≤ K ∧ ∀ i j, i < g.n → j < g.n → G ((gk g.n (ent g) k).s i) j = (gk g.n (ent g) k).B i j) (fun x => g.n - x.1) (0, ent g) [0, 1, 2, 3, 4, 5, 6] ⟨Nat.zero_le _, fun _ _ _ _ => rfl⟩
      ⟨rfl, by simp, rfl, rfl, rfl, ⟨rfl, rfl, rfl, rfl, rfl, trivial⟩, ⟨rfl, congrArg _ (plc_ren 2 rfl (by decide)), rfl, rfl, rfl, rfl, rfl, rows_in (s := id) fun q hq => by simpa [plenAt] using hq, trivial⟩⟩ ?_
    intro ⟨k, G⟩ ⟨hkn, hG⟩
    obtain ⟨r1, r2, r3⟩ := gk_perm (n := g.n) (A := ent g) k (by omega)
    have zr := ggr_bz hB h1 k (by omega)
    refine SCmp.yes (decide_eq_true (by omega)) ?_
    by_cases e : k < K
    · refine SCall.gw (glook_ok g.n k G (gk g.n (ent g) k).B (gk g.n (ent g) k).s (gtk g.n (ent g) k) (ggr g.n (ent g) k) (by omega) (by omega) r1 hG (hB k (by omega)) zr (by omega) (gtk_key k).pers)
        (fun _ => rfl) (by decide) ⟨rfl, fun _ => rfl⟩ ⟨rfl, fun _ => rfl⟩ ⟨rfl, fun _ => rfl⟩ ⟨rfl, fun _ => rfl⟩ ⟨rfl, fun _ => rfl⟩ ?_
      refine SCall.gw (gpick_ok g.n k G (gk g.n (ent g) k).B (gk g.n (ent g) k).s (gtk g.n (ent g) k) (ggr g.n (ent g) (k + 1)) true (by omega) (by omega) r1 hG (hB k (by omega)) (by omega) (gtk_key k).pers ((decide_eq_true (by rw [← gpiv_eq]; exact hp k e)).symm))
        (fun _ => rfl) (by decide) ⟨rfl, fun _ => rfl⟩ ⟨rfl, fun _ => rfl⟩ ⟨rfl, fun _ => rfl⟩ ⟨rfl, fun _ => rfl⟩ ⟨rfl, fun _ => rfl⟩ ?_
      refine SCmp.no (rfl) ?_
      obtain ⟨si, hsi⟩ := gw_inv (n := g.n) (A := ent g) (k := k + 1) (by omega)
      obtain ⟨q1, q2, _⟩ := gk_perm (n := g.n) (A := ent g) (k + 1) (by omega)
      refine SCall.gw (gclean_ok g.n k G (gkP g.n (ent g) k) (gk g.n (ent g) (k + 1)).s si (gtk g.n (ent g) k) (ggr g.n (ent g) (k + 1)) (by omega) (by omega) q1 q2 hsi (gw_swp (by omega) hG) (hB.P (by omega)) (by omega) (hp k e) (gtk_key k))
        (fun _ => rfl) (by decide) ⟨rfl, fun _ => rfl⟩ ⟨rfl, fun _ => rfl⟩ ⟨rfl, fun _ => rfl⟩ ⟨rfl, fun _ => rfl⟩ ⟨rfl, fun _ => rfl⟩ ?_
      refine SWrap.i64z ((k + 1 : Nat) : Int) (by omega) (by omega) ?_
      exact ⟨(k + 1, fun r j => redA (gkP g.n (ent g) k) k (si r) j), [0, 1, 2, 3, 4, 5, 6], ⟨by omega, gw_next (by omega) hsi⟩, by show g.n - (k + 1) < g.n - k; omega, ⟨rfl, by simp, rfl, rfl, rfl, ⟨rfl, rfl, rfl, rfl, rfl, trivial⟩, ⟨rfl, congrArg _ (plc_ren 2 rfl (by decide)), rfl, rfl, rfl, rfl, rfl, rows_in fun q hq => by simpa [plenAt] using q1 q hq, trivial⟩⟩⟩
    · obtain rfl : k = K := by omega
      refine SCall.gw (glook_ok g.n k G (gk g.n (ent g) k).B (gk g.n (ent g) k).s (gtk g.n (ent g) k) (ggr g.n (ent g) k) (by omega) (by omega) r1 hG (hB k (by omega)) zr (by omega) (gtk_key k).pers)
        (fun _ => rfl) (by decide) ⟨rfl, fun _ => rfl⟩ ⟨rfl, fun _ => rfl⟩ ⟨rfl, fun _ => rfl⟩ ⟨rfl, fun _ => rfl⟩ ⟨rfl, fun _ => rfl⟩ ?_
      refine SCall.gw (gpick_ok g.n k G (gk g.n (ent g) k).B (gk g.n (ent g) k).s (gtk g.n (ent g) k) (ggr g.n (ent g) (k + 1)) false (by omega) (by omega) r1 hG (hB k (by omega)) (by omega) (gtk_key k).pers ((decide_eq_false (by rw [← gpiv_eq]; exact fun h => h hz)).symm))
        (fun _ => rfl) (by decide) ⟨rfl, fun _ => rfl⟩ ⟨rfl, fun _ => rfl⟩ ⟨rfl, fun _ => rfl⟩ ⟨rfl, fun _ => rfl⟩ ⟨rfl, fun _ => rfl⟩ ?_
      refine SCmp.yes (rfl) ?_
      refine SRet.pure (.tup rfl fun i c d e1 e2 => ?_)
      match i, e1, e2 with
      | 0, e1, e2 => cases e1; cases e2; exact .p _ pers_part0
      | 1, e1, e2 => cases e1; cases e2; exact .p _ (.int _ _)
  · refine callG_of_vc (wr := wrK) Γok mixed Tryz.func11 (by kernel_rfl) rfl (by kernel_rfl) (le_of_ble rfl) (by simp) ?_
    refine SCmp.yes (neT (by rw [e]; decide)) ?_
    refine SCmp.no (neF (by rw [e]; rfl)) ?_
    refine SCall.mtx (gexpandO_ok m g h) ?_
    refine SNil.mk (fun _ => ?_) (fun h => absurd h (by omega))
    refine SDraw.mkX (by kernel_rfl) ?_
    repeat refine SOp.mk _ _ (And.intro rfl rfl) rfl ?_
    refine SOp.mk _ _ (SZ.mk (g.n : Int) rfl (And.intro rfl rfl)) rfl ?_
    repeat refine SOp.mk _ _ (And.intro rfl rfl) rfl ?_
    refine SOp.mk _ _ (SZ.mk (g.n : Int) rfl <| SLt.mk (by simp) <| SMake.mk g.n rfl (by show g.n * 8 ≤ _; omega) (by omega) (And.intro rfl rfl)) rfl ?_
    repeat refine SOp.mk _ _ (And.intro rfl rfl) rfl ?_
    refine SOp.mk _ _ (SCall.pure (kzero_ok) (And.intro rfl rfl)) rfl ?_
    repeat refine SOp.mk _ _ (And.intro rfl rfl) rfl ?_
    refine SFin.mk (by kernel_rfl) ?_
    refine SZ.mk (g.n : Int) rfl ?_
    refine SLoop.mk (Nat × (Nat → Nat)) (fun (i, s) => ([(2, .bptr 5 0), (5, .bptr 0 0), (39, .p (.int .i64 g.n)), (40, .p (.int .i64 (i : Nat)))],
        [.box 74 (gwA g.n 0), .rows 24 (plc 2 g.n g.n id), .pool 31 3 (plr g.n g.n (ent g)), .vec 3 1 (permP g.n s), .map [], .box 33 zpartA]))
      (fun (i, s) => i ≤ g.n ∧ ∀ t, t < g.n → s t = if t < i then t else 0) (fun x => g.n - x.1) (0, fun t => if t < 0 then t else 0) [6, 2, 3, 4, 5, 1] ⟨Nat.zero_le _, fun t _ => rfl⟩
      ⟨rfl, by simp, rfl, rfl, rfl, ⟨rfl, rfl, rfl, rfl, trivial⟩, ⟨rfl, congrArg _ (plc_ren 3 rfl (by decide)), rfl, congrArg _ perm0.symm, rfl, rfl, rows_in fun q hq => by simpa [plenAt] using hq, trivial⟩⟩ ?_
    intro ⟨i, s⟩ ⟨hi, hs⟩
    by_cases hin : i < g.n
    · refine SCmp.yes (decide_eq_true (by omega)) ?_
      refine SPos.mk i rfl hin ?_
      refine SLt.perm hin ?_
      refine SEs.perm ?_
      refine SWrap.i64z ((i + 1 : Nat) : Int) (by omega) (by omega) ?_
      refine ⟨(i + 1, _), [0, 1, 2, 3, 4, 5], ⟨hin, fun t ht => ?_⟩, by show g.n - (i + 1) < g.n - i; omega, ⟨rfl, by simp, rfl, rfl, rfl, ⟨rfl, rfl, rfl, rfl, trivial⟩, ⟨rfl, congrArg _ (plc_ren 2 rfl (by decide)), rfl, rfl, rfl, rfl, rows_in fun q hq => by simpa [plenAt] using hq, trivial⟩⟩⟩
      show upd s (i + 0) i t = _
      unfold upd
      by_cases e : t = i
      · rw [if_pos (by omega), if_pos (by omega), e]
      · rw [if_neg (by omega), hs t ht]
        by_cases e2 : t < i
        · rw [if_pos e2, if_pos (by omega)]
        · rw [if_neg e2, if_neg (by omega)]
    refine SCmp.no (decide_eq_false (by omega)) ?_
    obtain rfl : i = g.n := by omega
    have es : permP g.n s = permP g.n id := permP_congr fun t ht => by rw [hs t ht, if_pos ht]; rfl
    refine SCall.gw (glook_ok g.n 0 (ent g) (ent g) id [] 0 (Nat.zero_le _) (by omega) (fun i hi => hi) (fun _ _ _ _ => rfl) (hB 0 (Nat.zero_le _)) (bz_zero.mono h1) (by omega) (fun e he => by simp at he)) (fun _ => rfl) (by decide) ⟨rfl, fun _ => rfl⟩ ⟨rfl, fun _ => rfl⟩ ⟨rfl, fun _ => rfl⟩ ⟨congrArg (Blk.vec 3 1) es, fun _ => rfl⟩ ⟨rfl, fun _ => rfl⟩ ?_
    refine SZ.mk (g.n : Int) rfl ?_
    refine SLoop.mk (Nat × (Nat → Nat → Rat)) (fun (k, G) => ([(2, .bptr 5 0), (5, .bptr 0 0), (7, .bptr 6 0), (61, .p (.int .i64 g.n)), (62, .p (.int .i64 (k : Nat)))],
        gwB g.n G (gk g.n (ent g) k).s (gtk g.n (ent g) k) (ggr g.n (ent g) k) ++ [.box 33 zpartA, .box 31 (bxQ (ggr g.n (ent g) 0))]))
      (fun (k, G) => k ≤ K ∧ ∀ i j, i < g.n → j < g.n → G ((gk g.n (ent g) k).s i) j = (gk g.n (ent g) k).B i j) (fun x => g.n - x.1) (0, ent g) [0, 1, 2, 3, 4, 5, 6] ⟨Nat.zero_le _, fun _ _ _ _ => rfl⟩
      ⟨rfl, by simp, rfl, rfl, rfl, ⟨rfl, rfl, rfl, rfl, rfl, trivial⟩, ⟨rfl, congrArg _ (plc_ren 2 rfl (by decide)), rfl, rfl, rfl, rfl, rfl, rows_in (s := id) fun q hq => by simpa [plenAt] using hq, trivial⟩⟩ ?_
    intro ⟨k, G⟩ ⟨hkn, hG⟩
    obtain ⟨r1, r2, r3⟩ := gk_perm (n := g.n) (A := ent g) k (by omega)
    have zr := ggr_bz hB h1 k (by omega)
    refine SCmp.yes (decide_eq_true (by omega)) ?_
    by_cases e : k < K
    · refine SCall.gw (glook_ok g.n k G (gk g.n (ent g) k).B (gk g.n (ent g) k).s (gtk g.n (ent g) k) (ggr g.n (ent g) k) (by omega) (by omega) r1 hG (hB k (by omega)) zr (by omega) (gtk_key k).pers)
        (fun _ => rfl) (by decide) ⟨rfl, fun _ => rfl⟩ ⟨rfl, fun _ => rfl⟩ ⟨rfl, fun _ => rfl⟩ ⟨rfl, fun _ => rfl⟩ ⟨rfl, fun _ => rfl⟩ ?_
      refine SCall.gw (gpick_ok g.n k G (gk g.n (ent g) k).B (gk g.n (ent g) k).s (gtk g.n (ent g) k) (ggr g.n (ent g) (k + 1)) true (by omega) (by omega) r1 hG (hB k (by omega)) (by omega) (gtk_key k).pers ((decide_eq_true (by rw [← gpiv_eq]; exact hp k e)).symm))
        (fun _ => rfl) (by decide) ⟨rfl, fun _ => rfl⟩ ⟨rfl, fun _ => rfl⟩ ⟨rfl, fun _ => rfl⟩ ⟨rfl, fun _ => rfl⟩ ⟨rfl, fun _ => rfl⟩ ?_
      refine SCmp.no (rfl) ?_
      obtain ⟨si, hsi⟩ := gw_inv (n := g.n) (A := ent g) (k := k + 1) (by omega)
      obtain ⟨q1, q2, _⟩ := gk_perm (n := g.n) (A := ent g) (k + 1) (by omega)
      refine SCall.gw (gclean_ok g.n k G (gkP g.n (ent g) k) (gk g.n (ent g) (k + 1)).s si (gtk g.n (ent g) k) (ggr g.n (ent g) (k + 1)) (by omega) (by omega) q1 q2 hsi (gw_swp (by omega) hG) (hB.P (by omega)) (by omega) (hp k e) (gtk_key k))
        (fun _ => rfl) (by decide) ⟨rfl, fun _ => rfl⟩ ⟨rfl, fun _ => rfl⟩ ⟨rfl, fun _ => rfl⟩ ⟨rfl, fun _ => rfl⟩ ⟨rfl, fun _ => rfl⟩ ?_
      refine SWrap.i64z ((k + 1 : Nat) : Int) (by omega) (by omega) ?_
      exact ⟨(k + 1, fun r j => redA (gkP g.n (ent g) k) k (si r) j), [0, 1, 2, 3, 4, 5, 6], ⟨by omega, gw_next (by omega) hsi⟩, by show g.n - (k + 1) < g.n - k; omega, ⟨rfl, by simp, rfl, rfl, rfl, ⟨rfl, rfl, rfl, rfl, rfl, trivial⟩, ⟨rfl, congrArg _ (plc_ren 2 rfl (by decide)), rfl, rfl, rfl, rfl, rfl, rows_in fun q hq => by simpa [plenAt] using q1 q hq, trivial⟩⟩⟩
    · obtain rfl : k = K := by omega
      refine SCall.gw (glook_ok g.n k G (gk g.n (ent g) k).B (gk g.n (ent g) k).s (gtk g.n (ent g) k) (ggr g.n (ent g) k) (by omega) (by omega) r1 hG (hB k (by omega)) zr (by omega) (gtk_key k).pers)
        (fun _ => rfl) (by decide) ⟨rfl, fun _ => rfl⟩ ⟨rfl, fun _ => rfl⟩ ⟨rfl, fun _ => rfl⟩ ⟨rfl, fun _ => rfl⟩ ⟨rfl, fun _ => rfl⟩ ?_
      refine SCall.gw (gpick_ok g.n k G (gk g.n (ent g) k).B (gk g.n (ent g) k).s (gtk g.n (ent g) k) (ggr g.n (ent g) (k + 1)) false (by omega) (by omega) r1 hG (hB k (by omega)) (by omega) (gtk_key k).pers ((decide_eq_false (by rw [← gpiv_eq]; exact fun h => h hz)).symm))
        (fun _ => rfl) (by decide) ⟨rfl, fun _ => rfl⟩ ⟨rfl, fun _ => rfl⟩ ⟨rfl, fun _ => rfl⟩ ⟨rfl, fun _ => rfl⟩ ⟨rfl, fun _ => rfl⟩ ?_
      refine SCmp.yes (rfl) ?_
      refine SRet.pure (.tup rfl fun i c d e1 e2 => ?_)
      match i, e1, e2 with
      | 0, e1, e2 => cases e1; cases e2; exact .p _ pers_part0
      | 1, e1, e2 => cases e1; cases e2; exact .p _ (.int _ _)
end Go.Proofs.YtjfcphohgicolaaGreat

namespace Go.Proofs.YtjfcphohgicolaaGreat
open Go
set_option linter.unusedVariables false
set_option linter.unusedSimpArgs false
set_option maxRecDepth 10000
theorem kfactor_ok (m : Nat → Bool) (g : GV) {b c D : Nat} (h : Wf g b c) (hk : g.k = 5 ∨ g.k = 7) (hB : GkB g.n (ent g) D) (h1 : 1 ≤ D) (hD : 4 * D + 1 ≤ 1000000) (hp : ∀ t, t < g.n → gpiv g.n (ent g) t ≠ 0) :
    CallP Tryz.prog 11 [genP m g] (.tup [.p (partP g.n (ent g)), .p (.int .i64 0)]) [] := by
  have h6 := h.n6
  have n1 := h.n1
  have zL : ∀ i j, i < g.n → Bz (gL g.n (ent g) i j) (D + D) := fun i j hi => gM_bz hB h1 g.n (Nat.le_refl _) i j hi
  rcases hk with e | e
  · refine callG_of_vc (wr := wrK) Γok mixed Tryz.func11 (by kernel_rfl) rfl (by kernel_rfl) (le_of_ble rfl) (by simp) ?_
    refine SCmp.no (neF (by rw [e]; rfl)) ?_
    refine SCall.mtx (gexpandO_ok m g h) ?_
    refine SNil.mk (fun _ => ?_) (fun h => absurd h (by omega))
    refine SDraw.mkX (by kernel_rfl) ?_
    repeat refine SOp.mk _ _ (And.intro rfl rfl) rfl ?_
    refine SOp.mk _ _ (SZ.mk (g.n : Int) rfl (And.intro rfl rfl)) rfl ?_
    repeat refine SOp.mk _ _ (And.intro rfl rfl) rfl ?_
    refine SOp.mk _ _ (SZ.mk (g.n : Int) rfl <| SLt.mk (by simp) <| SMake.mk g.n rfl (by show g.n * 8 ≤ _; omega) (by omega) (And.intro rfl rfl)) rfl ?_
    repeat refine SOp.mk _ _ (And.intro rfl rfl) rfl ?_
    refine SOp.mk _ _ (SCall.pure (kzero_ok) (And.intro rfl rfl)) rfl ?_
    repeat refine SOp.mk _ _ (And.intro rfl rfl) rfl ?_
    refine SFin.mk (by kernel_rfl) ?_
    refine SZ.mk (g.n : Int) rfl ?_
    refine SLoop.mk (Nat × (Nat → Nat)) (fun (i, s) => ([(2, .bptr 5 0), (5, .bptr 0 0), (39, .p (.int .i64 g.n)), (40, .p (.int .i64 (i : Nat)))],
        [.box 74 (gwA g.n 0), .rows 24 (plc 2 g.n g.n id), .pool 31 3 (plr g.n g.n (ent g)), .vec 3 1 (permP g.n s), .map [], .box 33 zpartA]))
      (fun (i, s) => i ≤ g.n ∧ ∀ t, t < g.n → s t = if t < i then t else 0) (fun x => g.n - x.1) (0, fun t => if t < 0 then t else 0) [6, 2, 3, 4, 5, 1] ⟨Nat.zero_le _, fun t _ => rfl⟩
      ⟨rfl, by simp, rfl, rfl, rfl, ⟨rfl, rfl, rfl, rfl, trivial⟩, ⟨rfl, congrArg _ (plc_ren 3 rfl (by decide)), rfl, congrArg _ perm0.symm, rfl, rfl, rows_in fun q hq => by simpa [plenAt] using hq, trivial⟩⟩ ?_
    intro ⟨i, s⟩ ⟨hi, hs⟩
    by_cases hin : i < g.n
    · refine SCmp.yes (decide_eq_true (by omega)) ?_
      refine SPos.mk i rfl hin ?_
      refine SLt.perm hin ?_
      refine SEs.perm ?_
      refine SWrap.i64z ((i + 1 : Nat) : Int) (by omega) (by omega) ?_
      refine ⟨(i + 1, _), [0, 1, 2, 3, 4, 5], ⟨hin, fun t ht => ?_⟩, by show g.n - (i + 1) < g.n - i; omega, ⟨rfl, by simp, rfl, rfl, rfl, ⟨rfl, rfl, rfl, rfl, trivial⟩, ⟨rfl, congrArg _ (plc_ren 2 rfl (by decide)), rfl, rfl, rfl, rfl, rows_in fun q hq => by simpa [plenAt] using hq, trivial⟩⟩⟩
      show upd s (i + 0) i t = _
      unfold upd
      by_cases e : t = i
      · rw [if_pos (by omega), if_pos (by omega), e]
      · rw [if_neg (by omega), hs t ht]
        by_cases e2 : t < i
        · rw [if_pos e2, if_pos (by omega)]
        · rw [if_neg e2, if_neg (by omega)]
    refine SCmp.no (decide_eq_false (by omega)) ?_
    obtain rfl : i = g.n := by omega
    have es : permP g.n s = permP g.n id := permP_congr fun t ht => by rw [hs t ht, if_pos ht]; rfl
    refine SCall.gw (glook_ok g.n 0 (ent g) (ent g) id [] 0 (Nat.zero_le _) (by omega) (fun i hi => hi) (fun _ _ _ _ => rfl) (hB 0 (Nat.zero_le _)) (bz_zero.mono h1) (by omega) (fun e he => by simp at he)) (fun _ => rfl) (by decide) ⟨rfl, fun _ => rfl⟩ ⟨rfl, fun _ => rfl⟩ ⟨rfl, fun _ => rfl⟩ ⟨congrArg (Blk.vec 3 1) es, fun _ => rfl⟩ ⟨rfl, fun _ => rfl⟩ ?_
    refine SZ.mk (g.n : Int) rfl ?_
    refine SLoop.mk (Nat × (Nat → Nat → Rat)) (fun (k, G) => ([(2, .bptr 5 0), (5, .bptr 0 0), (7, .bptr 6 0), (61, .p (.int .i64 g.n)), (62, .p (.int .i64 (k : Nat)))],
        gwB g.n G (gk g.n (ent g) k).s (gtk g.n (ent g) k) (ggr g.n (ent g) k) ++ [.box 33 zpartA, .box 31 (bxQ (ggr g.n (ent g) 0))]))
      (fun (k, G) => k ≤ g.n ∧ ∀ i j, i < g.n → j < g.n → G ((gk g.n (ent g) k).s i) j = (gk g.n (ent g) k).B i j) (fun x => g.n - x.1) (0, ent g) [0, 1, 2, 3, 4, 5, 6] ⟨Nat.zero_le _, fun _ _ _ _ => rfl⟩
      ⟨rfl, by simp, rfl, rfl, rfl, ⟨rfl, rfl, rfl, rfl, rfl, trivial⟩, ⟨rfl, congrArg _ (plc_ren 2 rfl (by decide)), rfl, rfl, rfl, rfl, rfl, rows_in (s := id) fun q hq => by simpa [plenAt] using hq, trivial⟩⟩ ?_
    intro ⟨k, G⟩ ⟨hkn, hG⟩
    obtain ⟨r1, r2, r3⟩ := gk_perm (n := g.n) (A := ent g) k (by omega)
    have zr := ggr_bz hB h1 k (by omega)
    by_cases hkn2 : k < g.n
    · refine SCmp.yes (decide_eq_true (by omega)) ?_
      refine SCall.gw (glook_ok g.n k G (gk g.n (ent g) k).B (gk g.n (ent g) k).s (gtk g.n (ent g) k) (ggr g.n (ent g) k) (by omega) (by omega) r1 hG (hB k (by omega)) zr (by omega) (gtk_key k).pers)
        (fun _ => rfl) (by decide) ⟨rfl, fun _ => rfl⟩ ⟨rfl, fun _ => rfl⟩ ⟨rfl, fun _ => rfl⟩ ⟨rfl, fun _ => rfl⟩ ⟨rfl, fun _ => rfl⟩ ?_
      refine SCall.gw (gpick_ok g.n k G (gk g.n (ent g) k).B (gk g.n (ent g) k).s (gtk g.n (ent g) k) (ggr g.n (ent g) (k + 1)) true (by omega) (by omega) r1 hG (hB k (by omega)) (by omega) (gtk_key k).pers ((decide_eq_true (by rw [← gpiv_eq]; exact hp k hkn2)).symm))
        (fun _ => rfl) (by decide) ⟨rfl, fun _ => rfl⟩ ⟨rfl, fun _ => rfl⟩ ⟨rfl, fun _ => rfl⟩ ⟨rfl, fun _ => rfl⟩ ⟨rfl, fun _ => rfl⟩ ?_
      refine SCmp.no (rfl) ?_
      obtain ⟨si, hsi⟩ := gw_inv (n := g.n) (A := ent g) (k := k + 1) (by omega)
      obtain ⟨q1, q2, _⟩ := gk_perm (n := g.n) (A := ent g) (k + 1) (by omega)
      refine SCall.gw (gclean_ok g.n k G (gkP g.n (ent g) k) (gk g.n (ent g) (k + 1)).s si (gtk g.n (ent g) k) (ggr g.n (ent g) (k + 1)) (by omega) (by omega) q1 q2 hsi (gw_swp (by omega) hG) (hB.P (by omega)) (by omega) (hp k hkn2) (gtk_key k))
        (fun _ => rfl) (by decide) ⟨rfl, fun _ => rfl⟩ ⟨rfl, fun _ => rfl⟩ ⟨rfl, fun _ => rfl⟩ ⟨rfl, fun _ => rfl⟩ ⟨rfl, fun _ => rfl⟩ ?_
      refine SWrap.i64z ((k + 1 : Nat) : Int) (by omega) (by omega) ?_
      exact ⟨(k + 1, fun r j => redA (gkP g.n (ent g) k) k (si r) j), [0, 1, 2, 3, 4, 5, 6], ⟨by omega, gw_next (by omega) hsi⟩, by show g.n - (k + 1) < g.n - k; omega, ⟨rfl, by simp, rfl, rfl, rfl, ⟨rfl, rfl, rfl, rfl, rfl, trivial⟩, ⟨rfl, congrArg _ (plc_ren 2 rfl (by decide)), rfl, rfl, rfl, rfl, rfl, rows_in fun q hq => by simpa [plenAt] using q1 q hq, trivial⟩⟩⟩
    · refine SCmp.no (decide_eq_false (by omega)) ?_
      obtain rfl : k = g.n := by omega
      have r1 : ∀ i, i < g.n → gO g.n (ent g) i < g.n := r1
      have own := gown_ok true true g.n (fun i => G (gO g.n (ent g) i)) n1 (by omega) (fun i j hi hj => by
        have e : G (gO g.n (ent g) i) j = (gk g.n (ent g) g.n).B i j := hG i j hi hj
        rw [e]; exact hB g.n (Nat.le_refl _) i j hi hj) (by omega)
      have eU : matP false false g.n g.n (fun i => G (gO g.n (ent g) i)) = matP false false g.n g.n (gU g.n (ent g)) := matP_congr fun i j hi hj => hG i j hi hj
      rw [eU] at own
      refine SDraw.mkX (by kernel_rfl) ?_
      repeat refine SOp.mk _ _ (And.intro rfl rfl) rfl ?_
      refine SOp.mk _ _ (SLendR.plc rfl r1 <| SCall.pure own (And.intro rfl rfl)) rfl ?_
      repeat refine SOp.mk _ _ (And.intro rfl rfl) rfl ?_
      refine SFin.mk (by kernel_rfl) ?_
      refine SZ.mk (g.n : Int) rfl ?_
      refine SLoop.mkT Nat (fun i => match i with
          | 0 => ([(2, .bptr 5 0), (5, .bptr 0 0), (7, .bptr 6 0), (9, .bptr 7 0), (91, .p (.int .i64 g.n)), (92, .p (.int .i64 0))],
            gwB g.n G (gO g.n (ent g)) (gtk g.n (ent g) g.n) (ggr g.n (ent g) g.n) ++ ([Blk.box 33 zpartA, Blk.box 31 (bxQ (ggr g.n (ent g) 0)), Blk.box 33 [.vec (.t 3) 1 0 g.n, .p (.raw (.slice none 0 0)), .p (matP false false g.n g.n (gU g.n (ent g))), .p (.bool false), .p (.sl false 1 []), .p (.sl false 1 [])], Blk.pool 31 3 (plr 0 g.n (gL g.n (ent g)))] : List Blk))
          | i + 1 => ([(2, .bptr 5 0), (5, .bptr 0 0), (7, .bptr 6 0), (9, .bptr 7 0), (91, .p (.int .i64 g.n)), (92, .p (.int .i64 ((i + 1 : Nat) : Int)))],
            gwB g.n G (gO g.n (ent g)) (gtk g.n (ent g) g.n) (ggr g.n (ent g) g.n) ++ ([Blk.box 33 zpartA, Blk.box 31 (bxQ (ggr g.n (ent g) 0)), Blk.box 33 [.vec (.t 3) 1 0 g.n, .vec (.t 9) 1 0 (i + 1), .p (matP false false g.n g.n (gU g.n (ent g))), .p (.bool false), .p (.sl false 1 []), .p (.sl false 1 [])], Blk.pool 31 3 (plr (i + 1) g.n (gL g.n (ent g))), Blk.rows 24 (plc 8 g.n (i + 1) id)] : List Blk)))
        (fun i => i ≤ g.n) (fun i => g.n - i) 0 [0, 1, 2, 3, 4, 5, 6, 7, 8] _ _ (.pool 31 3 (.done _ _)) (Nat.zero_le _) ⟨rfl, by simp, rfl, rfl, rfl, ⟨rfl, rfl, rfl, rfl, rfl, rfl, trivial⟩, ⟨rfl, congrArg _ (plc_ren 2 rfl (by decide)), rfl, rfl, rfl, rfl, rfl, rfl, rfl, rows_in fun q hq => by simpa [plenAt] using r1 q hq, trivial⟩⟩ ?_
      intro i hi
      match i, hi with
      | 0, hi =>
        refine SCmp.yes (decide_eq_true (by omega)) ?_
        refine SZ.mk (g.n : Int) rfl ?_
        refine SZ.mk (g.n : Int) rfl ?_
        refine SLt.mk (by simp) ?_
        refine SMake.rat g.n rfl (by omega) ?_
        refine SZ.mk (g.n : Int) rfl ?_
        refine SLoop.mk Nat (fun j => ([(2, .bptr 5 0), (5, .bptr 0 0), (7, .bptr 6 0), (9, .bptr 7 0), (10, .p (.int .i64 0)), (11, .vec 9 3 0 g.n), (91, .p (.int .i64 g.n)), (92, .p (.int .i64 0)), (102, .p (.int .i64 g.n)), (103, .p (.int .i64 (j : Nat)))],
            gwB g.n G (gO g.n (ent g)) (gtk g.n (ent g) g.n) (ggr g.n (ent g) g.n) ++ ([Blk.box 33 zpartA, Blk.box 31 (bxQ (ggr g.n (ent g) 0)), Blk.box 33 [.vec (.t 3) 1 0 g.n, .p (.raw (.slice none 0 0)), .p (matP false false g.n g.n (gU g.n (ent g))), .p (.bool false), .p (.sl false 1 []), .p (.sl false 1 [])], Blk.pool 31 3 (plr 0 g.n (gL g.n (ent g))),Blk.vec 31 3 (fl g.n fun k => if k < j then ratP (gL g.n (ent g) (0) k) else rat0)] : List Blk)))
          (fun j => j ≤ g.n) (fun j => g.n - j) 0 [0, 1, 2, 3, 4, 5, 6, 7, 8, 9] (Nat.zero_le _) ⟨rfl, by simp, rfl, rfl, rfl, ⟨rfl, rfl, rfl, rfl, rfl, rfl, rfl, rfl, rfl, rfl, trivial⟩, ⟨rfl, congrArg _ (plc_ren 2 rfl (by decide)), rfl, rfl, rfl, rfl, rfl, rfl, rfl,congrArg _ ((fl_congr fun k hk => if_neg (by omega)).trans (replicate_fl g.n rat0).symm), rows_in fun q hq => by simpa [plenAt] using r1 q hq, trivial⟩⟩ ?_
        intro j hj
        have hj : j ≤ g.n := hj
        by_cases hjn : j < g.n
        · refine SCmp.yes (decide_eq_true (by omega)) ?_
          have low := glower_ok g.n (ent g) (fl g.n fun i => ratsM true (lst g.n (G (gO g.n (ent g) i)))) (ggr g.n (ent g) g.n) (0) j (by omega) hjn (zL (0) j (by omega)) (by omega)
          refine SLendR.plc rfl r1 ?_
          refine SView.all (by simp) ?_
          refine SCall.pure (low) ?_
          refine SPos.mk j rfl hjn ?_
          refine SLt.mk (by simp; omega) <| SEs.mk _ (row_step hjn) ?_
          refine SWrap.i64z ((j + 1 : Nat) : Int) (by omega) (by omega) ?_
          exact ⟨j + 1, [0, 1, 2, 3, 4, 5, 6, 7, 8, 9], hjn, by show g.n - (j + 1) < g.n - j; omega, ⟨rfl, by simp, rfl, rfl, rfl, ⟨rfl, rfl, rfl, rfl, rfl, rfl, rfl, rfl, rfl, rfl, trivial⟩, ⟨rfl, congrArg _ (plc_ren 2 rfl (by decide)), rfl, rfl, rfl, rfl, rfl, rfl, rfl,rfl, rows_in fun q hq => by simpa [plenAt] using r1 q hq, trivial⟩⟩⟩
        · refine SCmp.no (decide_eq_false (by omega)) ?_
          obtain rfl : j = g.n := by omega
          refine SRoom.mk (by simp) (by simp) ?_
          refine SWrap.i64z ((0 + 1 : Nat) : Int) (by omega) (by omega) ?_
          exact ⟨1, [0, 1, 2, 3, 4, 5, 6, 7, 10008, 11], n1, by show g.n - 1 < g.n - 0; omega, ⟨rfl, by simp, rfl, rfl, rfl, ⟨rfl, rfl, rfl, rfl, rfl, rfl, trivial⟩, ⟨rfl, congrArg _ (plc_ren 2 rfl (by decide)), rfl, rfl, rfl, rfl, rfl, rfl, ⟨_, _, _, _, rfl, rfl, congrArg _ (plr_snoc.trans (congrArg (fun r => plr 0 g.n (gL g.n (ent g)) ++ [some r]) row_full))⟩, congrArg _ (plc_absorb (p' := 8) (q := 9) (c := g.n) (k := 0) rfl (by decide) (by simp [plenAt])), rows_in fun q hq => by simpa [plenAt] using r1 q hq, rows_in fun q hq => by simpa [plenAt] using hq, trivial⟩⟩⟩
      | i + 1, hi =>
        have hi : i + 1 ≤ g.n := hi
        by_cases hin : i + 1 < g.n
        · refine SCmp.yes (decide_eq_true (by omega)) ?_
          refine SZ.mk (g.n : Int) rfl ?_
          refine SZ.mk (g.n : Int) rfl ?_
          refine SLt.mk (by simp) ?_
          refine SMake.rat g.n rfl (by omega) ?_
          refine SZ.mk (g.n : Int) rfl ?_
          refine SLoop.mk Nat (fun j => ([(2, .bptr 5 0), (5, .bptr 0 0), (7, .bptr 6 0), (9, .bptr 7 0), (10, .p (.int .i64 ((i + 1 : Nat) : Int))), (11, .vec 10 3 0 g.n), (91, .p (.int .i64 g.n)), (92, .p (.int .i64 ((i + 1 : Nat) : Int))), (102, .p (.int .i64 g.n)), (103, .p (.int .i64 (j : Nat)))],
              gwB g.n G (gO g.n (ent g)) (gtk g.n (ent g) g.n) (ggr g.n (ent g) g.n) ++ ([Blk.box 33 zpartA, Blk.box 31 (bxQ (ggr g.n (ent g) 0)), Blk.box 33 [.vec (.t 3) 1 0 g.n, .vec (.t 9) 1 0 (i + 1), .p (matP false false g.n g.n (gU g.n (ent g))), .p (.bool false), .p (.sl false 1 []), .p (.sl false 1 [])], Blk.pool 31 3 (plr (i + 1) g.n (gL g.n (ent g))), Blk.rows 24 (plc 8 g.n (i + 1) id),Blk.vec 31 3 (fl g.n fun k => if k < j then ratP (gL g.n (ent g) (i + 1) k) else rat0)] : List Blk)))
            (fun j => j ≤ g.n) (fun j => g.n - j) 0 [0, 1, 2, 3, 4, 5, 6, 7, 8, 9, 10] (Nat.zero_le _) ⟨rfl, by simp, rfl, rfl, rfl, ⟨rfl, rfl, rfl, rfl, rfl, rfl, rfl, rfl, rfl, rfl, trivial⟩, ⟨rfl, congrArg _ (plc_ren 2 rfl (by decide)), rfl, rfl, rfl, rfl, rfl, rfl, rfl, congrArg _ (plc_ren 8 rfl (by decide)),congrArg _ ((fl_congr fun k hk => if_neg (by omega)).trans (replicate_fl g.n rat0).symm), rows_in fun q hq => by simpa [plenAt] using r1 q hq, rows_in fun q hq => by simpa [plenAt] using hq,trivial⟩⟩ ?_
          intro j hj
          have hj : j ≤ g.n := hj
          by_cases hjn : j < g.n
          · refine SCmp.yes (decide_eq_true (by omega)) ?_
            have low := glower_ok g.n (ent g) (fl g.n fun i => ratsM true (lst g.n (G (gO g.n (ent g) i)))) (ggr g.n (ent g) g.n) (i + 1) j (by omega) hjn (zL (i + 1) j (by omega)) (by omega)
            refine SLendR.plc rfl r1 ?_
            refine SView.all (by simp) ?_
            refine SCall.pure (low) ?_
            refine SPos.mk j rfl hjn ?_
            refine SLt.mk (by simp; omega) <| SEs.mk _ (row_step hjn) ?_
            refine SWrap.i64z ((j + 1 : Nat) : Int) (by omega) (by omega) ?_
            exact ⟨j + 1, [0, 1, 2, 3, 4, 5, 6, 7, 8, 9, 10], hjn, by show g.n - (j + 1) < g.n - j; omega, ⟨rfl, by simp, rfl, rfl, rfl, ⟨rfl, rfl, rfl, rfl, rfl, rfl, rfl, rfl, rfl, rfl, trivial⟩, ⟨rfl, congrArg _ (plc_ren 2 rfl (by decide)), rfl, rfl, rfl, rfl, rfl, rfl, rfl, congrArg _ (plc_ren 8 rfl (by decide)),rfl, rows_in fun q hq => by simpa [plenAt] using r1 q hq, rows_in fun q hq => by simpa [plenAt] using hq,trivial⟩⟩⟩
          · refine SCmp.no (decide_eq_false (by omega)) ?_
            obtain rfl : j = g.n := by omega
            refine SEqN.mk (by simp) ?_
            refine SRoom.mk (by simp; omega) (by simp; omega) ?_
            refine SAs.mk _ rfl ?_
            refine SZN.mk (i + 1 + 1) (by simp) ?_
            refine SWrap.i64z ((i + 1 + 1 : Nat) : Int) (by omega) (by omega) ?_
            exact ⟨i + 1 + 1, [0, 1, 2, 3, 4, 5, 6, 7, 11008, 12], hin, by show g.n - (i + 1 + 1) < g.n - (i + 1); omega, ⟨rfl, by simp, rfl, rfl, rfl, ⟨rfl, rfl, rfl, rfl, rfl, rfl, trivial⟩, ⟨rfl, congrArg _ (plc_ren 2 rfl (by decide)), rfl, rfl, rfl, rfl, rfl, rfl, ⟨_, _, _, _, rfl, rfl, congrArg _ (plr_snoc.trans (congrArg (fun r => plr (i + 1) g.n (gL g.n (ent g)) ++ [some r]) row_full))⟩, congrArg _ (plc_absorb (p' := 8) (q := 10) (c := g.n) (k := i + 1) rfl (by decide) (by simp [plenAt])), rows_in fun q hq => by simpa [plenAt] using r1 q hq, rows_in fun q hq => by simpa [plenAt] using hq, trivial⟩⟩⟩
        · refine SCmp.no (decide_eq_false (by omega)) ?_
          have hn : i + 1 = g.n := by omega
          have z0 : ggr g.n (ent g) 0 ≠ 0 := fun e => by have := ggr_pos n1 (hp 0 n1); rw [e] at this; exact absurd this (by decide)
          have gq := quo_ok (ggr g.n (ent g) g.n) (ggr g.n (ent g) 0) z0 (ggr_bz hB h1 g.n (Nat.le_refl _)).sz (ggr_bz hB h1 0 (Nat.zero_le _)).sz (by omega)
          refine SDraw.mkX (by kernel_rfl) ?_
          repeat refine SOp.mk _ _ (And.intro rfl rfl) rfl ?_
          refine SOp.mk _ _ (SCall.pureT (gq) (fun _ => rfl) (And.intro rfl rfl)) rfl ?_
          repeat refine SOp.mk _ _ (And.intro rfl rfl) rfl ?_
          refine SFin.mk (by kernel_rfl) ?_
          have eL : matP false false g.n g.n (gL g.n (ent g)) = matP false false (i + 1) g.n (gL g.n (ent g)) := by rw [hn]
          refine SRet.pure (.tup rfl fun a c d e1 e2 => ?_)
          match a, e1, e2 with
          | 0, e1, e2 =>
            cases e1; cases e2
            refine .aggp (ps := partC g.n (ent g)) (fun d hd => by simp only [partC, List.mem_cons, List.not_mem_nil, or_false] at hd; rcases hd with rfl | rfl | rfl | rfl | rfl | rfl <;> rfl) rfl fun a c d e1 e2 => ?_
            match a, e1, e2 with
            | 0, e1, e2 => cases e1; cases e2; exact .frz (h := .t 3) rfl (by simp) (by simp) pers_perm (by rw [List.drop_zero]; exact List.take_of_length_le (by simp))
            | 1, e1, e2 => cases e1; cases e2; rw [eL]; exact frzM (h := 9) (p := 8) rfl rfl fun q hq => hq
            | 2, e1, e2 => cases e1; cases e2; exact .p _ pers_matP
            | 3, e1, e2 => cases e1; cases e2; exact .p _ (.bool _)
            | 4, e1, e2 => cases e1; cases e2; exact .p _ (.sl _ _ (pers_limbs _))
            | 5, e1, e2 => cases e1; cases e2; exact .p _ (.sl _ _ (pers_limbs _))
          | 1, e1, e2 => cases e1; cases e2; exact .p _ (.int _ _)
  · refine callG_of_vc (wr := wrK) Γok mixed Tryz.func11 (by kernel_rfl) rfl (by kernel_rfl) (le_of_ble rfl) (by simp) ?_
    refine SCmp.yes (neT (by rw [e]; decide)) ?_
    refine SCmp.no (neF (by rw [e]; rfl)) ?_
    refine SCall.mtx (gexpandO_ok m g h) ?_
    refine SNil.mk (fun _ => ?_) (fun h => absurd h (by omega))
    refine SDraw.mkX (by kernel_rfl) ?_
    repeat refine SOp.mk _ _ (And.intro rfl rfl) rfl ?_
    refine SOp.mk _ _ (SZ.mk (g.n : Int) rfl (And.intro rfl rfl)) rfl ?_
    repeat refine SOp.mk _ _ (And.intro rfl rfl) rfl ?_
    refine SOp.mk _ _ (SZ.mk (g.n : Int) rfl <| SLt.mk (by simp) <| SMake.mk g.n rfl (by show g.n * 8 ≤ _; omega) (by omega) (And.intro rfl rfl)) rfl ?_
    repeat refine SOp.mk _ _ (And.intro rfl rfl) rfl ?_
    refine SOp.mk _ _ (SCall.pure (kzero_ok) (And.intro rfl rfl)) rfl ?_
    repeat refine SOp.mk _ _ (And.intro rfl rfl) rfl ?_
    refine SFin.mk (by kernel_rfl) ?_
    refine SZ.mk (g.n : Int) rfl ?_
    refine SLoop.mk (Nat × (Nat → Nat)) (fun (i, s) => ([(2, .bptr 5 0), (5, .bptr 0 0), (39, .p (.int .i64 g.n)), (40, .p (.int .i64 (i : Nat)))],
        [.box 74 (gwA g.n 0), .rows 24 (plc 2 g.n g.n id), .pool 31 3 (plr g.n g.n (ent g)), .vec 3 1 (permP g.n s), .map [], .box 33 zpartA]))
      (fun (i, s) => i ≤ g.n ∧ ∀ t, t < g.n → s t = if t < i then t else 0) (fun x => g.n - x.1) (0, fun t => if t < 0 then t else 0) [6, 2, 3, 4, 5, 1] ⟨Nat.zero_le _, fun t _ => rfl⟩
      ⟨rfl, by simp, rfl, rfl, rfl, ⟨rfl, rfl, rfl, rfl, trivial⟩, ⟨rfl, congrArg _ (plc_ren 3 rfl (by decide)), rfl, congrArg _ perm0.symm, rfl, rfl, rows_in fun q hq => by simpa [plenAt] using hq, trivial⟩⟩ ?_
    intro ⟨i, s⟩ ⟨hi, hs⟩
    by_cases hin : i < g.n
    · refine SCmp.yes (decide_eq_true (by omega)) ?_
      refine SPos.mk i rfl hin ?_
      refine SLt.perm hin ?_
      refine SEs.perm ?_
      refine SWrap.i64z ((i + 1 : Nat) : Int) (by omega) (by omega) ?_
      refine ⟨(i + 1, _), [0, 1, 2, 3, 4, 5], ⟨hin, fun t ht => ?_⟩, by show g.n - (i + 1) < g.n - i; omega, ⟨rfl, by simp, rfl, rfl, rfl, ⟨rfl, rfl, rfl, rfl, trivial⟩, ⟨rfl, congrArg _ (plc_ren 2 rfl (by decide)), rfl, rfl, rfl, rfl, rows_in fun q hq => by simpa [plenAt] using hq, trivial⟩⟩⟩
      show upd s (i + 0) i t = _
      unfold upd
      by_cases e : t = i
      · rw [if_pos (by omega), if_pos (by omega), e]
      · rw [if_neg (by omega), hs t ht]
        by_cases e2 : t < i
        · rw [if_pos e2, if_pos (by omega)]
        · rw [if_neg e2, if_neg (by omega)]
    refine SCmp.no (decide_eq_false (by omega)) ?_
    obtain rfl : i = g.n := by omega
    have es : permP g.n s = permP g.n id := permP_congr fun t ht => by rw [hs t ht, if_pos ht]; rfl
    refine SCall.gw (glook_ok g.n 0 (ent g) (ent g) id [] 0 (Nat.zero_le _) (by omega) (fun i hi => hi) (fun _ _ _ _ => rfl) (hB 0 (Nat.zero_le _)) (bz_zero.mono h1) (by omega) (fun e he => by simp at he)) (fun _ => rfl) (by decide) ⟨rfl, fun _ => rfl⟩ ⟨rfl, fun _ => rfl⟩ ⟨rfl, fun _ => rfl⟩ ⟨congrArg (Blk.vec 3 1) es, fun _ => rfl⟩ ⟨rfl, fun _ => rfl⟩ ?_
    refine SZ.mk (g.n : Int) rfl ?_
    refine SLoop.mk (Nat × (Nat → Nat → Rat)) (fun (k, G) => ([(2, .bptr 5 0), (5, .bptr 0 0), (7, .bptr 6 0), (61, .p (.int .i64 g.n)), (62, .p (.int .i64 (k : Nat)))],
        gwB g.n G (gk g.n (ent g) k).s (gtk g.n (ent g) k) (ggr g.n (ent g) k) ++ [.box 33 zpartA, .box 31 (bxQ (ggr g.n (ent g) 0))]))
      (fun (k, G) => k ≤ g.n ∧ ∀ i j, i < g.n → j < g.n → G ((gk g.n (ent g) k).s i) j = (gk g.n (ent g) k).B i j) (fun x => g.n - x.1) (0, ent g) [0, 1, 2, 3, 4, 5, 6] ⟨Nat.zero_le _, fun _ _ _ _ => rfl⟩
      ⟨rfl, by simp, rfl, rfl, rfl, ⟨rfl, rfl, rfl, rfl, rfl, trivial⟩, ⟨rfl, congrArg _ (plc_ren 2 rfl (by decide)), rfl, rfl, rfl, rfl, rfl, rows_in (s := id) fun q hq => by simpa [plenAt] using hq, trivial⟩⟩ ?_
    intro ⟨k, G⟩ ⟨hkn, hG⟩
    obtain ⟨r1, r2, r3⟩ := gk_perm (n := g.n) (A := ent g) k (by omega)
    have zr := ggr_bz hB h1 k (by omega)
    by_cases hkn2 : k < g.n
    · refine SCmp.yes (decide_eq_true (by omega)) ?_
      refine SCall.gw (glook_ok g.n k G (gk g.n (ent g) k).B (gk g.n (ent g) k).s (gtk g.n (ent g) k) (ggr g.n (ent g) k) (by omega) (by omega) r1 hG (hB k (by omega)) zr (by omega) (gtk_key k).pers)
        (fun _ => rfl) (by decide) ⟨rfl, fun _ => rfl⟩ ⟨rfl, fun _ => rfl⟩ ⟨rfl, fun _ => rfl⟩ ⟨rfl, fun _ => rfl⟩ ⟨rfl, fun _ => rfl⟩ ?_
      refine SCall.gw (gpick_ok g.n k G (gk g.n (ent g) k).B (gk g.n (ent g) k).s (gtk g.n (ent g) k) (ggr g.n (ent g) (k + 1)) true (by omega) (by omega) r1 hG (hB k (by omega)) (by omega) (gtk_key k).pers ((decide_eq_true (by rw [← gpiv_eq]; exact hp k hkn2)).symm))
        (fun _ => rfl) (by decide) ⟨rfl, fun _ => rfl⟩ ⟨rfl, fun _ => rfl⟩ ⟨rfl, fun _ => rfl⟩ ⟨rfl, fun _ => rfl⟩ ⟨rfl, fun _ => rfl⟩ ?_
      refine SCmp.no (rfl) ?_
      obtain ⟨si, hsi⟩ := gw_inv (n := g.n) (A := ent g) (k := k + 1) (by omega)
      obtain ⟨q1, q2, _⟩ := gk_perm (n := g.n) (A := ent g) (k + 1) (by omega)
      refine SCall.gw (gclean_ok g.n k G (gkP g.n (ent g) k) (gk g.n (ent g) (k + 1)).s si (gtk g.n (ent g) k) (ggr g.n (ent g) (k + 1)) (by omega) (by omega) q1 q2 hsi (gw_swp (by omega) hG) (hB.P (by omega)) (by omega) (hp k hkn2) (gtk_key k))
        (fun _ => rfl) (by decide) ⟨rfl, fun _ => rfl⟩ ⟨rfl, fun _ => rfl⟩ ⟨rfl, fun _ => rfl⟩ ⟨rfl, fun _ => rfl⟩ ⟨rfl, fun _ => rfl⟩ ?_
      refine SWrap.i64z ((k + 1 : Nat) : Int) (by omega) (by omega) ?_
      exact ⟨(k + 1, fun r j => redA (gkP g.n (ent g) k) k (si r) j), [0, 1, 2, 3, 4, 5, 6], ⟨by omega, gw_next (by omega) hsi⟩, by show g.n - (k + 1) < g.n - k; omega, ⟨rfl, by simp, rfl, rfl, rfl, ⟨rfl, rfl, rfl, rfl, rfl, trivial⟩, ⟨rfl, congrArg _ (plc_ren 2 rfl (by decide)), rfl, rfl, rfl, rfl, rfl, rows_in fun q hq => by simpa [plenAt] using q1 q hq, trivial⟩⟩⟩
    · refine SCmp.no (decide_eq_false (by omega)) ?_
      obtain rfl : k = g.n := by omega
      have r1 : ∀ i, i < g.n → gO g.n (ent g) i < g.n := r1
      have own := gown_ok true true g.n (fun i => G (gO g.n (ent g) i)) n1 (by omega) (fun i j hi hj => by
        have e : G (gO g.n (ent g) i) j = (gk g.n (ent g) g.n).B i j := hG i j hi hj
        rw [e]; exact hB g.n (Nat.le_refl _) i j hi hj) (by omega)
      have eU : matP false false g.n g.n (fun i => G (gO g.n (ent g) i)) = matP false false g.n g.n (gU g.n (ent g)) := matP_congr fun i j hi hj => hG i j hi hj
      rw [eU] at own
      refine SDraw.mkX (by kernel_rfl) ?_
      repeat refine SOp.mk _ _ (And.intro rfl rfl) rfl ?_
      refine SOp.mk _ _ (SLendR.plc rfl r1 <| SCall.pure own (And.intro rfl rfl)) rfl ?_
      repeat refine SOp.mk _ _ (And.intro rfl rfl) rfl ?_
      refine SFin.mk (by kernel_rfl) ?_
      refine SZ.mk (g.n : Int) rfl ?_
      refine SLoop.mkT Nat (fun i => match i with
          | 0 => ([(2, .bptr 5 0), (5, .bptr 0 0), (7, .bptr 6 0), (9, .bptr 7 0), (91, .p (.int .i64 g.n)), (92, .p (.int .i64 0))],
            gwB g.n G (gO g.n (ent g)) (gtk g.n (ent g) g.n) (ggr g.n (ent g) g.n) ++ ([Blk.box 33 zpartA, Blk.box 31 (bxQ (ggr g.n (ent g) 0)), Blk.box 33 [.vec (.t 3) 1 0 g.n, .p (.raw (.slice none 0 0)), .p (matP false false g.n g.n (gU g.n (ent g))), .p (.bool false), .p (.sl false 1 []), .p (.sl false 1 [])], Blk.pool 31 3 (plr 0 g.n (gL g.n (ent g)))] : List Blk))
          | i + 1 => ([(2, .bptr 5 0), (5, .bptr 0 0), (7, .bptr 6 0), (9, .bptr 7 0), (91, .p (.int .i64 g.n)), (92, .p (.int .i64 ((i + 1 : Nat) : Int)))],
            gwB g.n G (gO g.n (ent g)) (gtk g.n (ent g) g.n) (ggr g.n (ent g) g.n) ++ ([Blk.box 33 zpartA, Blk.box 31 (bxQ (ggr g.n (ent g) 0)), Blk.box 33 [.vec (.t 3) 1 0 g.n, .vec (.t 9) 1 0 (i + 1), .p (matP false false g.n g.n (gU g.n (ent g))), .p (.bool false), .p (.sl false 1 []), .p (.sl false 1 [])], Blk.pool 31 3 (plr (i + 1) g.n (gL g.n (ent g))), Blk.rows 24 (plc 8 g.n (i + 1) id)] : List Blk)))
        (fun i => i ≤ g.n) (fun i => g.n - i) 0 [0, 1, 2, 3, 4, 5, 6, 7, 8] _ _ (.pool 31 3 (.done _ _)) (Nat.zero_le _) ⟨rfl, by simp, rfl, rfl, rfl, ⟨rfl, rfl, rfl, rfl, rfl, rfl, trivial⟩, ⟨rfl, congrArg _ (plc_ren 2 rfl (by decide)), rfl, rfl, rfl, rfl, rfl, rfl, rfl, rows_in fun q hq => by simpa [plenAt] using r1 q hq, trivial⟩⟩ ?_
      intro i hi
      match i, hi with
      | 0, hi =>
        refine SCmp.yes (decide_eq_true (by omega)) ?_
        refine SZ.mk (g.n : Int) rfl ?_
        refine SZ.mk (g.n : Int) rfl ?_
        refine SLt.mk (by simp) ?_
        refine SMake.rat g.n rfl (by omega) ?_
        refine SZ.mk (g.n : Int) rfl ?_
        refine SLoop.mk Nat (fun j => ([(2, .bptr 5 0), (5, .bptr 0 0), (7, .bptr 6 0), (9, .bptr 7 0), (10, .p (.int .i64 0)), (11, .vec 9 3 0 g.n), (91, .p (.int .i64 g.n)), (92, .p (.int .i64 0)), (102, .p (.int .i64 g.n)), (103, .p (.int .i64 (j : Nat)))],
            gwB g.n G (gO g.n (ent g)) (gtk g.n (ent g) g.n) (ggr g.n (ent g) g.n) ++ ([Blk.box 33 zpartA, Blk.box 31 (bxQ (ggr g.n (ent g) 0)), Blk.box 33 [.vec (.t 3) 1 0 g.n, .p (.raw (.slice none 0 0)), .p (matP false false g.n g.n (gU g.n (ent g))), .p (.bool false), .p (.sl false 1 []), .p (.sl false 1 [])], Blk.pool 31 3 (plr 0 g.n (gL g.n (ent g))),Blk.vec 31 3 (fl g.n fun k => if k < j then ratP (gL g.n (ent g) (0) k) else rat0)] : List Blk)))
          (fun j => j ≤ g.n) (fun j => g.n - j) 0 [0, 1, 2, 3, 4, 5, 6, 7, 8, 9] (Nat.zero_le _) ⟨rfl, by simp, rfl, rfl, rfl, ⟨rfl, rfl, rfl, rfl, rfl, rfl, rfl, rfl, rfl, rfl, trivial⟩, ⟨rfl, congrArg _ (plc_ren 2 rfl (by decide)), rfl, rfl, rfl, rfl, rfl, rfl, rfl,congrArg _ ((fl_congr fun k hk => if_neg (by omega)).trans (replicate_fl g.n rat0).symm), rows_in fun q hq => by simpa [plenAt] using r1 q hq, trivial⟩⟩ ?_
        intro j hj
        have hj : j ≤ g.n := hj
        by_cases hjn : j < g.n
        · refine SCmp.yes (decide_eq_true (by omega)) ?_
          have low := glower_ok g.n (ent g) (fl g.n fun i => ratsM true (lst g.n (G (gO g.n (ent g) i)))) (ggr g.n (ent g) g.n) (0) j (by omega) hjn (zL (0) j (by omega)) (by omega)
          refine SLendR.plc rfl r1 ?_
          refine SView.all (by simp) ?_
          refine SCall.pure (low) ?_
          refine SPos.mk j rfl hjn ?_
          refine SLt.mk (by simp; omega) <| SEs.mk _ (row_step hjn) ?_
          refine SWrap.i64z ((j + 1 : Nat) : Int) (by omega) (by omega) ?_
          exact ⟨j + 1, [0, 1, 2, 3, 4, 5, 6, 7, 8, 9], hjn, by show g.n - (j + 1) < g.n - j; omega, ⟨rfl, by simp, rfl, rfl, rfl, ⟨rfl, rfl, rfl, rfl, rfl, rfl, rfl, rfl, rfl, rfl, trivial⟩, ⟨rfl, congrArg _ (plc_ren 2 rfl (by decide)), rfl, rfl, rfl, rfl, rfl, rfl, rfl,rfl, rows_in fun q hq => by simpa [plenAt] using r1 q hq, trivial⟩⟩⟩
        · refine SCmp.no (decide_eq_false (by omega)) ?_
          obtain rfl : j = g.n := by omega
          refine SRoom.mk (by simp) (by simp) ?_
          refine SWrap.i64z ((0 + 1 : Nat) : Int) (by omega) (by omega) ?_
          exact ⟨1, [0, 1, 2, 3, 4, 5, 6, 7, 10008, 11], n1, by show g.n - 1 < g.n - 0; omega, ⟨rfl, by simp, rfl, rfl, rfl, ⟨rfl, rfl, rfl, rfl, rfl, rfl, trivial⟩, ⟨rfl, congrArg _ (plc_ren 2 rfl (by decide)), rfl, rfl, rfl, rfl, rfl, rfl, ⟨_, _, _, _, rfl, rfl, congrArg _ (plr_snoc.trans (congrArg (fun r => plr 0 g.n (gL g.n (ent g)) ++ [some r]) row_full))⟩, congrArg _ (plc_absorb (p' := 8) (q := 9) (c := g.n) (k := 0) rfl (by decide) (by simp [plenAt])), rows_in fun q hq => by simpa [plenAt] using r1 q hq, rows_in fun q hq => by simpa [plenAt] using hq, trivial⟩⟩⟩
      | i + 1, hi =>
        have hi : i + 1 ≤ g.n := hi
        by_cases hin : i + 1 < g.n
        · refine SCmp.yes (decide_eq_true (by omega)) ?_
          refine SZ.mk (g.n : Int) rfl ?_
          refine SZ.mk (g.n : Int) rfl ?_
          refine SLt.mk (by simp) ?_
          refine SMake.rat g.n rfl (by omega) ?_
          refine SZ.mk (g.n : Int) rfl ?_
          refine SLoop.mk Nat (fun j => ([(2, .bptr 5 0), (5, .bptr 0 0), (7, .bptr 6 0), (9, .bptr 7 0), (10, .p (.int .i64 ((i + 1 : Nat) : Int))), (11, .vec 10 3 0 g.n), (91, .p (.int .i64 g.n)), (92, .p (.int .i64 ((i + 1 : Nat) : Int))), (102, .p (.int .i64 g.n)), (103, .p (.int .i64 (j : Nat)))],
              gwB g.n G (gO g.n (ent g)) (gtk g.n (ent g) g.n) (ggr g.n (ent g) g.n) ++ ([Blk.box 33 zpartA, Blk.box 31 (bxQ (ggr g.n (ent g) 0)), Blk.box 33 [.vec (.t 3) 1 0 g.n, .vec (.t 9) 1 0 (i + 1), .p (matP false false g.n g.n (gU g.n (ent g))), .p (.bool false), .p (.sl false 1 []), .p (.sl false 1 [])], Blk.pool 31 3 (plr (i + 1) g.n (gL g.n (ent g))), Blk.rows 24 (plc 8 g.n (i + 1) id),Blk.vec 31 3 (fl g.n fun k => if k < j then ratP (gL g.n (ent g) (i + 1) k) else rat0)] : List Blk)))
            (fun j => j ≤ g.n) (fun j => g.n - j) 0 [0, 1, 2, 3, 4, 5, 6, 7, 8, 9, 10] (Nat.zero_le _) ⟨rfl, by simp, rfl, rfl, rfl, ⟨rfl, rfl, rfl, rfl, rfl, rfl, rfl, rfl, rfl, rfl, trivial⟩, ⟨rfl, congrArg _ (plc_ren 2 rfl (by decide)), rfl, rfl, rfl, rfl, rfl, rfl, rfl, congrArg _ (plc_ren 8 rfl (by decide)),congrArg _ ((fl_congr fun k hk => if_neg (by omega)).trans (replicate_fl g.n rat0).symm), rows_in fun q hq => by simpa [plenAt] using r1 q hq, rows_in fun q hq => by simpa [plenAt] using hq,trivial⟩⟩ ?_
          intro j hj
          have hj : j ≤ g.n := hj
          by_cases hjn : j < g.n
          · refine SCmp.yes (decide_eq_true (by omega)) ?_
            have low := glower_ok g.n (ent g) (fl g.n fun i => ratsM true (lst g.n (G (gO g.n (ent g) i)))) (ggr g.n (ent g) g.n) (i + 1) j (by omega) hjn (zL (i + 1) j (by omega)) (by omega)
            refine SLendR.plc rfl r1 ?_
            refine SView.all (by simp) ?_
            refine SCall.pure (low) ?_
            refine SPos.mk j rfl hjn ?_
            refine SLt.mk (by simp; omega) <| SEs.mk _ (row_step hjn) ?_
            refine SWrap.i64z ((j + 1 : Nat) : Int) (by omega) (by omega) ?_
            exact ⟨j + 1, [0, 1, 2, 3, 4, 5, 6, 7, 8, 9, 10], hjn, by show g.n - (j + 1) < g.n - j; omega, ⟨rfl, by simp, rfl, rfl, rfl, ⟨rfl, rfl, rfl, rfl, rfl, rfl, rfl, rfl, rfl, rfl, trivial⟩, ⟨rfl, congrArg _ (plc_ren 2 rfl (by decide)), rfl, rfl, rfl, rfl, rfl, rfl, rfl, congrArg _ (plc_ren 8 rfl (by decide)),rfl, rows_in fun q hq => by simpa [plenAt] using r1 q hq, rows_in fun q hq => by simpa [plenAt] using hq,trivial⟩⟩⟩
          · refine SCmp.no (decide_eq_false (by omega)) ?_
            obtain rfl : j = g.n := by omega
            refine SEqN.mk (by simp) ?_
            refine SRoom.mk (by simp; omega) (by simp; omega) ?_
            refine SAs.mk _ rfl ?_
            refine SZN.mk (i + 1 + 1) (by simp) ?_
            refine SWrap.i64z ((i + 1 + 1 : Nat) : Int) (by omega) (by omega) ?_
            exact ⟨i + 1 + 1, [0, 1, 2, 3, 4, 5, 6, 7, 11008, 12], hin, by show g.n - (i + 1 + 1) < g.n - (i + 1); omega, ⟨rfl, by simp, rfl, rfl, rfl, ⟨rfl, rfl, rfl, rfl, rfl, rfl, trivial⟩, ⟨rfl, congrArg _ (plc_ren 2 rfl (by decide)), rfl, rfl, rfl, rfl, rfl, rfl, ⟨_, _, _, _, rfl, rfl, congrArg _ (plr_snoc.trans (congrArg (fun r => plr (i + 1) g.n (gL g.n (ent g)) ++ [some r]) row_full))⟩, congrArg _ (plc_absorb (p' := 8) (q := 10) (c := g.n) (k := i + 1) rfl (by decide) (by simp [plenAt])), rows_in fun q hq => by simpa [plenAt] using r1 q hq, rows_in fun q hq => by simpa [plenAt] using hq, trivial⟩⟩⟩
        · refine SCmp.no (decide_eq_false (by omega)) ?_
          have hn : i + 1 = g.n := by omega
          have z0 : ggr g.n (ent g) 0 ≠ 0 := fun e => by have := ggr_pos n1 (hp 0 n1); rw [e] at this; exact absurd this (by decide)
          have gq := quo_ok (ggr g.n (ent g) g.n) (ggr g.n (ent g) 0) z0 (ggr_bz hB h1 g.n (Nat.le_refl _)).sz (ggr_bz hB h1 0 (Nat.zero_le _)).sz (by omega)
          refine SDraw.mkX (by kernel_rfl) ?_
          repeat refine SOp.mk _ _ (And.intro rfl rfl) rfl ?_
          refine SOp.mk _ _ (SCall.pureT (gq) (fun _ => rfl) (And.intro rfl rfl)) rfl ?_
          repeat refine SOp.mk _ _ (And.intro rfl rfl) rfl ?_
          refine SFin.mk (by kernel_rfl) ?_
          have eL : matP false false g.n g.n (gL g.n (ent g)) = matP false false (i + 1) g.n (gL g.n (ent g)) := by rw [hn]
          refine SRet.pure (.tup rfl fun a c d e1 e2 => ?_)
          match a, e1, e2 with
          | 0, e1, e2 =>
            cases e1; cases e2
            refine .aggp (ps := partC g.n (ent g)) (fun d hd => by simp only [partC, List.mem_cons, List.not_mem_nil, or_false] at hd; rcases hd with rfl | rfl | rfl | rfl | rfl | rfl <;> rfl) rfl fun a c d e1 e2 => ?_
            match a, e1, e2 with
            | 0, e1, e2 => cases e1; cases e2; exact .frz (h := .t 3) rfl (by simp) (by simp) pers_perm (by rw [List.drop_zero]; exact List.take_of_length_le (by simp))
            | 1, e1, e2 => cases e1; cases e2; rw [eL]; exact frzM (h := 9) (p := 8) rfl rfl fun q hq => hq
            | 2, e1, e2 => cases e1; cases e2; exact .p _ pers_matP
            | 3, e1, e2 => cases e1; cases e2; exact .p _ (.bool _)
            | 4, e1, e2 => cases e1; cases e2; exact .p _ (.sl _ _ (pers_limbs _))
            | 5, e1, e2 => cases e1; cases e2; exact .p _ (.sl _ _ (pers_limbs _))
          | 1, e1, e2 => cases e1; cases e2; exact .p _ (.int _ _)
end Go.Proofs.YtjfcphohgicolaaGreat

namespace Go.Proofs.YtjfcphohgicolaaGreat
open Go
set_option linter.unusedVariables false
set_option linter.unusedSimpArgs false
set_option maxRecDepth 10000
theorem gpiv_cases (n : Nat) (A : Nat → Nat → Rat) : (∀ t, t < n → gpiv n A t ≠ 0) ∨ ∃ K, K < n ∧ (∀ t, t < K → gpiv n A t ≠ 0) ∧ gpiv n A K = 0 := by
  have key : ∀ m, m ≤ n → (∀ t, t < m → gpiv n A t ≠ 0) ∨ ∃ K, K < m ∧ (∀ t, t < K → gpiv n A t ≠ 0) ∧ gpiv n A K = 0 := by
    intro m
    induction m with
    | zero => exact fun _ => .inl fun t h => absurd h (Nat.not_lt_zero _)
    | succ m ih =>
      intro hm
      rcases ih (by omega) with h | ⟨K, h1, h2, h3⟩
      · by_cases e : gpiv n A m = 0
        · exact .inr ⟨m, Nat.lt_succ_self _, h, e⟩
        · refine .inl fun t ht => ?_
          by_cases et : t = m
          · rw [et]; exact e
          · exact h t (by omega)
      · exact .inr ⟨K, by omega, h2, h3⟩
  exact key n (Nat.le_refl _)
/-- Digits of all that is left, of a Gen of the statements. -/
theorem gkB_wf {g : GV} (h : Wf g 5 13) (h5 : g.n ≤ 5) : GkB g.n (ent g) 42100 := fun k hk i j hi hj =>
  (GkB.of (b := 163) h.n1 (fun i j hi hj => h.bEnt hi hj) k hk i j hi hj).mono (Nat.le_trans (bb_mono (show g.n - 1 ≤ 4 by omega)) (by decide +kernel))
/-- The statements' matrices. -/
theorem gmake_ok (m : Bool) (n : Int) (ns : List Int) (like : Bool) (hn : I64 n) (hns : I64s ns) :
    ∃ g, CallP Tryz.prog 10 [.int .i64 n, .sl m 1 (intsP ns), .bool like, .int .i64 5] (.p (genP noF g)) [] ∧ Wf g 5 13 ∧ g.n ≤ 5 ∧ (g.k = 5 ∨ g.k = 7) := by
  have hm := lmake13_ok m n 5 ns like hn hns (by omega) (by omega)
  have hN := gmN_ok n 5 (by omega)
  refine ⟨_, hm, ?_, by rw [g13_n]; show gmN n 5 ≤ 5; omega, ?_⟩
  · cases like with
    | true =>
      obtain ⟨r1, r2, r0⟩ := gmR_ok (k := 7) n
      exact wf_g13 (wf_mkG (by decide) (by decide) hN.1 (by omega) r1 r2 r0) (.inr rfl)
    | false =>
      obtain ⟨r1, r2, r0⟩ := gmR_ok (k := 5) n
      exact wf_g13 (wf_mkG (by decide) (by decide) hN.1 (by omega) r1 r2 r0) (.inl rfl)
  · rw [g13_k]
    cases like with
    | true => exact .inr rfl
    | false => exact .inl rfl
def gk13 : GV := ⟨5, 1, 0, fun _ => ((2 : Int) : Rat), fun _ => ((1 : Int) : Rat), fun _ => 0, fun _ => 0⟩
theorem wf_gk13 : Wf gk13 5 13 where
  k1 := by decide
  k7 := by decide
  n1 := by decide
  n6 := by decide
  r2 := by decide
  r1 := fun h => by rcases h with h | h <;> cases h
  r0 := fun _ => rfl
  bA := fun i _ => int_bz (by decide) (by decide)
  bB := fun i _ => (int_bz (k := 5) (by decide) (by decide)).mono (by decide)
  bG := fun i _ => bz_zero.mono (by decide)
  bH := fun i _ => bz_zero.mono (by decide)
  ne := fun i j _ _ => by show ((2 : Int) : Rat) ≠ ((1 : Int) : Rat); decide
  bc := by decide
  c4 := by decide
/-- One row, of one number, made anew. -/
theorem kall1_ok (A : Nat → Nat → Rat) {a : Nat} (hA : Bz (A 0 0) a) (ha : a + a ≤ 1048576) : CallP Tryz.prog 37 [matP false false 1 1 A, .sl true 1 [ratsM true (lst 1 fun _ => A 0 0)]] (.p (.bool true)) [] := by
  have h := rall_ok false false true true 1 1 A (a := a) (fun i k hi hk => by
    obtain rfl : i = 0 := by omega
    obtain rfl : k = 0 := by omega
    exact hA) ha (by decide) (by decide)
  exact h
theorem known13_ok : CallP Tryz.prog 9 [] (.p (.bool true)) [] := by
  have hf := kfactor_ok m15 gk13 wf_gk13 (.inl rfl) (gkB_wf wf_gk13 (by decide)) (by decide) (by decide) (fun t ht => by
    obtain rfl : t = 0 := by have : t < 1 := ht; omega
    decide +kernel)
  have e1 : gU 1 (ent gk13) 0 0 = ((1 : Int) : Rat) := by decide +kernel
  have e2 : gro 1 (ent gk13) = ((1 : Int) : Rat) := by decide +kernel
  have a1 := kall1_ok (gU 1 (ent gk13)) (a := 5) (by rw [e1]; exact int_bz (by decide) (by decide)) (by decide)
  rw [e1] at a1
  have b1 : Bz (gro 1 (ent gk13)) 5 := by rw [e2]; exact int_bz (by decide) (by decide)
  have b2 : Bz ((1 : Int) : Rat) 5 := int_bz (by decide) (by decide)
  have s1 := rsame_ok (gro 1 (ent gk13)) ((1 : Int) : Rat) b1 b2 (by decide)
  rw [decide_eq_true e2] at s1
  refine callG_of_vc (wr := wr0) Γok mixed Tryz.func9 (by kernel_rfl) rfl (by kernel_rfl) (le_of_ble rfl) (by simp) ?_
  refine SCall.pure (rint_ok 2 (by decide)) ?_
  refine SCall.pure (rint_ok 1 (by decide)) ?_
  refine SView.all rfl <| SView.all rfl <| SCall.pureT (pvs := [.agg [.int .i64 5, .int .i64 1, .int .i64 0, ratsM true (lst 1 gk13.A), ratsM true (lst 1 gk13.B), znil, znil]]) (CallG.weak1 hf (.gen rfl rfl rfl (.refl _) (.refl _) (.nil _ _) (.nil _ _))) (fun _ => rfl) ?_
  refine SDraw.mkX (by kernel_rfl) ?_
  repeat refine SOp.mk _ _ (And.intro rfl rfl) rfl ?_
  refine SOp.mk _ _ (SCmp.yes rfl (And.intro rfl rfl)) rfl ?_
  repeat refine SOp.mk _ _ (And.intro rfl rfl) rfl ?_
  refine SOp.mk _ _ (SZ.mk 1 rfl (And.intro rfl rfl)) rfl ?_
  refine SOp.mk _ _ (SCmp.yes rfl (And.intro rfl rfl)) rfl ?_
  repeat refine SOp.mk _ _ (And.intro rfl rfl) rfl ?_
  refine SOp.mk _ _ (SCall.pure (rint_ok 1 (by decide)) (And.intro rfl rfl)) rfl ?_
  repeat refine SOp.mk _ _ (And.intro rfl rfl) rfl ?_
  refine SOp.mk _ _ (SLendR.mk [ratsM true (lst 1 fun _ => ((1 : Int) : Rat))] rfl rfl (fun i c p e1 e2 => by match i, e1, e2 with | 0, e1, e2 => cases e1; cases e2; exact .vec (es := rats (lst 1 fun _ => ((1 : Int) : Rat))) rfl (by decide)) <| SCall.pure a1 (And.intro rfl rfl)) rfl ?_
  repeat refine SOp.mk _ _ (And.intro rfl rfl) rfl ?_
  refine SOp.mk _ _ (SCall.pure (rint_ok 1 (by decide)) (And.intro rfl rfl)) rfl ?_
  refine SOp.mk _ _ (SCall.pure (s1) (And.intro rfl rfl)) rfl ?_
  repeat refine SOp.mk _ _ (And.intro rfl rfl) rfl ?_
  refine SFin.mk (by kernel_rfl) ?_
  exact SRet.pure (.p _ (.bool _))
end Go.Proofs.YtjfcphohgicolaaGreat

namespace Go.Proofs.YtjfcphohgicolaaGreat
open Go
set_option linter.unusedVariables false
set_option linter.unusedSimpArgs false
set_option maxRecDepth 10000
theorem rexpand5_ok (m : Nat → Bool) (g : GV) {b c : Nat} (h : Wf g b c) : CallP Tryz.prog 16 [genP m g] (.p (matP false false g.n g.n (ent g))) [] := by
  have h8 := h.n6
  refine callG_of_vc (wr := wr0) Γok mixed Tryz.func16 (by kernel_rfl) rfl (by kernel_rfl) (le_of_ble rfl) (by simp) ?_
  refine SLoop.mkT Nat (fun i => ([(1, .bptr 0 0), (3, .vec 1 1 0 i), (4, .p (.int .i64 i))], [.box 26 (genA m g), .rows 24 (plc 2 g.n i id), .pool 31 3 (plr i g.n (ent g))]))
    (fun i => i ≤ g.n) (fun i => g.n - i) 0 [0, 1, 2] _ _ (.rows 3 24 rfl (.pool 31 3 (.done _ _))) (Nat.zero_le _) ⟨rfl, by simp, rfl, rfl, rfl, ⟨rfl, rfl, rfl, trivial⟩, ⟨rfl, rfl, rfl, rows_in fun i hi => absurd hi (Nat.not_lt_zero _), trivial⟩⟩ ?_
  intro i hi
  have hi : i ≤ g.n := hi
  by_cases hin : i < g.n
  · refine SCmp.yes (decide_eq_true (by omega)) ?_
    refine SLoop.mkT Nat (fun j => ([(1, .bptr 0 0), (3, .vec 1 1 0 i), (4, .p (.int .i64 i)), (5, .vec 3 3 0 j), (6, .p (.int .i64 j))], [.box 26 (genA m g), .rows 24 (plc 2 g.n i id), .pool 31 3 (plr i g.n (ent g)), .vec 31 3 (rats (lst j (ent g i)))]))
      (fun j => j ≤ g.n) (fun j => g.n - j) 0 [0, 1, 2, 3] _ _ (.step 5 31 3 rfl (.done _ _)) (Nat.zero_le _) ⟨rfl, by simp, rfl, rfl, rfl, ⟨rfl, rfl, rfl, rfl, rfl, trivial⟩, ⟨rfl, congrArg _ (plc_ren 2 rfl (by decide)), rfl, rfl, rows_in fun i hi => by simpa [plenAt] using hi, trivial⟩⟩ ?_
    intro j hj
    have hj : j ≤ g.n := hj
    by_cases hjn : j < g.n
    · refine SCmp.yes (decide_eq_true (by omega)) ?_
      refine SCall.pure (rentry5_ok m g h i j hin hjn) ?_
      refine SEqN.mk (by simp [lst]) <| SView.all rfl <| SRoom.mk (by simp [lst]; omega) (by simp [lst]; omega) <| SEs.mk (rats (lst (j + 1) (ent g i))) (app_lst _ _ _ (rfl)) <| SZN.mk (j + 1) (by simp [lst]) ?_
      refine SWrap.i64z ((j + 1 : Nat) : Int) (by omega) (by omega) ?_
      exact ⟨j + 1, [0, 1, 2, 5], hjn, by show g.n - (j + 1) < g.n - j; omega, ⟨rfl, by simp, rfl, rfl, rfl, ⟨rfl, rfl, rfl, rfl, rfl, trivial⟩, ⟨rfl, congrArg _ (plc_ren 2 rfl (by decide)), rfl, rfl, rows_in fun i hi => by simpa [plenAt] using hi, trivial⟩⟩⟩
    · refine SCmp.no (decide_eq_false (by omega)) ?_
      obtain rfl : j = g.n := by omega
      refine SEqN.mk (by simp) ?_
      refine SRoom.mk (by simp; omega) (by simp; omega) ?_
      refine SAs.mk _ rfl ?_
      refine SZN.mk (i + 1) (by simp) ?_
      refine SWrap.i64z ((i + 1 : Nat) : Int) (by omega) (by omega) ?_
      exact ⟨i + 1, [0, 5, 4002], hin, by show g.n - (i + 1) < g.n - i; omega, ⟨rfl, by simp, rfl, rfl, rfl, ⟨rfl, rfl, rfl, trivial⟩, ⟨rfl, congrArg _ (plc_absorb rfl (by decide) (by simp [plenAt])), ⟨_, _, _, _, rfl, rfl, congrArg _ plr_snoc⟩, rows_in fun i hi => by simpa [plenAt] using hi, trivial⟩⟩⟩
  · refine SCmp.no (decide_eq_false (by omega)) ?_
    obtain rfl : i = g.n := by omega
    exact SRet.pure (frzM (H := [_, _, _]) (h := 1) (p := 2) rfl rfl fun i hi => hi)
end Go.Proofs.YtjfcphohgicolaaGreat

namespace Go.Proofs.YtjfcphohgicolaaGreat
open Go
set_option linter.unusedVariables false
set_option linter.unusedSimpArgs false
set_option maxRecDepth 10000
abbrev partA (n : Nat) (A : Nat → Nat → Rat) : List AV := [.p (.sl false 1 (permP n (gO n A))), .p (matP false false n n (gL n A)), .p (matP false false n n (gU n A)), .p (.bool (decide ((gro n A).num < 0))), .p (natP (gro n A).num.natAbs), .p (natP (gro n A).den)]
end Go.Proofs.YtjfcphohgicolaaGreat

namespace Go.Proofs.YtjfcphohgicolaaGreat
open Go
set_option linter.unusedVariables false
set_option linter.unusedSimpArgs false
set_option maxRecDepth 10000
theorem quoZ_ok (p : Rat) {j : Nat} (hp : Sz p j) (h : j ≤ 137438953472) : CallP Tryz.prog 46 [ratP p, ratP 0] (.tup [.p rat0, .p (.int .i64 5)]) [] := by
  have h1 := hp.n
  have h2 := hp.d
  have z0 := (bz_zero.mono (show 1 ≤ 1 by decide)).sz
  have z1 := z0.n
  have z2 := z0.d
  have hl := make0_ok (decide (p.num < 0) != decide ((0 : Rat).num < 0)) false false (p.num.natAbs * (0 : Rat).den)
  refine callG_of_vc (wr := wr0) Γok mixed Tryz.func46 (by kernel_rfl) rfl (by kernel_rfl) (le_of_ble rfl) (by simp) ?_
  refine SDraw.mk (by kernel_rfl) ?_
  repeat refine SOp.mk _ _ (And.intro rfl rfl) rfl ?_
  refine SOp.mk _ _ (SCmp.sym (And.intro rfl rfl)) rfl ?_
  repeat refine SOp.mk _ _ (And.intro rfl rfl) rfl ?_
  refine SOp.mk _ _ (SCall.pure (mul_ok false false p.num.natAbs (0 : Rat).den (by omega) (by omega)) (And.intro rfl rfl)) rfl ?_
  repeat refine SOp.mk _ _ (And.intro rfl rfl) rfl ?_
  refine SOp.mk _ _ (SCall.pure (mul_ok false false p.den (0 : Rat).num.natAbs (by omega) (by omega)) (And.intro rfl rfl)) rfl ?_
  refine SOp.mk _ _ (SCall.pureT hl (fun _ => rfl) (And.intro rfl rfl)) rfl ?_
  repeat refine SOp.mk _ _ (And.intro rfl rfl) rfl ?_
  exact SRet.pure (.tup rfl fun i c d e1 e2 => by
    match i, e1, e2 with
    | 0, e1, e2 => cases e1; cases e2; exact .p _ (by have := pers_rat false 0 0; rw [natP_zero] at this; exact this)
    | 1, e1, e2 => cases e1; cases e2; exact .p _ (.int _ _))
theorem sb_bz {a x : Nat → Rat} {s : Rat} {lo bs ba bx : Nat} {d : Nat} (hs : Bz s bs) (ha : ∀ j, lo ≤ j → j < lo + d → Bz (a j) ba) (hx : ∀ j, lo ≤ j → j < lo + d → Bz (x j) bx) : Bz (sb a x s lo d) (bs + d * (ba + bx + 1)) := by
  induction d with
  | zero => exact hs.mono (by omega)
  | succ d ih =>
    have ih := ih (fun j h1 h2 => ha j h1 (by omega)) fun j h1 h2 => hx j h1 (by omega)
    exact (ih.sub ((ha (lo + d) (by omega) (by omega)).mul (hx (lo + d) (by omega) (by omega)))).mono (by rw [Nat.succ_mul]; omega)
/-- What is left of a number, behind so many products; of x, the ones that are read alone need be known. -/
theorem left_ok (m : Bool) (mx : Bool) (s : Rat) (n : Nat) (a x : Nat → Rat) (g : Nat → PV) (lo hi : Nat) {bs ba bx : Nat} (hn : n ≤ 1000) (hlh : lo ≤ hi) (hhn : hi ≤ n) (hg : ∀ j, lo ≤ j → j < hi → g j = ratP (x j))
    (hs : Bz s bs) (ha : ∀ j, lo ≤ j → j < hi → Bz (a j) ba) (hx : ∀ j, lo ≤ j → j < hi → Bz (x j) bx) (hb : bs + n * (ba + bx + 1) + ba + bx ≤ 100000000000) :
    CallP Tryz.prog 69 [ratP s, ratsM m (lst n a), .sl mx 3 (fl n g), .int .i64 lo, .int .i64 hi] (.p (ratP (sb a x s lo (hi - lo)))) [] := by
  have h0 : s + 0 = s := by grind
  refine callG_of_vc (wr := wr0) Γok mixed Tryz.func69 (by kernel_rfl) rfl (by kernel_rfl) (le_of_ble rfl) (by simp) ?_
  refine SDraw.mkX (by kernel_rfl) ?_
  repeat refine SOp.mk _ _ (And.intro rfl rfl) rfl ?_
  refine SOp.mk _ _ (SCall.pure (szero_ok) (And.intro rfl rfl)) rfl ?_
  refine SOp.mk _ _ (SCall.pure (ratadd_ok s 0 hs.sz (bz_zero.mono (show 1 ≤ 1 by decide)).sz (by omega)) (And.intro rfl rfl)) rfl ?_
  repeat refine SOp.mk _ _ (And.intro rfl rfl) rfl ?_
  refine SFin.mk (by kernel_rfl) ?_
  rw [h0]
  refine SLoop.mk Nat (fun d => ([(1, .p (ratsM m (lst n a))), (2, .p (.sl mx 3 (fl n g))), (4, .p (.int .i64 hi)), (5, .bptr 0 0), (10, .bptr 1 0), (11, .p (.int .i64 ((lo + d : Nat) : Int)))], [.box 31 (bxQ (sb a x s lo d)), .box 31 [.p (.bool false), .p (.sl false 1 []), .p (.sl false 1 [])]]))
    (fun d => lo + d ≤ hi) (fun d => hi - d) 0 [0, 1] (by omega) ⟨rfl, by simp, rfl, rfl, rfl, ⟨rfl, rfl, rfl, rfl, rfl, rfl, trivial⟩, ⟨rfl, rfl, trivial⟩⟩ ?_
  intro d hd
  have hd : lo + d ≤ hi := hd
  by_cases hdh : lo + d < hi
  · refine SCmp.yes (decide_eq_true (by omega)) ?_
    have z1 := sb_bz (d := d) hs (fun j h1 h2 => ha j h1 (by omega)) fun j h1 h2 => hx j h1 (by omega)
    have z2 := (ha (lo + d) (by omega) hdh).mul (hx (lo + d) (by omega) hdh)
    have zd : d * (ba + bx + 1) ≤ n * (ba + bx + 1) := Nat.mul_le_mul_right _ (by omega)
    refine SDraw.mkX (by kernel_rfl) ?_
    repeat refine SOp.mk _ _ (And.intro rfl rfl) rfl ?_
    refine SOp.mk _ _ (SIdx.rf (lo + d) rfl (by omega) (And.intro rfl rfl)) rfl ?_
    repeat refine SOp.mk _ _ (And.intro rfl rfl) rfl ?_
    refine SOp.mk _ _ (SIdx.fl (lo + d) (ratP (x (lo + d))) rfl (by omega) (hg (lo + d) (by omega) hdh) (And.intro rfl rfl)) rfl ?_
    repeat refine SOp.mk _ _ (And.intro rfl rfl) rfl ?_
    refine SOp.mk _ _ (SCall.pure (ratmul_ok _ _ (ha (lo + d) (by omega) hdh).sz (hx (lo + d) (by omega) hdh).sz (by omega)) (And.intro rfl rfl)) rfl ?_
    refine SOp.mk _ _ (SCall.pure (ratsub_ok _ _ z1.sz z2.sz (by omega)) (And.intro rfl rfl)) rfl ?_
    repeat refine SOp.mk _ _ (And.intro rfl rfl) rfl ?_
    refine SFin.mk (by kernel_rfl) ?_
    refine SWrap.i64z ((lo + (d + 1) : Nat) : Int) (by omega) (by omega) ?_
    exact ⟨d + 1, [0, 1], hdh, by show hi - (d + 1) < hi - d; omega, ⟨rfl, by simp, rfl, rfl, rfl, ⟨rfl, rfl, rfl, rfl, rfl, rfl, trivial⟩, ⟨rfl, rfl, trivial⟩⟩⟩
  · refine SCmp.no (decide_eq_false (by omega)) ?_
    obtain rfl : d = hi - lo := by omega
    exact SRet.pure (.p _ (pers_rat _ _ _))
/-- Is a system's shape right? -/
def rowsF (A : Nat → Nat → Rat) (y : Nat → Rat) : Nat → Nat → Rat
  | 0 => y
  | i + 1 => A i
def rowsQ (m q : Bool) (n : Nat) (A : Nat → Nat → Rat) (y : Nat → Rat) (i : Nat) : PV := ratsM (if i = 0 then q else m) (lst n (rowsF A y i))
theorem rowsQ_fl {m q : Bool} {n k : Nat} {A : Nat → Nat → Rat} {y : Nat → Rat} : [ratsM q (lst n y)] ++ (fl k fun i => ratsM m (lst n (A i))) = fl (k + 1) (rowsQ m q n A y) := by
  apply List.ext_getElem?
  intro i
  match i with
  | 0 => rw [fl_get (by omega)]; rfl
  | i + 1 =>
    rw [List.getElem?_append_right (by simp)]
    show (fl k _)[i + 1 - 1]? = _
    rw [Nat.add_sub_cancel]
    by_cases h : i < k
    · rw [fl_get h, fl_get (by omega)]; rfl
    · rw [List.getElem?_eq_none (by simp; omega), List.getElem?_eq_none (by simp; omega)]
theorem shaped_ok (m m' q : Bool) (n : Nat) (A : Nat → Nat → Rat) (y : Nat → Rat) {b : Nat} (hn : n ≤ 900) (hA : ∀ i j, i < n → j < n → Bz (A i j) b) (hy : ∀ i, i < n → Bz (y i) b) (hb : b ≤ 100000000000) :
    CallP Tryz.prog 68 [matP m m' n n A, ratsM q (lst n y)] (.p (.bool true)) [] := by
  have zR : ∀ i j, i < n + 1 → j < n → Bz (rowsF A y i j) b := fun i j hi hj => by
    match i with
    | 0 => exact hy j hj
    | i + 1 => exact hA i j (by omega) hj
  refine callG_of_vc (wr := wr0) Γok mixed Tryz.func68 (by kernel_rfl) rfl (by kernel_rfl) (le_of_ble rfl) (by simp) ?_
  refine SEqN.mk (by simp) ?_
  refine SRoom.mk (by simp; omega) (by simp; omega) ?_
  refine SEs.mk (fl (n + 1) (rowsQ m' q n A y)) rowsQ_fl ?_
  refine SZN.mk (n + 1) (by simp; omega) ?_
  refine SZ.mk ((n + 1 : Nat) : Int) rfl ?_
  refine SLoop.mk Nat (fun i => ([(0, .p (matP m m' n n A)), (14, .vec 0 1 0 (n + 1)), (15, .p (.int .i64 ((n + 1 : Nat) : Int))), (16, .p (.int .i64 i))], [.vec 24 1 (fl (n + 1) (rowsQ m' q n A y))]))
    (fun i => i ≤ n + 1) (fun i => n + 1 - i) 0 [1] (Nat.zero_le _) ⟨rfl, by simp, rfl, rfl, rfl, ⟨rfl, rfl, rfl, rfl, trivial⟩, ⟨rfl, trivial⟩⟩ ?_
  intro i hi
  have hi : i ≤ n + 1 := hi
  by_cases hin : i < n + 1
  · refine SCmp.yes (decide_eq_true (by omega)) ?_
    refine SPos.mk i rfl hin ?_
    refine SIdx.fl (i + 0) (ratsM (if i = 0 then q else m') (lst n (rowsF A y i))) rfl (by omega) rfl ?_
    generalize (if i = 0 then q else m') = f
    refine SZ.mk (n : Int) (by simp [lst]) ?_
    refine SZ.mk (n : Int) (by simp) ?_
    refine SCmp.no (neF rfl) ?_
    refine SZ.mk (n : Int) (by simp [lst]) ?_
    refine SLoop.mk Nat (fun j => ([(0, .p (matP m m' n n A)), (14, .vec 0 1 0 (n + 1)), (15, .p (.int .i64 ((n + 1 : Nat) : Int))), (16, .p (.int .i64 i)), (25, .p (ratsM f (lst n (rowsF A y i)))), (26, .p (.int .i64 n)), (27, .p (.int .i64 j))], [.vec 24 1 (fl (n + 1) (rowsQ m' q n A y))]))
      (fun j => j ≤ n) (fun j => n - j) 0 [0] (Nat.zero_le _) ⟨rfl, by simp, rfl, rfl, rfl, ⟨rfl, rfl, rfl, rfl, rfl, rfl, rfl, trivial⟩, ⟨rfl, trivial⟩⟩ ?_
    intro j hj
    have hj : j ≤ n := hj
    by_cases hjn : j < n
    · refine SCmp.yes (decide_eq_true (by omega)) ?_
      refine SIdx.rf j rfl hjn ?_
      refine SCall.pure (ratright_ok (rowsF A y i j) (zR i j hin hjn).sz (by omega)) ?_
      refine SCmp.no (rfl) ?_
      refine SWrap.i64z ((j + 1 : Nat) : Int) (by omega) (by omega) ?_
      exact ⟨j + 1, [0], hjn, by show n - (j + 1) < n - j; omega, ⟨rfl, by simp, rfl, rfl, rfl, ⟨rfl, rfl, rfl, rfl, rfl, rfl, rfl, trivial⟩, ⟨rfl, trivial⟩⟩⟩
    · refine SCmp.no (decide_eq_false (by omega)) ?_
      refine SWrap.i64z ((i + 1 : Nat) : Int) (by omega) (by omega) ?_
      exact ⟨i + 1, [0], hin, by show n + 1 - (i + 1) < n + 1 - i; omega, ⟨rfl, by simp, rfl, rfl, rfl, ⟨rfl, rfl, rfl, rfl, trivial⟩, ⟨rfl, trivial⟩⟩⟩
  · refine SCmp.no (decide_eq_false (by omega)) ?_
    exact SRet.pure (.tf _)
/-- What a lower triangle's system comes to, so far. -/
def lxF (L : Nat → Nat → Rat) (b : Nat → Rat) : Nat → Nat → Rat
  | 0 => fun _ => 0
  | k + 1 => upd (lxF L b k) k (sb (L k) (lxF L b k) (b k) 0 k)
theorem row_full' {n : Nat} {f : Nat → Rat} : rats (lst n f) = fl n fun k => if k < n then ratP (f k) else rat0 := by
  rw [rats, lst_fl, fl_map]; exact fl_congr fun k hk => (if_pos hk).symm
theorem lx_step {L : Nat → Nat → Rat} {b : Nat → Rat} {n i : Nat} (hi : i < n) :
    (fl n fun k => if k < i then ratP (lxF L b i k) else rat0).set (i + 0) (ratP (sb (L i) (lxF L b i) (b i) 0 (i - 0))) = fl n fun k => if k < i + 1 then ratP (lxF L b (i + 1) k) else rat0 := by
  rw [fl_set]
  refine fl_congr fun k hk => ?_
  simp only [upd, lxF, Nat.add_zero, Nat.sub_zero]
  by_cases e : k = i
  · rw [if_pos e, if_pos (by omega), if_pos e]
  · rw [if_neg e, if_neg e]
    by_cases e2 : k < i
    · rw [if_pos e2, if_pos (by omega)]
    · rw [if_neg e2, if_neg (by omega)]
theorem slowerS_ok (m m' q : Bool) (n : Nat) (L : Nat → Nat → Rat) (b : Nat → Rat) {D X : Nat} (hn : n ≤ 900) (hL : ∀ i j, i < n → j < n → Bz (L i j) D) (hb : ∀ i, i < n → Bz (b i) D) (hX : ∀ k, k ≤ n → ∀ i, i < k → Bz (lxF L b k i) X) (hD : D + n * (D + X + 1) + D + X ≤ 100000000000) :
    CallP Tryz.prog 33 [matP m m' n n L, ratsM q (lst n b)] (.p (ratsM false (lst n (lxF L b n)))) [] := by
  refine callG_of_vc (wr := wr0) Γok mixed Tryz.func33 (by kernel_rfl) rfl (by kernel_rfl) (le_of_ble rfl) (by simp) ?_
  refine SCall.pure (shaped_ok m m' q n L b hn hL hb (by omega)) ?_
  refine SCmp.no (rfl) ?_
  refine SZ.mk (n : Int) (by simp [lst]) ?_
  refine SZ.mk (n : Int) rfl ?_
  refine SLt.mk (by simp) ?_
  refine SMake.rat n rfl (by omega) ?_
  refine SZ.mk (n : Int) rfl ?_
  refine SLoop.mk Nat (fun i => ([(0, .p (matP m m' n n L)), (1, .p (ratsM q (lst n b))), (5, .vec 0 3 0 n), (15, .p (.int .i64 n)), (16, .p (.int .i64 i))], [.vec 31 3 (fl n fun k => if k < i then ratP (lxF L b i k) else rat0)]))
    (fun i => i ≤ n) (fun i => n - i) 0 [0] (Nat.zero_le _) ⟨rfl, by simp, rfl, rfl, rfl, ⟨rfl, rfl, rfl, rfl, rfl, trivial⟩, ⟨congrArg _ ((fl_congr fun k hk => if_neg (by omega)).trans (replicate_fl n rat0).symm), trivial⟩⟩ ?_
  intro i hi
  have hi : i ≤ n := hi
  by_cases hin : i < n
  · refine SCmp.yes (decide_eq_true (by omega)) ?_
    have hl := left_ok m' true (b i) n (L i) (lxF L b i) (fun k => if k < i then ratP (lxF L b i k) else rat0) 0 i (by omega) (Nat.zero_le _) hi (fun j _ h => if_pos h) (hb i hin) (fun j _ h => hL i j hin (by omega)) (fun j _ h => hX i hi j h) hD
    refine SDraw.mkX (by kernel_rfl) ?_
    repeat refine SOp.mk _ _ (And.intro rfl rfl) rfl ?_
    refine SOp.mk _ _ (SIdx.rf i rfl hin (And.intro rfl rfl)) rfl ?_
    repeat refine SOp.mk _ _ (And.intro rfl rfl) rfl ?_
    refine SOp.mk _ _ (SIdx.mf i rfl hin (And.intro rfl rfl)) rfl ?_
    repeat refine SOp.mk _ _ (And.intro rfl rfl) rfl ?_
    refine SOp.mk _ _ (SView.all (by simp) <| SCall.pure (pvs := [ratP (b i), ratsM m' (lst n (L i)), .sl true 3 (fl n fun k => if k < i then ratP (lxF L b i k) else rat0), .int .i64 0, .int .i64 i]) hl (And.intro rfl rfl)) rfl ?_
    refine SOp.mk _ _ (SPos.mk i rfl hin (And.intro rfl rfl)) rfl ?_
    refine SOp.mk _ _ (SLt.mk (by simp; omega) <| SEs.mk _ (lx_step hin) (And.intro rfl rfl)) rfl ?_
    repeat refine SOp.mk _ _ (And.intro rfl rfl) rfl ?_
    refine SFin.mk (by kernel_rfl) ?_
    refine SWrap.i64z ((i + 1 : Nat) : Int) (by omega) (by omega) ?_
    exact ⟨i + 1, [0], hin, by show n - (i + 1) < n - i; omega, ⟨rfl, by simp, rfl, rfl, rfl, ⟨rfl, rfl, rfl, rfl, rfl, trivial⟩, ⟨rfl, trivial⟩⟩⟩
  · refine SCmp.no (decide_eq_false (by omega)) ?_
    obtain rfl : n = i := by omega
    exact SRet.pure (frzR (h := 0) (l := lst n (lxF L b n)) (congrArg (Blk.vec 31 3) row_full'.symm) (by simp [lst]))
end Go.Proofs.YtjfcphohgicolaaGreat

namespace Go.Proofs.YtjfcphohgicolaaGreat
open Go
set_option linter.unusedVariables false
set_option linter.unusedSimpArgs false
set_option maxRecDepth 10000
/-- What an upper triangle's system comes to, from the last row on, so far. -/
def uxF (U : Nat → Nat → Rat) (b : Nat → Rat) (n : Nat) : Nat → Nat → Rat
  | 0 => fun _ => 0
  | t + 1 => upd (uxF U b n t) (n - 1 - t) (sb (U (n - 1 - t)) (uxF U b n t) (b (n - 1 - t)) (n - t) t / U (n - 1 - t) (n - 1 - t))
theorem ux_step {U : Nat → Nat → Rat} {b : Nat → Rat} {n t : Nat} (ht : t < n) :
    (fl n fun k => if n ≤ k + t then ratP (uxF U b n t k) else rat0).set (n - 1 - t + 0) (ratP (sb (U (n - 1 - t)) (uxF U b n t) (b (n - 1 - t)) (n - t) t / U (n - 1 - t) (n - 1 - t))) = fl n fun k => if n ≤ k + (t + 1) then ratP (uxF U b n (t + 1) k) else rat0 := by
  rw [fl_set]
  refine fl_congr fun k hk => ?_
  simp only [upd, uxF, Nat.add_zero]
  by_cases e : k = n - 1 - t
  · rw [if_pos e, if_pos (by omega), if_pos e]
  · rw [if_neg e, if_neg e]
    by_cases e2 : n ≤ k + t
    · rw [if_pos e2, if_pos (by omega)]
    · rw [if_neg e2, if_neg (by omega)]
theorem supperS_ok (m m' q : Bool) (n K : Nat) (U : Nat → Nat → Rat) (b : Nat → Rat) {D X : Nat} (hn : n ≤ 900) (hU : ∀ i j, i < n → j < n → Bz (U i j) D) (hb : ∀ i, i < n → Bz (b i) D) (hX : ∀ t, t ≤ K → ∀ i, n ≤ i + t → i < n → Bz (uxF U b n t i) X) (hD : D + n * (D + X + 1) + D + X ≤ 100000000000)
    (hK : K ≤ n) (hp : ∀ t, t < K → U (n - 1 - t) (n - 1 - t) ≠ 0) (hz : K < n → U (n - 1 - K) (n - 1 - K) = 0)
    (R : AV) (h1 : K < n → R = .tup [.p (ratsM false []), .p (.int .i64 5)]) (h2 : K = n → R = .tup [.p (ratsM false (lst n (uxF U b n n))), .p (.int .i64 0)]) :
    CallP Tryz.prog 32 [matP m m' n n U, ratsM q (lst n b)] R [] := by
  refine callG_of_vc (wr := wr0) Γok mixed Tryz.func32 (by kernel_rfl) rfl (by kernel_rfl) (le_of_ble rfl) (by simp) ?_
  refine SCall.pure (shaped_ok m m' q n U b hn hU hb (by omega)) ?_
  refine SCmp.no (rfl) ?_
  refine SZ.mk (n : Int) (by simp [lst]) ?_
  refine SZ.mk (n : Int) rfl ?_
  refine SLt.mk (by simp) ?_
  refine SMake.rat n rfl (by omega) ?_
  refine SZ.mk (n : Int) (by simp [lst]) ?_
  refine SWrap.i64z ((n : Int) - 1 - (0 : Nat)) (by omega) (by omega) ?_
  refine SLoop.mk Nat (fun t => ([(0, .p (matP m m' n n U)), (1, .p (ratsM q (lst n b))), (6, .vec 0 3 0 n), (7, .p (.int .i64 ((n : Int) - 1 - (t : Nat))))], [.vec 31 3 (fl n fun k => if n ≤ k + t then ratP (uxF U b n t k) else rat0)]))
    (fun t => t ≤ K) (fun t => n - t) 0 [0] (Nat.zero_le _) ⟨rfl, by simp, rfl, rfl, rfl, ⟨rfl, rfl, rfl, rfl, trivial⟩, ⟨congrArg _ ((fl_congr fun k hk => if_neg (by omega)).trans (replicate_fl n rat0).symm), trivial⟩⟩ ?_
  intro t ht
  have ht : t ≤ K := ht
  by_cases htn : t < n
  · refine SCmp.yes (decide_eq_true (by omega)) ?_
    have hl := left_ok m' true (b (n - 1 - t)) n (U (n - 1 - t)) (uxF U b n t) (fun k => if n ≤ k + t then ratP (uxF U b n t k) else rat0) (n - t) n (by omega) (by omega) (Nat.le_refl _) (fun j h _ => if_pos (by omega)) (hb _ (by omega)) (fun j _ h => hU _ j (by omega) h) (fun j h1 h2 => hX t ht j (by omega) h2) (by omega)
    rw [show n - (n - t) = t by omega] at hl
    have zs := sb_bz (a := U (n - 1 - t)) (x := uxF U b n t) (lo := n - t) (d := t) (hb (n - 1 - t) (by omega)) (fun j h1 h2 => hU (n - 1 - t) j (by omega) (by omega)) (fun j h1 h2 => hX t ht j (by omega) (by omega))
    have zt : t * (D + X + 1) ≤ n * (D + X + 1) := Nat.mul_le_mul_right _ (by omega)
    have zu := hU (n - 1 - t) (n - 1 - t) (by omega) (by omega)
    by_cases htK : t < K
    · have hq := quo_ok (sb (U (n - 1 - t)) (uxF U b n t) (b (n - 1 - t)) (n - t) t) (U (n - 1 - t) (n - 1 - t)) (hp t htK) zs.sz zu.sz (by omega)
      refine SDraw.mkX (by kernel_rfl) ?_
      repeat refine SOp.mk _ _ (And.intro rfl rfl) rfl ?_
      refine SOp.mk _ _ (SIdx.rf (n - 1 - t) (by omega) (by omega) (And.intro rfl rfl)) rfl ?_
      repeat refine SOp.mk _ _ (And.intro rfl rfl) rfl ?_
      refine SOp.mk _ _ (SIdx.mf (n - 1 - t) (by omega) (by omega) (And.intro rfl rfl)) rfl ?_
      repeat refine SOp.mk _ _ (And.intro rfl rfl) rfl ?_
      refine SOp.mk _ _ (SWrap.i64z ((n - t : Nat) : Int) (by omega) (by omega) (And.intro rfl rfl)) rfl ?_
      repeat refine SOp.mk _ _ (And.intro rfl rfl) rfl ?_
      refine SOp.mk _ _ (SZ.mk (n : Int) (by simp [lst]) (And.intro rfl rfl)) rfl ?_
      repeat refine SOp.mk _ _ (And.intro rfl rfl) rfl ?_
      refine SOp.mk _ _ (SView.all (by simp) <| SCall.pure (pvs := [ratP (b (n - 1 - t)), ratsM m' (lst n (U (n - 1 - t))), .sl true 3 (fl n fun k => if n ≤ k + t then ratP (uxF U b n t k) else rat0), .int .i64 ((n - t : Nat) : Int), .int .i64 n]) hl (And.intro rfl rfl)) rfl ?_
      repeat refine SOp.mk _ _ (And.intro rfl rfl) rfl ?_
      refine SOp.mk _ _ (SIdx.mf (n - 1 - t) (by omega) (by omega) (And.intro rfl rfl)) rfl ?_
      repeat refine SOp.mk _ _ (And.intro rfl rfl) rfl ?_
      refine SOp.mk _ _ (SIdx.rf (n - 1 - t) (by omega) (by omega) (And.intro rfl rfl)) rfl ?_
      repeat refine SOp.mk _ _ (And.intro rfl rfl) rfl ?_
      refine SOp.mk _ _ (SCall.pureT (hq) (fun _ => rfl) (And.intro rfl rfl)) rfl ?_
      repeat refine SOp.mk _ _ (And.intro rfl rfl) rfl ?_
      refine SFin.mk (by kernel_rfl) ?_
      refine SCmp.no (rfl) ?_
      refine SPos.mk (n - 1 - t) (by omega) (by omega) ?_
      refine SLt.mk (by simp; omega) ?_
      refine SEs.mk _ (ux_step htn) ?_
      refine SWrap.i64z ((n : Int) - 1 - ((t + 1 : Nat) : Int)) (by omega) (by omega) ?_
      exact ⟨t + 1, [0], htK, by show n - (t + 1) < n - t; omega, ⟨rfl, by simp, rfl, rfl, rfl, ⟨rfl, rfl, rfl, rfl, trivial⟩, ⟨rfl, trivial⟩⟩⟩
    · obtain rfl : t = K := by omega
      have hq := quoZ_ok (sb (U (n - 1 - t)) (uxF U b n t) (b (n - 1 - t)) (n - t) t) zs.sz (by omega)
      rw [← hz htn] at hq
      have e := h1 htn
      subst e
      refine SDraw.mkX (by kernel_rfl) ?_
      repeat refine SOp.mk _ _ (And.intro rfl rfl) rfl ?_
      refine SOp.mk _ _ (SIdx.rf (n - 1 - t) (by omega) (by omega) (And.intro rfl rfl)) rfl ?_
      repeat refine SOp.mk _ _ (And.intro rfl rfl) rfl ?_
      refine SOp.mk _ _ (SIdx.mf (n - 1 - t) (by omega) (by omega) (And.intro rfl rfl)) rfl ?_
      repeat refine SOp.mk _ _ (And.intro rfl rfl) rfl ?_
      refine SOp.mk _ _ (SWrap.i64z ((n - t : Nat) : Int) (by omega) (by omega) (And.intro rfl rfl)) rfl ?_
      repeat refine SOp.mk _ _ (And.intro rfl rfl) rfl ?_
      refine SOp.mk _ _ (SZ.mk (n : Int) (by simp [lst]) (And.intro rfl rfl)) rfl ?_
      repeat refine SOp.mk _ _ (And.intro rfl rfl) rfl ?_
      refine SOp.mk _ _ (SView.all (by simp) <| SCall.pure (pvs := [ratP (b (n - 1 - t)), ratsM m' (lst n (U (n - 1 - t))), .sl true 3 (fl n fun k => if n ≤ k + t then ratP (uxF U b n t k) else rat0), .int .i64 ((n - t : Nat) : Int), .int .i64 n]) hl (And.intro rfl rfl)) rfl ?_
      repeat refine SOp.mk _ _ (And.intro rfl rfl) rfl ?_
      refine SOp.mk _ _ (SIdx.mf (n - 1 - t) (by omega) (by omega) (And.intro rfl rfl)) rfl ?_
      repeat refine SOp.mk _ _ (And.intro rfl rfl) rfl ?_
      refine SOp.mk _ _ (SIdx.rf (n - 1 - t) (by omega) (by omega) (And.intro rfl rfl)) rfl ?_
      repeat refine SOp.mk _ _ (And.intro rfl rfl) rfl ?_
      refine SOp.mk _ _ (SCall.pureT (hq) (fun _ => rfl) (And.intro rfl rfl)) rfl ?_
      repeat refine SOp.mk _ _ (And.intro rfl rfl) rfl ?_
      refine SFin.mk (by kernel_rfl) ?_
      refine SCmp.yes (rfl) ?_
      exact SRet.pure (.tup rfl fun i c d e1 e2 => by
        match i, e1, e2 with
        | 0, e1, e2 => cases e1; cases e2; exact .emp 3
        | 1, e1, e2 => cases e1; cases e2; exact .p _ (.int _ _))
  · refine SCmp.no (decide_eq_false (by omega)) ?_
    obtain rfl : n = t := by omega
    have e := h2 (by omega)
    subst e
    refine SRet.pure (.tup rfl fun a c d e1 e2 => ?_)
    match a, e1, e2 with
    | 0, e1, e2 => cases e1; cases e2; exact frzR (h := 0) (l := lst n (uxF U b n n)) (congrArg (Blk.vec 31 3) ((fl_congr fun k hk => by rw [if_pos (show n ≤ k + n by omega), if_pos hk]).trans row_full'.symm)) (by simp [lst])
    | 1, e1, e2 => cases e1; cases e2; exact .p _ (.int _ _)
end Go.Proofs.YtjfcphohgicolaaGreat

namespace Go.Proofs.YtjfcphohgicolaaGreat
open Go
set_option linter.unusedVariables false
set_option maxRecDepth 10000
theorem sb_congr {a a' x : Nat → Rat} {s : Rat} {lo : Nat} : ∀ d, (∀ j, lo ≤ j → j < lo + d → a j = a' j) → sb a x s lo d = sb a' x s lo d := by
  intro d
  induction d with
  | zero => intro _; rfl
  | succ d ih =>
    intro h
    simp only [sb]
    rw [ih fun j h1 h2 => h j h1 (by omega), h (lo + d) (by omega) (by omega)]
theorem ux_bk {U : Nat → Nat → Rat} {b : Nat → Rat} {n : Nat} : ∀ t, t ≤ n → uxF U b n t = bk (augM n U b) n t := by
  intro t
  induction t with
  | zero => intro _; rfl
  | succ t ih =>
    intro ht
    simp only [uxF, bk]
    rw [ih (by omega)]
    have e1 : augM n U b (n - 1 - t) n = b (n - 1 - t) := if_neg (Nat.lt_irrefl n)
    have e2 : augM n U b (n - 1 - t) (n - 1 - t) = U (n - 1 - t) (n - 1 - t) := if_pos (by omega)
    rw [e1, e2, sb_congr (a := U (n - 1 - t)) (a' := augM n U b (n - 1 - t)) t fun j h1 h2 => (if_pos (by omega)).symm]
theorem lx_keep {L : Nat → Nat → Rat} {b : Nat → Rat} {i : Nat} : ∀ d, lxF L b (i + 1 + d) i = lxF L b (i + 1) i := by
  intro d
  induction d with
  | zero => rfl
  | succ d ih => rw [← ih, ← Nat.add_assoc]; simp only [lxF]; exact upd_other _ _ (by omega)
theorem lx_keep' {L : Nat → Nat → Rat} {b : Nat → Rat} {i k : Nat} (h : i < k) : lxF L b k i = lxF L b (i + 1) i := by
  obtain ⟨d, rfl⟩ : ∃ d, k = i + 1 + d := ⟨k - (i + 1), by omega⟩
  exact lx_keep d
theorem sb_sm {a x : Nat → Rat} {s : Rat} : ∀ d, sb a x s 0 d + sm d (fun k => a k * x k) = s := by
  intro d
  induction d with
  | zero => show s + 0 = s; grind
  | succ d ih =>
    show (sb a x s 0 d - a (0 + d) * x (0 + d)) + (sm d _ + a d * x d) = s
    rw [Nat.zero_add, ← ih]; grind
theorem lx_ok {L : Nat → Nat → Rat} {b : Nat → Rat} {n : Nat} (h1 : ∀ i, i < n → L i i = 1) (h0 : ∀ i j, i < j → j < n → L i j = 0) : ∀ i, i < n → apl n L (lxF L b n) i = b i := by
  intro i hi
  show sm n (fun k => L i k * lxF L b n k) = b i
  obtain ⟨d, hd⟩ : ∃ d, n = (i + 1) + d := ⟨n - (i + 1), by omega⟩
  have e : sm n (fun k => L i k * lxF L b n k) = sm (i + 1) (fun k => L i k * lxF L b n k) := by
    conv => lhs; rw [hd]
    rw [sm_split, sm_zero (n := d) fun e he => by rw [h0 i (i + 1 + e) (by omega) (by omega)]; exact Rat.zero_mul _]
    rw [← hd]; exact Rat.add_zero _
  rw [e]
  show sm i (fun k => L i k * lxF L b n k) + L i i * lxF L b n i = b i
  have e2 : lxF L b n i = sb (L i) (lxF L b i) (b i) 0 i := by rw [lx_keep' hi]; simp only [lxF]; exact upd_same _ _ _
  rw [h1 i hi, e2, sm_congr (g := fun k => L i k * lxF L b i k) fun k hk => by rw [lx_keep' (show k < n by omega), lx_keep' (show k < i by omega)]]
  have := sb_sm (a := L i) (x := lxF L b i) (s := b i) i
  rw [← this]; grind
def ubD (D : Nat) : Nat → Nat
  | 0 => 2 * D
  | i + 1 => 2 * D + (i + 1) * (D + 1 + ubD D i)
theorem ub_mono {D i j : Nat} (h : i ≤ j) : ubD D i ≤ ubD D j := by
  induction j with
  | zero => rw [Nat.le_zero.1 h]; exact Nat.le_refl _
  | succ j ih =>
    by_cases e : i = j + 1
    · rw [e]; exact Nat.le_refl _
    · have h1 := ih (by omega)
      have h2 : 1 * (D + 1 + ubD D j) ≤ (j + 1) * (D + 1 + ubD D j) := Nat.mul_le_mul_right _ (by omega)
      simp only [ubD]; omega
theorem lx_bz {L : Nat → Nat → Rat} {b : Nat → Rat} {n D : Nat} (hL : ∀ i j, i < n → j < n → Bz (L i j) D) (hb : ∀ i, i < n → Bz (b i) D) : ∀ k, k ≤ n → ∀ i, i < k → Bz (lxF L b k i) (ubD D i) := by
  intro k
  induction k with
  | zero => exact fun _ i hi => absurd hi (Nat.not_lt_zero _)
  | succ k ih =>
    intro hk i hi
    have ih := ih (by omega)
    simp only [lxF]
    by_cases e : i = k
    · rw [e, upd_same]
      cases k with
      | zero => exact (hb 0 (by omega)).mono (by simp only [ubD]; omega)
      | succ k =>
        have := sb_bz (a := L (k + 1)) (x := lxF L b (k + 1)) (lo := 0) (d := k + 1) (bx := ubD D k) (hb (k + 1) (by omega)) (fun j _ h => hL (k + 1) j (by omega) (by omega)) (fun j _ h => (ih j (by omega)).mono (ub_mono (by omega)))
        refine this.mono ?_
        simp only [ubD]
        have : D + ubD D k + 1 = D + 1 + ubD D k := by omega
        rw [this]; omega
    · rw [upd_other _ _ e]; exact ih i (by omega)
theorem ux_bz {U : Nat → Nat → Rat} {b : Nat → Rat} {n D : Nat} (hU : ∀ i j, i < n → j < n → Bz (U i j) D) (hb : ∀ i, i < n → Bz (b i) D) : ∀ t, t ≤ n → ∀ i, n ≤ i + t → i < n → Bz (uxF U b n t i) (ubD D (n - 1 - i)) := by
  intro t
  induction t with
  | zero => exact fun _ i h1 h2 => absurd h2 (by omega)
  | succ t ih =>
    intro ht i h1 h2
    have ih := ih (by omega)
    simp only [uxF]
    by_cases e : i = n - 1 - t
    · subst e
      rw [upd_same, show n - 1 - (n - 1 - t) = t by omega]
      have hd := hU (n - 1 - t) (n - 1 - t) h2 h2
      cases t with
      | zero => exact ((hb _ h2).div hd).mono (by simp only [ubD]; omega)
      | succ t =>
        have := sb_bz (a := U (n - 1 - (t + 1))) (x := uxF U b n (t + 1)) (lo := n - (t + 1)) (d := t + 1) (bx := ubD D t) (hb _ h2) (fun j _ h => hU _ j h2 (by omega)) (fun j h h' => (ih j (by omega) (by omega)).mono (ub_mono (by omega)))
        refine (this.div hd).mono ?_
        simp only [ubD]
        have : D + ubD D t + 1 = D + 1 + ubD D t := by omega
        rw [this]; omega
    · rw [upd_other _ _ e]; exact ih i (by omega) h2
end Go.Proofs.YtjfcphohgicolaaGreat

namespace Go.Proofs.YtjfcphohgicolaaGreat
open Go
set_option linter.unusedVariables false
set_option linter.unusedSimpArgs false
set_option maxRecDepth 10000
theorem ux_ok {U : Nat → Nat → Rat} {b : Nat → Rat} {n : Nat} (hu : ∀ i j, i < n → j < i → U i j = 0) (hd : ∀ i, i < n → U i i ≠ 0) : ∀ i, i < n → apl n U (uxF U b n n) i = b i := by
  intro i hi
  have h := bk_ok (A := augM n U b) (n := n) (fun i k hi hk => by show (if k < n then U i k else b i) = 0; rw [if_pos (by omega)]; exact hu i k hi hk) (fun i hi => by show (if i < n then U i i else b i) ≠ 0; rw [if_pos hi]; exact hd i hi) n (Nat.le_refl _) i (by omega) hi
  rw [show augM n U b i n = b i from if_neg (Nat.lt_irrefl n)] at h
  rw [← h, ux_bk n (Nat.le_refl _)]
  exact sm_congr fun k hk => by rw [show augM n U b i k = U i k from if_pos hk]
end Go.Proofs.YtjfcphohgicolaaGreat

namespace Go.Proofs.YtjfcphohgicolaaGreat
open Go
set_option linter.unusedVariables false
def lastS (i n k : Nat) : Nat := if k = i then n - 1 else if k = n - 1 then i else k
theorem lastS_lt {i n k : Nat} (hi : i < n) (hk : k < n) : lastS i n k < n := by
  unfold lastS
  split
  · omega
  · split <;> omega
theorem lastS_inv {i n k : Nat} (hi : i < n) : lastS i n (lastS i n k) = k := by
  unfold lastS
  by_cases a : k = i
  · by_cases b : n - 1 = i
    · rw [if_pos a, if_pos b]; omega
    · rw [if_pos a, if_neg b, if_pos rfl]; exact a.symm
  · by_cases b : k = n - 1
    · rw [if_neg a, if_pos b, if_pos rfl]; exact b.symm
    · rw [if_neg a, if_neg b, if_neg a, if_neg b]
theorem sm_upd {f : Nat → Rat} {v : Rat} {i : Nat} : ∀ m, i < m → sm m (upd f i v) + f i = sm m f + v := by
  intro m
  induction m with
  | zero => intro h; exact absurd h (Nat.not_lt_zero _)
  | succ m ih =>
    intro h
    show sm m (upd f i v) + upd f i v m + f i = sm m f + f m + v
    by_cases e : i = m
    · subst e
      rw [upd_same, sm_congr (g := f) fun k hk => upd_other _ _ (by omega)]; grind
    · have := ih (by omega)
      rw [upd_other _ _ (Ne.symm e)]; grind
theorem sm_last {f : Nat → Rat} {i n : Nat} (hi : i < n) : sm n (fun k => f (lastS i n k)) = sm n f := by
  obtain ⟨m, rfl⟩ : ∃ m, n = m + 1 := ⟨n - 1, by omega⟩
  show sm m (fun k => f (lastS i (m + 1) k)) + f (lastS i (m + 1) m) = sm m f + f m
  by_cases e : i = m
  · subst e
    rw [sm_congr (g := f) fun k hk => by unfold lastS; rw [if_neg (by omega), if_neg (by omega)]]
    have : lastS i (i + 1) i = i := by unfold lastS; rw [if_pos rfl]; omega
    rw [this]
  · have h := sm_upd (f := f) (v := f m) (i := i) m (by omega)
    rw [sm_congr (g := upd f i (f m)) fun k hk => by
      unfold lastS upd
      by_cases e2 : k = i
      · rw [if_pos e2, if_pos e2]; congr 1
      · rw [if_neg e2, if_neg e2, if_neg (by omega)]]
    have e3 : lastS i (m + 1) m = i := by unfold lastS; rw [if_neg (Ne.symm e), if_pos (by omega)]
    rw [e3, h]
theorem bk_last {E : Nat → Nat → Rat} {n : Nat} (n1 : 1 ≤ n) : ∀ t, t + 1 ≤ n → bk E n (t + 1) (n - 1) = E (n - 1) n / E (n - 1) (n - 1) := by
  intro t
  induction t with
  | zero =>
    intro _
    simp only [bk, Nat.sub_zero, sb]
    exact upd_same _ _ _
  | succ t ih => intro h; rw [bk_keep (by omega) (by omega)]; exact ih (by omega)
theorem sol_bz {n : Nat} {A : Nat → Nat → Rat} {x y : Nat → Rat} {R : Nat → Nat} (hd : (elim n A n).det ≠ 0) (hx : ∀ r, r < n → sm n (fun k => A r k * x k) = y r) {i : Nat} (hi : i < n)
    (hRB : RB R n (n + 1) (augM n (fun r k => A r (lastS i n k)) y)) : Bz (x i) (R (n - 1) + R (n - 1)) := by
  have hd' : (elim n (fun r k => A r (lastS i n k)) n).det ≠ 0 := fun e => by
    obtain ⟨v, ⟨k, hk, hv⟩, hker⟩ := ker0 e
    have : Ker n n A fun k => v (lastS i n k) := fun r hr => by
      show sm n (fun k => A r k * v (lastS i n k)) = 0
      rw [← sm_last (f := fun k => A r k * v (lastS i n k)) hi, ← hker r hr]
      exact sm_congr fun k hk => by rw [lastS_inv hi]
    have := ker1 hd this (lastS i n k) (lastS_lt hi hk)
    rw [lastS_inv hi] at this
    exact hv this
  have h1 : ∀ r, r < n → sm n (fun k => A r (lastS i n k) * x (lastS i n k)) = y r := fun r hr => by
    rw [sm_last (f := fun k => A r k * x k) hi]; exact hx r hr
  have h2 := slv_one hd' (u := fun k => x (lastS i n k)) (v := bk (elim n (augM n (fun r k => A r (lastS i n k)) y) n).A n n) (fun r hr => (h1 r hr).trans (slv_ok hd' r hr).symm) (n - 1) (by omega)
  obtain ⟨m, rfl⟩ : ∃ m, n = m + 1 := ⟨n - 1, by omega⟩
  rw [bk_last (by omega) m (Nat.le_refl _)] at h2
  have e : lastS i (m + 1) (m + 1 - 1) = i := by
    unfold lastS
    by_cases c : m + 1 - 1 = i
    · rw [if_pos c]; exact c
    · rw [if_neg c, if_pos rfl]
  have h2 : x (lastS i (m + 1) (m + 1 - 1)) = _ := h2
  rw [e] at h2
  rw [h2]
  have hB := hRB.row (m + 1) (Nat.le_refl _)
  have b1 := hB (m + 1 - 1) (m + 1) (by omega) (by omega)
  have b2 := hB (m + 1 - 1) (m + 1 - 1) (by omega) (by omega)
  have hmin := Rmono hRB.mono (Nat.min_le_left (m + 1 - 1) (elim (m + 1) (augM (m + 1) (fun r k => A r (lastS i (m + 1) k)) y) (m + 1)).r)
  exact (b1.mono hmin).div (b2.mono hmin)
end Go.Proofs.YtjfcphohgicolaaGreat

namespace Go.Proofs.YtjfcphohgicolaaGreat
open Go
set_option linter.unusedVariables false
set_option linter.unusedSimpArgs false
set_option maxRecDepth 10000
end Go.Proofs.YtjfcphohgicolaaGreat

namespace Go.Proofs.YtjfcphohgicolaaGreat
set_option linter.unusedVariables false
theorem pev_sm : ∀ (n : Nat) (c : Nat → Rat) (X : Rat), sm (n + 1) (fun k => X ^ k * c k) = pev n c X := by
  intro n
  induction n with
  | zero => intro c X; show (0 : Rat) + X ^ 0 * c 0 = c 0; rw [Rat.pow_zero]; grind
  | succ n ih =>
    intro c X
    rw [sm_first, pev, ← ih, ← sm_smul, Rat.pow_zero, Rat.one_mul]
    congr 1
    exact sm_congr fun k _ => by rw [Rat.pow_succ]; grind
theorem pw_eq (X : Rat) : ∀ j, pw X j = X ^ j
  | 0 => (Rat.pow_zero ..).symm
  | j + 1 => by rw [pw, pw_eq X j, Rat.pow_succ]; grind
theorem thr_det {n : Nat} {x : Nat → Rat} : (elim (n + 1) (fun i k => x i ^ k) (n + 1)).det ≠ 0 ↔ Inj x (n + 1) := by
  constructor
  · intro h i j hi hj e
    have h1 := slv_ok (A := fun i k => x i ^ k) (y := fun k => if k = i then 1 else 0) h i hi
    have h2 := slv_ok (A := fun i k => x i ^ k) (y := fun k => if k = i then 1 else 0) h j hj
    rw [e] at h1
    rw [h1, if_pos rfl] at h2
    by_cases e2 : j = i
    · exact e2.symm
    · rw [if_neg e2] at h2; exact absurd h2 (by decide)
  · intro h e
    obtain ⟨v, ⟨k, hk, hv⟩, hK⟩ := ker0 e
    have := thr_unique (n := n) (x := x) (f := fun _ => 0) (c := v) h fun l hl => by
      have := hK l (by omega); rw [pev_sm] at this; exact this
    have h2 := thr_unique (n := n) (x := x) (f := fun _ => 0) (c := fun _ => 0) h fun l hl => by
      rw [← pev_sm]; exact sm_zero fun k _ => Rat.mul_zero _
    exact hv (by rw [← this k (by omega), h2 k (by omega)])
theorem mom_ker {n : Nat} {x w : Nat → Rat} (h : Inj x (n + 1)) (hK : ∀ j, j < n + 1 → sm (n + 1) (fun i => x i ^ j * w i) = 0) : ∀ i, i < n + 1 → w i = 0 := by
  intro l hl
  -- every polynomial's values, weighed, come to nought
  have h2 : ∀ c : Nat → Rat, sm (n + 1) (fun i => w i * pev n c (x i)) = 0 := by
    intro c
    have : ∀ m, m ≤ n + 1 → sm (n + 1) (fun i => w i * sm m (fun k => x i ^ k * c k)) = 0 := by
      intro m
      induction m with
      | zero => intro _; exact sm_zero fun i _ => Rat.mul_zero _
      | succ m ih =>
        intro hm
        have e : (fun i => w i * sm (m + 1) (fun k => x i ^ k * c k)) = fun i => w i * sm m (fun k => x i ^ k * c k) + c m * (x i ^ m * w i) := by
          funext i; show w i * (sm m _ + x i ^ m * c m) = _; grind
        rw [e, sm_add, ih (by omega), sm_smul, hK m (by omega)]; grind
    rw [← this (n + 1) (Nat.le_refl _)]
    exact sm_congr fun i _ => by rw [pev_sm]
  have h3 := h2 (thrC x n fun i => if i = l then 1 else 0)
  rw [sm_congr (g := fun i => w i * (if i = l then 1 else 0)) fun i hi => by rw [thr_interp x _ h (by omega)], sm_one hl] at h3
  exact h3
theorem mom_det {n : Nat} {x : Nat → Rat} : (elim (n + 1) (fun i k => x k ^ i) (n + 1)).det ≠ 0 ↔ Inj x (n + 1) := by
  constructor
  · intro h i j hi hj e
    by_cases e2 : i = j
    · exact e2
    · have := ker1 (v := fun k => if k = i then 1 else if k = j then -1 else 0) h (fun q hq => by
        have e3 : (fun k => x k ^ q * (if k = i then (1 : Rat) else if k = j then -1 else 0)) = fun k => x k ^ q * (if k = i then 1 else 0) - x k ^ q * (if k = j then 1 else 0) := by
          funext k
          by_cases c : k = i
          · rw [if_pos c, if_pos c, if_neg (by omega)]; grind
          · rw [if_neg c, if_neg c]
            split <;> grind
        show sm (n + 1) (fun k => x k ^ q * (if k = i then (1 : Rat) else if k = j then -1 else 0)) = 0
        rw [e3, sm_sub, sm_one hi (fun k => x k ^ q), sm_one hj (fun k => x k ^ q), e]; grind) i hi
      rw [if_pos rfl] at this
      exact absurd this (by decide)
  · intro h e
    obtain ⟨v, ⟨k, hk, hv⟩, hK⟩ := ker0 e
    exact hv (mom_ker h hK k hk)
theorem both {n : Nat} {x f b c w : Nat → Rat} (h : Inj x (n + 1)) (hc : ∀ l, l ≤ n → pev n c (x l) = f l) (hw : ∀ j, j < n + 1 → sm (n + 1) (fun i => x i ^ j * w i) = b j) :
    sm (n + 1) (fun i => w i * f i) = sm (n + 1) (fun i => b i * c i) := by
  have h1 : ∀ i, i < n + 1 → thrC x n f i = c i := fun i hi => thr_unique h hc i (by omega)
  have h2 : ∀ i, i < n + 1 → momC x n b i = w i := fun i hi => slv_one (A := fun i k => x k ^ i) (mom_det.2 h) (fun j hj => by
    rw [hw j hj, ← mom_ok b h (show j ≤ n by omega)]
    exact sm_congr fun i hi => by rw [pw_eq]; grind) i hi
  have := dual x n b f
  rw [sm_congr (g := fun i => b i * c i) fun i hi => by rw [h1 i hi], sm_congr (f := fun i => momC x n b i * f i) (g := fun i => w i * f i) fun i hi => by rw [h2 i hi]] at this
  exact this.symm
end Go.Proofs.YtjfcphohgicolaaGreat

namespace Go.Proofs.YtjfcphohgicolaaGreat
open Go
set_option linter.unusedVariables false
set_option linter.unusedSimpArgs false
set_option maxRecDepth 10000
theorem rb203a {n : Nat} {A : Nat → Nat → Rat} {y : Nat → Rat} (hn : n ≤ 5) (hA : ∀ i k, i < n → k < n → Bz (A i k) 203) (hy : ∀ i, i < n → Bz (y i) 203) : RB (bb 203) n (n + 1) (augM n A y) :=
  RB.std (fun i k hi hk => by
    unfold augM
    split
    · rename_i h; exact hA i k hi h
    · exact hy i hi) (by omega) (Nat.le_trans (dR_mono (j := 6) (by omega)) (by decide +kernel))
end Go.Proofs.YtjfcphohgicolaaGreat

namespace Go.Proofs.YtjfcphohgicolaaGreat
open Go
set_option linter.unusedVariables false
set_option linter.unusedSimpArgs false
set_option maxRecDepth 10000
theorem apl_mul {n : Nat} {L U : Nat → Nat → Rat} {x : Nat → Rat} (i : Nat) : sm n (fun k => mulM n L U i k * x k) = sm n fun t => L i t * apl n U x t := by
  show sm n (fun k => sm n (fun t => U t k * L i t) * x k) = sm n fun t => L i t * sm n fun k => U t k * x k
  have e1 : (fun k => sm n (fun t => U t k * L i t) * x k) = fun k => sm n fun t => x k * (U t k * L i t) := by
    funext k; rw [sm_smul]; exact Rat.mul_comm _ _
  have e2 : (fun t => L i t * sm n fun k => U t k * x k) = fun t => sm n fun k => x k * (U t k * L i t) := by
    funext t; rw [← sm_smul]; exact sm_congr fun k _ => by grind
  rw [e1, e2, sm_comm]
end Go.Proofs.YtjfcphohgicolaaGreat

namespace Go.Proofs.YtjfcphohgicolaaGreat
open Go
set_option linter.unusedVariables false
set_option linter.unusedSimpArgs false
set_option maxRecDepth 10000
/-- A right side, its numbers in the rows' order. -/
abbrev permB (n : Nat) (A : Nat → Nat → Rat) (b : Nat → Rat) (i : Nat) : Rat := b (gO n A i)
abbrev solB (n : Nat) (A : Nat → Nat → Rat) (b : Nat → Rat) : Nat → Rat := uxF (gU n A) (lxF (gL n A) (permB n A b) n) n n
theorem ksolve_ok (q : Bool) (n : Nat) (A : Nat → Nat → Rat) (b : Nat → Rat) (n1 : 1 ≤ n) (hn : n ≤ 5) (hB : GkB n A 42100) (hp : ∀ t, t < n → gpiv n A t ≠ 0) (zb : ∀ i, i < n → Bz (b i) 5) :
    CallP Tryz.prog 35 [partP n A, ratsM q (lst n b)] (.tup [.p (ratsM false (lst n (solB n A b))), .p (.int .i64 0)]) [] := by
  obtain ⟨o1, _, _⟩ := gk_perm (n := n) (A := A) n (Nat.le_refl _)
  have o1 : ∀ i, i < n → gO n A i < n := o1
  have zL : ∀ i j, i < n → j < n → Bz (gL n A i j) 84200 := fun i j hi _ => gM_bz hB (by decide) n (Nat.le_refl _) i j hi
  have zU : ∀ i j, i < n → j < n → Bz (gU n A i j) 20000000 := fun i j hi hj => (hB n (Nat.le_refl _) i j hi hj).mono (by decide)
  have zc : ∀ i, i < n → Bz (permB n A b i) 84200 := fun i hi => (zb _ (o1 i hi)).mono (by decide)
  have e1 : ubD 84200 4 ≤ 20000000 := by decide +kernel
  have e2 : ubD 20000000 4 ≤ 4000000000 := by decide +kernel
  have lX : ∀ k, k ≤ n → ∀ i, i < k → Bz (lxF (gL n A) (permB n A b) k i) 20000000 := fun k hk i hi => (lx_bz zL zc k hk i hi).mono (Nat.le_trans (ub_mono (by omega)) e1)
  have hlo := slowerS_ok false false true n (gL n A) (permB n A b) (by omega) zL zc lX (by omega)
  have zz : ∀ i, i < n → Bz (lxF (gL n A) (permB n A b) n i) 20000000 := fun i hi => lX n (Nat.le_refl _) i hi
  have uX : ∀ t, t ≤ n → ∀ i, n ≤ i + t → i < n → Bz (uxF (gU n A) (lxF (gL n A) (permB n A b) n) n t i) 4000000000 := fun t ht i h1 h2 => (ux_bz zU zz t ht i h1 h2).mono (Nat.le_trans (ub_mono (by omega)) e2)
  have hup := supperS_ok false false false n n (gU n A) (lxF (gL n A) (permB n A b) n) (by omega) zU zz uX (by omega) (Nat.le_refl _) (fun t ht => by rw [gU_diag (by omega)]; exact hp _ (by omega)) (fun h => absurd h (Nat.lt_irrefl _)) _ (fun h => absurd h (Nat.lt_irrefl _)) (fun _ => rfl)
  refine callG_of_vc (wr := wr0) Γok mixed Tryz.func35 (by kernel_rfl) rfl (by kernel_rfl) (le_of_ble rfl) (by simp) ?_
  refine SZ.mk (n : Int) (by simp [lst]) ?_
  refine SZ.mk (n : Int) (by simp) ?_
  refine SCmp.no (neF rfl) ?_
  refine SZ.mk (n : Int) (by simp [lst]) ?_
  refine SZ.mk (n : Int) rfl ?_
  refine SLt.mk (by simp) ?_
  refine SMake.rat n rfl (by omega) ?_
  refine SZ.mk (n : Int) (by simp) ?_
  refine SLoop.mk Nat (fun i => ([(1, .p (ratsM q (lst n b))), (2, .bptr 0 0), (6, .vec 1 3 0 n), (20, .p (.sl false 1 (permP n (gO n A)))), (21, .p (.int .i64 n)), (22, .p (.int .i64 (i : Nat)))], [.box 33 (partA n A), .vec 31 3 (fl n fun k => if k < i then ratP (permB n A b k) else rat0)]))
    (fun i => i ≤ n) (fun i => n - i) 0 [0, 1] (Nat.zero_le _) ⟨rfl, by simp, rfl, rfl, rfl, ⟨rfl, rfl, rfl, rfl, rfl, rfl, trivial⟩, ⟨rfl, congrArg _ ((fl_congr fun k hk => if_neg (by omega)).trans (replicate_fl n rat0).symm), trivial⟩⟩ ?_
  intro i hi
  have hi : i ≤ n := hi
  by_cases hin : i < n
  · refine SCmp.yes (decide_eq_true (by omega)) ?_
    have ho := o1 i hin
    refine SIdx.perm i rfl hin ?_
    refine SCmp.no (decide_eq_false (by omega)) ?_
    refine SZ.mk (n : Int) (by simp [lst]) ?_
    refine SCmp.no (decide_eq_false (by omega)) ?_
    refine SIdx.rf (gO n A i) rfl ho ?_
    refine SPos.mk i rfl hin ?_
    refine SLt.mk (by simp; omega) <| SEs.mk _ (row_step (f := permB n A b) hin) ?_
    refine SWrap.i64z ((i + 1 : Nat) : Int) (by omega) (by omega) ?_
    exact ⟨i + 1, [0, 1], hin, by show n - (i + 1) < n - i; omega, ⟨rfl, by simp, rfl, rfl, rfl, ⟨rfl, rfl, rfl, rfl, rfl, rfl, trivial⟩, ⟨rfl, rfl, trivial⟩⟩⟩
  · refine SCmp.no (decide_eq_false (by omega)) ?_
    obtain rfl : i = n := by omega
    refine SView.mk (rats (lst i (permB i A b))) (by rw [List.drop_zero, row_full']; exact List.take_of_length_le (by simp)) (by simp) ?_
    refine SCall.pure (hlo) ?_
    refine SZ.mk (i : Int) (by simp [lst]) ?_
    refine SZ.mk (i : Int) rfl ?_
    refine SCmp.no (neF rfl) ?_
    refine SCall.pureT (hup) (fun _ => rfl) ?_
    refine SRet.pure (.tup rfl fun a c d e1 e2 => ?_)
    match a, e1, e2 with
    | 0, e1, e2 => cases e1; cases e2; exact .p _ (.sl _ _ (pers_rats _))
    | 1, e1, e2 => cases e1; cases e2; exact .p _ (.int _ _)
theorem solB_ok {n : Nat} {A : Nat → Nat → Rat} {b : Nat → Rat} (hp : ∀ t, t < n → gpiv n A t ≠ 0) : ∀ r, r < n → sm n (fun k => A r k * solB n A b k) = b r := fun r hr => by
  obtain ⟨_, _, o3⟩ := gk_perm (n := n) (A := A) n (Nat.le_refl _)
  obtain ⟨i, hi, e⟩ := o3 r hr
  have e : gO n A i = r := e
  have lok := lx_ok (L := gL n A) (b := permB n A b) (n := n) (fun i hi => gL_diag hi) (fun i j h hj => gL_up (Nat.lt_trans h hj) h)
  have uok := ux_ok (U := gU n A) (b := lxF (gL n A) (permB n A b) n) (n := n) (fun i j hi h => gU_low hp hi h) (fun i hi => by rw [gU_diag hi]; exact hp i hi)
  rw [sm_congr (g := fun k => mulM n (gL n A) (gU n A) i k * solB n A b k) fun k _ => (congrArg (· * solB n A b k) ((g_mul hi).trans (congrArg (fun r => A r k) e))).symm, apl_mul, sm_congr (g := fun t => gL n A i t * lxF (gL n A) (permB n A b) n t) fun t ht => congrArg (gL n A i t * ·) (uok t ht)]
  have := lok i hi
  show sm n (fun t => gL n A i t * lxF (gL n A) (permB n A b) n t) = b r
  rw [← e]; exact this
theorem gkoSolves_ok (m m' : Bool) (n : Int) (ns : List Int) (like : Bool) (bs : List Int) (hn : I64 n) (hns : I64s ns) (hbs : I64s bs) : CallP Tryz.prog 8 [.int .i64 n, .sl m 1 (intsP ns), .bool like, .sl m' 1 (intsP bs)] (.p (.bool true)) [] := by
  obtain ⟨g, hm, H, h5, hk⟩ := gmake_ok m n ns like hn hns
  have n1 := H.n1
  have hB := gkB_wf H h5
  have hrow := row2_ok m' bs hbs g.n (by omega)
  obtain ⟨b, hb⟩ : ∃ b, b = rowG bs := ⟨_, rfl⟩
  have zb : ∀ i, Bz (b i) 5 := fun i => by rw [hb]; exact rowG_bz bs i
  rw [← hb] at hrow
  rcases gpiv_cases g.n (ent g) with hp | ⟨K, hK, hp, hz⟩
  · have f1 := kfactor_ok noF g H hk hB (by decide) (by decide) hp
    have f2 := ksolve_ok false g.n (ent g) b n1 h5 hB hp (fun i _ => zb i)
    have sol := solB_ok (b := b) hp
    obtain ⟨x, hx⟩ : ∃ x, x = solB g.n (ent g) b := ⟨_, rfl⟩
    rw [← hx] at f2 sol
    have zx : ∀ i, i < g.n → Bz (x i) 105000 := fun i hi => (sol_bz (gk_reg hp) sol hi (rb203a h5 (fun r k hr hk => (H.bEnt hr (lastS_lt hi hk)).mono (by decide)) (fun i _ => (zb i).mono (by decide)))).mono (by
      have := bb_mono (b := 203) (show g.n - 1 ≤ 4 by omega)
      have e : bb 203 4 ≤ 52500 := by decide +kernel
      omega)
    have zA : ∀ i k, i < g.n → k < g.n → Bz (ent g i k) 163 := fun i k hi hk => H.bEnt hi hk
    have f3 := rapplyM_ok false false false g.n g.n (ent g) x zA zx (by omega) (by omega) (by omega)
    have ea : lst g.n (apl g.n (ent g) x) = lst g.n b := lst_congr fun i hi => sol i hi
    rw [ea] at f3
    have f4 := rrows_ok false false (lst g.n b) (lst g.n b) (Bl.lst fun i _ => zb i) (Bl.lst fun i _ => zb i) (by decide) (by rw [lst_length]; omega)
    rw [decide_eq_true rfl] at f4
    refine callG_of_vc (wr := wr0) Γok mixed Tryz.func8 (by kernel_rfl) rfl (by kernel_rfl) (le_of_ble rfl) (by simp) ?_
    refine SCall.pure (known13_ok) ?_
    refine SCmp.no (rfl) ?_
    refine SCall.pure (hm) ?_
    refine SCall.pure (hrow) ?_
    refine SCall.pureT (f1) (fun _ => rfl) ?_
    refine SCmp.no (neF rfl) ?_
    refine SCall.pureT (f2) (fun _ => rfl) ?_
    refine SCmp.yes (rfl) ?_
    refine SCall.pure (rexpand5_ok noF g H) ?_
    refine SCall.pure (f3) ?_
    refine SCall.pure (f4) ?_
    exact SRet.pure (.p _ (.bool _))
  · have f1 := kfactorZ_ok noF g H hk hB (by decide) (by decide) hK hp hz
    refine callG_of_vc (wr := wr0) Γok mixed Tryz.func8 (by kernel_rfl) rfl (by kernel_rfl) (le_of_ble rfl) (by simp) ?_
    refine SCall.pure (known13_ok) ?_
    refine SCmp.no (rfl) ?_
    refine SCall.pure (hm) ?_
    refine SCall.pure (hrow) ?_
    refine SCall.pureT (f1) (fun _ => rfl) ?_
    refine SCmp.yes (rfl) ?_
    refine SCmp.yes (rfl) ?_
    exact SRet.pure (.tf _)
end Go.Proofs.YtjfcphohgicolaaGreat

namespace Go.Proofs.YtjfcphohgicolaaGreat
open Go Go.ChangeShapes Go.WideShapes Go.ChangeAt Go.RowKit Go.WideElems
set_option linter.unusedVariables false
set_option linter.unusedSimpArgs false
theorem Tryz.own : ownKnob Tryz.prog.godebug = none := by kernel_rfl
theorem Tryz.laidOut : laidOutB Tryz.prog = true := by kernel_rfl
theorem Tryz.cells3 : Tryz.prog.cellsOf 3 = 1 := by kernel_rfl
abbrev oldF (W : World) : Nat → Prop := fun b => b < W.heap.size
theorem law_call {P : Program} {f : FuncId} {pvs : List PV} (hc : CallP P f pvs (.p (.bool true)) []) {W : World} {vs : List Value} (hl : vs.length = pvs.length) (hv : ∀ (i : Nat) p v, pvs[i]? = some p → vs[i]? = some v → PR W (FBof noBor (oldF W)) p v) :
    Calls P f vs.toArray W fun e W' => e = .returned (.bool true) ∧ Below W.heap.size W W' := by
  refine (hc.run W (oldF W) noBor (fun _ => (none, 0)) vs ⟨by simp [hl], fun i a v e1 e2 => ?_, fun h => by rw [look_nil]; trivial, fun b h => h, fun b h => h.elim, fun h b hl => ?_, fun h h' b hl => ?_, fun a ha k hk => ?_, fun h k hk => ?_⟩).mono ?_
  · rw [List.getElem?_map] at e1
    cases hp : pvs[i]? with
    | none => rw [hp] at e1; cases e1
    | some p => rw [hp] at e1; cases e1; exact .p (hv i p v hp e2)
  · rw [look_nil] at hl; exact hl.elim
  · rw [look_nil] at hl; exact hl.elim
  · obtain ⟨p, _, rfl⟩ := List.mem_map.1 ha; simp only [AV.men] at hk
  · rw [look_nil] at hk; exact hk.elim
  · intro e W' ⟨v, F', β', he, hr⟩
    subst he
    refine ⟨?_, hr.os, hr.tape, hr.output, hr.size, fun b hb => hr.same b hb fun h hl => ?_⟩
    · have := hr.rel
      cases this with | p h => cases h; rfl
    · rw [look_nil] at hl; exact hl.elim
section
variable {H : Type} {enc : TypeId × Value → H} {P : Program} {W : World} {base : Nat} {sp : Nat → Bool} {held : Bool}
theorem openInt {t : TypeId} {r : Go.Reach} {b0 : Nat} {v : Value} {d : DataW H} {ps : List MemPlace} (ht : P.underlying t = some (.int .i64)) (hval : Value.okWide P W r b0 t v) (hd : DataW.Trod enc P W base sp held t v d ps) :
    ∃ n, v = .int .i64 n ∧ I64 n := by
  obtain ⟨n, h1, h2, h3, h4⟩ := open_int ht hval hd
  refine ⟨n, h1, ?_⟩
  simp [Lit.wf, IntKind.min, IntKind.max, IntKind.signed, IntKind.bits] at h4
  exact ⟨by omega, by omega⟩
theorem openInts {t e : TypeId} {r : Go.Reach} {b0 : Nat} {v : Value} {d : DataW H} {ps : List MemPlace} (ht : P.underlying t = some (.slice e)) (he : P.underlying e = some (.int .i64)) (hc : P.cellsOf e = 1) (hval : Value.okWide P W r b0 t v)
    (hd : DataW.Trod enc P W base sp held t v d ps) (hlt : ∀ x ∈ ps, x.block < W.heap.size) : ∃ zs : List Int, I64s zs ∧ PR W (FBof noBor (oldF W)) (.sl false 1 (intsP zs)) v := by
  obtain ⟨a0, len, cap, rfl⟩ := okWide_slice ht hval
  obtain ⟨fuel, hf⟩ := hd
  rcases open_ints ht he hc hf with ⟨hcs, hx⟩ | ⟨a, len', cap', zs, hcs, _, hl, hm, hz, hx, hcell, hwz⟩
  · simp [Value.cells] at hcs
    obtain ⟨rfl, rfl, rfl⟩ := hcs
    exact ⟨[], fun i => by simp [I64], .nil _ _ _⟩
  · simp [Value.cells] at hcs
    obtain ⟨rfl, rfl, rfl⟩ := hcs
    simp only [Prod.mk.injEq] at hx
    obtain ⟨_, rfl⟩ := hx
    have hlen : len ≤ zs.length := by rw [hz]; split <;> omega
    have hspot : a.spot = none := by
      simp only [Value.okWide, ht, Cell.okWide] at hval
      simp [Cell.ok, World.has] at hval
      first | exact hval.1.2.1 | exact hval.2.1 | (have := hval; simp_all)
    obtain ⟨b, off, spot⟩ := a
    simp only at hspot
    subst hspot
    refine ⟨zs.take len, fun i => ?_, ?_⟩
    · by_cases hi : i < (zs.take len).length
      · have hm : (zs.take len).getD i 0 ∈ zs := by
          have : (zs.take len).getD i 0 = (zs.take len)[i] := by simp only [List.getD, List.getElem?_eq_getElem hi, Option.getD_some]
          rw [this]
          exact List.mem_of_mem_take (List.getElem_mem hi)
        have h4 := hwz _ hm
        generalize (zs.take len).getD i 0 = q at h4 ⊢
        simp [Lit.wf, IntKind.min, IntKind.max, IntKind.signed, IntKind.bits] at h4
        exact ⟨by omega, by omega⟩
      · rw [getD_ge _ 0 (by omega)]; simp [I64]
    · have hll : (intsP (zs.take len)).length = len := by simp; omega
      have h := PR.sl (w := W) (FB := FBof noBor (oldF W)) false 1 (intsP (zs.take len)) b off cap (fun i _ => .int .i64 (zs.getD i 0)) (by rw [hll]; exact hl) (fun hne => ?_) (fun e he => ?_) (fun e he c hc => ?_) (fun i e j c e1 e2 => ?_) (fun i e j c e1 e2 => ?_)
      · rw [hll] at h; exact h
      · have hpos : 0 < zs.length := by
          rcases Nat.eq_zero_or_pos zs.length with h0 | h0
          · exact (hne (by rw [List.length_eq_zero_iff.1 h0]; simp)).elim
          · exact h0
        exact hlt (.cell b off) (MemPlace.mem_row.2 ⟨0, hpos, by simp⟩)
      · obtain ⟨z, _, rfl⟩ := List.mem_map.1 he; rfl
      · obtain ⟨z, _, rfl⟩ := List.mem_map.1 he
        have hc : c ∈ [PV.int .i64 z] := hc
        simp at hc; subst hc; rfl
      all_goals
        have hi : i < len := by have := (List.getElem?_eq_some_iff.1 e1).1; rwa [hll] at this
        have he : e = .int .i64 (zs.getD i 0) := by
          rw [List.getElem?_map, List.getElem?_take_of_lt hi, List.getElem?_eq_getElem (show i < zs.length by omega)] at e1
          simp at e1
          simp [List.getD, show i < zs.length by omega, ← e1]
        subst he
        have hj : j = 0 := by
          have := (List.getElem?_eq_some_iff.1 e2).1
          simpa [PV.cells] using this
        subst hj
        first
          | (have := hcell i (by omega)
             rw [show off + i * 1 + 0 = off + i by omega]
             rwa [Addr.add_lit] at this)
          | (have hcv : c = .int .i64 (zs.getD i 0) := by simpa [PV.cells] using e2.symm
             subst hcv
             exact .int _ _)
end
end Go.Proofs.YtjfcphohgicolaaGreat

