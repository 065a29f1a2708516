/- FGScaled: what its proof needs, part 6. -/
import Derived.Test.YtjfcphohgicolaaHGScaled5
set_option linter.unusedVariables false
set_option linter.unusedSimpArgs false
namespace Go.Proofs.Ytjfcphohgicolaa
open Go
set_option linter.unusedVariables false
set_option linter.unusedSimpArgs false
set_option maxRecDepth 10000
theorem kfactor_ok (m : Nat → Bool) (g : GV) {b c D : Nat} (h : Wf g b c) (hk : g.k = 5 ∨ g.k = 7) (hB : GkB g.n (ent g) D) (h1 : 1 ≤ D) (hD : 4 * D + 1 ≤ 1000000) (hp : ∀ t, t < g.n → gpiv g.n (ent g) t ≠ 0) :
    CallP Try.prog 11 [genP m g] (.tup [.p (partP g.n (ent g)), .p (.int .i64 0)]) [] := by
  have h6 := h.n6
  have n1 := h.n1
  have zL : ∀ i j, i < g.n → Bz (gL g.n (ent g) i j) (D + D) := fun i j hi => gM_bz hB h1 g.n (Nat.le_refl _) i j hi
  rcases hk with e | e
  · refine callG_of_vc (wr := wrK) Γok mixed Try.func11 (by kernel_rfl) rfl (by kernel_rfl) (le_of_ble rfl) (by simp) ?_
    refine SCmp.no (neF (by rw [e]; rfl)) ?_
    refine SCall.mtx (gexpandO_ok m g h) ?_
    refine SNil.mk (fun _ => ?_) (fun h => absurd h (by omega))
    refine SDraw.mkX (by kernel_rfl) ?_
    repeat refine SOp.mk _ _ (And.intro rfl rfl) rfl ?_
    refine SOp.mk _ _ (SZ.mk (g.n : Int) rfl (And.intro rfl rfl)) rfl ?_
    repeat refine SOp.mk _ _ (And.intro rfl rfl) rfl ?_
    refine SOp.mk _ _ (SZ.mk (g.n : Int) rfl <| SLt.mk (by simp) <| SMake.mk g.n rfl (by show g.n * 8 ≤ _; omega) (by omega) (And.intro rfl rfl)) rfl ?_
    repeat refine SOp.mk _ _ (And.intro rfl rfl) rfl ?_
    refine SOp.mk _ _ (SCall.pure (kzero_ok) (And.intro rfl rfl)) rfl ?_
    repeat refine SOp.mk _ _ (And.intro rfl rfl) rfl ?_
    refine SFin.mk (by kernel_rfl) ?_
    refine SZ.mk (g.n : Int) rfl ?_
    refine SLoop.mk (Nat × (Nat → Nat)) (fun (i, s) => ([(2, .bptr 5 0), (5, .bptr 0 0), (39, .p (.int .i64 g.n)), (40, .p (.int .i64 (i : Nat)))],
        [.box 61 (gwA g.n 0), .rows 24 (plc 2 g.n g.n id), .pool 30 3 (plr g.n g.n (ent g)), .vec 3 1 (permP g.n s), .map [], .box 36 zpartA]))
      (fun (i, s) => i ≤ g.n ∧ ∀ t, t < g.n → s t = if t < i then t else 0) (fun x => g.n - x.1) (0, fun t => if t < 0 then t else 0) [6, 2, 3, 4, 5, 1] ⟨Nat.zero_le _, fun t _ => rfl⟩
      ⟨rfl, by simp, rfl, rfl, rfl, ⟨rfl, rfl, rfl, rfl, trivial⟩, ⟨rfl, congrArg _ (plc_ren 3 rfl (by decide)), rfl, congrArg _ perm0.symm, rfl, rfl, rows_in fun q hq => by simpa [plenAt] using hq, trivial⟩⟩ ?_
    intro ⟨i, s⟩ ⟨hi, hs⟩
    by_cases hin : i < g.n
    · refine SCmp.yes (decide_eq_true (by omega)) ?_
      refine SPos.mk i rfl hin ?_
      refine SLt.perm hin ?_
      refine SEs.perm ?_
      refine SWrap.i64z ((i + 1 : Nat) : Int) (by omega) (by omega) ?_
      refine ⟨(i + 1, _), [0, 1, 2, 3, 4, 5], ⟨hin, fun t ht => ?_⟩, by show g.n - (i + 1) < g.n - i; omega, ⟨rfl, by simp, rfl, rfl, rfl, ⟨rfl, rfl, rfl, rfl, trivial⟩, ⟨rfl, congrArg _ (plc_ren 2 rfl (by decide)), rfl, rfl, rfl, rfl, rows_in fun q hq => by simpa [plenAt] using hq, trivial⟩⟩⟩
      show upd s (i + 0) i t = _
      unfold upd
      by_cases e : t = i
      · rw [if_pos (by omega), if_pos (by omega), e]
      · rw [if_neg (by omega), hs t ht]
        by_cases e2 : t < i
        · rw [if_pos e2, if_pos (by omega)]
        · rw [if_neg e2, if_neg (by omega)]
    refine SCmp.no (decide_eq_false (by omega)) ?_
    obtain rfl : i = g.n := by omega
    have es : permP g.n s = permP g.n id := permP_congr fun t ht => by rw [hs t ht, if_pos ht]; rfl
    refine SCall.gw (glook_ok g.n 0 (ent g) (ent g) id [] 0 (Nat.zero_le _) (by omega) (fun i hi => hi) (fun _ _ _ _ => rfl) (hB 0 (Nat.zero_le _)) (bz_zero.mono h1) (by omega) (fun e he => by simp at he)) (fun _ => rfl) (by decide) ⟨rfl, fun _ => rfl⟩ ⟨rfl, fun _ => rfl⟩ ⟨rfl, fun _ => rfl⟩ ⟨congrArg (Blk.vec 3 1) es, fun _ => rfl⟩ ⟨rfl, fun _ => rfl⟩ ?_
    refine SZ.mk (g.n : Int) rfl ?_
    refine SLoop.mk (Nat × (Nat → Nat → Rat)) (fun (k, G) => ([(2, .bptr 5 0), (5, .bptr 0 0), (7, .bptr 6 0), (61, .p (.int .i64 g.n)), (62, .p (.int .i64 (k : Nat)))],
        gwB g.n G (gk g.n (ent g) k).s (gtk g.n (ent g) k) (ggr g.n (ent g) k) ++ [.box 36 zpartA, .box 30 (bxQ (ggr g.n (ent g) 0))]))
      (fun (k, G) => k ≤ g.n ∧ ∀ i j, i < g.n → j < g.n → G ((gk g.n (ent g) k).s i) j = (gk g.n (ent g) k).B i j) (fun x => g.n - x.1) (0, ent g) [0, 1, 2, 3, 4, 5, 6] ⟨Nat.zero_le _, fun _ _ _ _ => rfl⟩
      ⟨rfl, by simp, rfl, rfl, rfl, ⟨rfl, rfl, rfl, rfl, rfl, trivial⟩, ⟨rfl, congrArg _ (plc_ren 2 rfl (by decide)), rfl, rfl, rfl, rfl, rfl, rows_in (s := id) fun q hq => by simpa [plenAt] using hq, trivial⟩⟩ ?_
    intro ⟨k, G⟩ ⟨hkn, hG⟩
    obtain ⟨r1, r2, r3⟩ := gk_perm (n := g.n) (A := ent g) k (by omega)
    have zr := ggr_bz hB h1 k (by omega)
    by_cases hkn2 : k < g.n
    · refine SCmp.yes (decide_eq_true (by omega)) ?_
      refine SCall.gw (glook_ok g.n k G (gk g.n (ent g) k).B (gk g.n (ent g) k).s (gtk g.n (ent g) k) (ggr g.n (ent g) k) (by omega) (by omega) r1 hG (hB k (by omega)) zr (by omega) (gtk_key k).pers)
        (fun _ => rfl) (by decide) ⟨rfl, fun _ => rfl⟩ ⟨rfl, fun _ => rfl⟩ ⟨rfl, fun _ => rfl⟩ ⟨rfl, fun _ => rfl⟩ ⟨rfl, fun _ => rfl⟩ ?_
      refine SCall.gw (gpick_ok g.n k G (gk g.n (ent g) k).B (gk g.n (ent g) k).s (gtk g.n (ent g) k) (ggr g.n (ent g) (k + 1)) true (by omega) (by omega) r1 hG (hB k (by omega)) (by omega) (gtk_key k).pers ((decide_eq_true (by rw [← gpiv_eq]; exact hp k hkn2)).symm))
        (fun _ => rfl) (by decide) ⟨rfl, fun _ => rfl⟩ ⟨rfl, fun _ => rfl⟩ ⟨rfl, fun _ => rfl⟩ ⟨rfl, fun _ => rfl⟩ ⟨rfl, fun _ => rfl⟩ ?_
      refine SCmp.no (rfl) ?_
      obtain ⟨si, hsi⟩ := gw_inv (n := g.n) (A := ent g) (k := k + 1) (by omega)
      obtain ⟨q1, q2, _⟩ := gk_perm (n := g.n) (A := ent g) (k + 1) (by omega)
      refine SCall.gw (gclean_ok g.n k G (gkP g.n (ent g) k) (gk g.n (ent g) (k + 1)).s si (gtk g.n (ent g) k) (ggr g.n (ent g) (k + 1)) (by omega) (by omega) q1 q2 hsi (gw_swp (by omega) hG) (hB.P (by omega)) (by omega) (hp k hkn2) (gtk_key k))
        (fun _ => rfl) (by decide) ⟨rfl, fun _ => rfl⟩ ⟨rfl, fun _ => rfl⟩ ⟨rfl, fun _ => rfl⟩ ⟨rfl, fun _ => rfl⟩ ⟨rfl, fun _ => rfl⟩ ?_
      refine SWrap.i64z ((k + 1 : Nat) : Int) (by omega) (by omega) ?_
      exact ⟨(k + 1, fun r j => redA (gkP g.n (ent g) k) k (si r) j), [0, 1, 2, 3, 4, 5, 6], ⟨by omega, gw_next (by omega) hsi⟩, by show g.n - (k + 1) < g.n - k; omega, ⟨rfl, by simp, rfl, rfl, rfl, ⟨rfl, rfl, rfl, rfl, rfl, trivial⟩, ⟨rfl, congrArg _ (plc_ren 2 rfl (by decide)), rfl, rfl, rfl, rfl, rfl, rows_in fun q hq => by simpa [plenAt] using q1 q hq, trivial⟩⟩⟩
    · refine SCmp.no (decide_eq_false (by omega)) ?_
      obtain rfl : k = g.n := by omega
      have r1 : ∀ i, i < g.n → gO g.n (ent g) i < g.n := r1
      have own := gown_ok true true g.n (fun i => G (gO g.n (ent g) i)) n1 (by omega) (fun i j hi hj => by
        have e : G (gO g.n (ent g) i) j = (gk g.n (ent g) g.n).B i j := hG i j hi hj
        rw [e]; exact hB g.n (Nat.le_refl _) i j hi hj) (by omega)
      have eU : matP false false g.n g.n (fun i => G (gO g.n (ent g) i)) = matP false false g.n g.n (gU g.n (ent g)) := matP_congr fun i j hi hj => hG i j hi hj
      rw [eU] at own
      refine SDraw.mkX (by kernel_rfl) ?_
      repeat refine SOp.mk _ _ (And.intro rfl rfl) rfl ?_
      refine SOp.mk _ _ (SLendR.plc rfl r1 <| SCall.pure own (And.intro rfl rfl)) rfl ?_
      repeat refine SOp.mk _ _ (And.intro rfl rfl) rfl ?_
      refine SFin.mk (by kernel_rfl) ?_
      refine SZ.mk (g.n : Int) rfl ?_
      refine SLoop.mkT Nat (fun i => match i with
          | 0 => ([(2, .bptr 5 0), (5, .bptr 0 0), (7, .bptr 6 0), (9, .bptr 7 0), (91, .p (.int .i64 g.n)), (92, .p (.int .i64 0))],
            gwB g.n G (gO g.n (ent g)) (gtk g.n (ent g) g.n) (ggr g.n (ent g) g.n) ++ ([Blk.box 36 zpartA, Blk.box 30 (bxQ (ggr g.n (ent g) 0)), Blk.box 36 [.vec (.t 3) 1 0 g.n, .p (.raw (.slice none 0 0)), .p (matP false false g.n g.n (gU g.n (ent g))), .p (.bool false), .p (.sl false 1 []), .p (.sl false 1 [])], Blk.pool 30 3 (plr 0 g.n (gL g.n (ent g)))] : List Blk))
          | i + 1 => ([(2, .bptr 5 0), (5, .bptr 0 0), (7, .bptr 6 0), (9, .bptr 7 0), (91, .p (.int .i64 g.n)), (92, .p (.int .i64 ((i + 1 : Nat) : Int)))],
            gwB g.n G (gO g.n (ent g)) (gtk g.n (ent g) g.n) (ggr g.n (ent g) g.n) ++ ([Blk.box 36 zpartA, Blk.box 30 (bxQ (ggr g.n (ent g) 0)), Blk.box 36 [.vec (.t 3) 1 0 g.n, .vec (.t 9) 1 0 (i + 1), .p (matP false false g.n g.n (gU g.n (ent g))), .p (.bool false), .p (.sl false 1 []), .p (.sl false 1 [])], Blk.pool 30 3 (plr (i + 1) g.n (gL g.n (ent g))), Blk.rows 24 (plc 8 g.n (i + 1) id)] : List Blk)))
        (fun i => i ≤ g.n) (fun i => g.n - i) 0 [0, 1, 2, 3, 4, 5, 6, 7, 8] _ _ (.pool 30 3 (.done _ _)) (Nat.zero_le _) ⟨rfl, by simp, rfl, rfl, rfl, ⟨rfl, rfl, rfl, rfl, rfl, rfl, trivial⟩, ⟨rfl, congrArg _ (plc_ren 2 rfl (by decide)), rfl, rfl, rfl, rfl, rfl, rfl, rfl, rows_in fun q hq => by simpa [plenAt] using r1 q hq, trivial⟩⟩ ?_
      intro i hi
      match i, hi with
      | 0, hi =>
        refine SCmp.yes (decide_eq_true (by omega)) ?_
        refine SZ.mk (g.n : Int) rfl ?_
        refine SZ.mk (g.n : Int) rfl ?_
        refine SLt.mk (by simp) ?_
        refine SMake.rat g.n rfl (by omega) ?_
        refine SZ.mk (g.n : Int) rfl ?_
        refine SLoop.mk Nat (fun j => ([(2, .bptr 5 0), (5, .bptr 0 0), (7, .bptr 6 0), (9, .bptr 7 0), (10, .p (.int .i64 0)), (11, .vec 9 3 0 g.n), (91, .p (.int .i64 g.n)), (92, .p (.int .i64 0)), (102, .p (.int .i64 g.n)), (103, .p (.int .i64 (j : Nat)))],
            gwB g.n G (gO g.n (ent g)) (gtk g.n (ent g) g.n) (ggr g.n (ent g) g.n) ++ ([Blk.box 36 zpartA, Blk.box 30 (bxQ (ggr g.n (ent g) 0)), Blk.box 36 [.vec (.t 3) 1 0 g.n, .p (.raw (.slice none 0 0)), .p (matP false false g.n g.n (gU g.n (ent g))), .p (.bool false), .p (.sl false 1 []), .p (.sl false 1 [])], Blk.pool 30 3 (plr 0 g.n (gL g.n (ent g))),Blk.vec 30 3 (fl g.n fun k => if k < j then ratP (gL g.n (ent g) (0) k) else rat0)] : List Blk)))
          (fun j => j ≤ g.n) (fun j => g.n - j) 0 [0, 1, 2, 3, 4, 5, 6, 7, 8, 9] (Nat.zero_le _) ⟨rfl, by simp, rfl, rfl, rfl, ⟨rfl, rfl, rfl, rfl, rfl, rfl, rfl, rfl, rfl, rfl, trivial⟩, ⟨rfl, congrArg _ (plc_ren 2 rfl (by decide)), rfl, rfl, rfl, rfl, rfl, rfl, rfl,congrArg _ ((fl_congr fun k hk => if_neg (by omega)).trans (replicate_fl g.n rat0).symm), rows_in fun q hq => by simpa [plenAt] using r1 q hq, trivial⟩⟩ ?_
        intro j hj
        have hj : j ≤ g.n := hj
        by_cases hjn : j < g.n
        · refine SCmp.yes (decide_eq_true (by omega)) ?_
          have low := glower_ok g.n (ent g) (fl g.n fun i => ratsM true (lst g.n (G (gO g.n (ent g) i)))) (ggr g.n (ent g) g.n) (0) j (by omega) hjn (zL (0) j (by omega)) (by omega)
          refine SLendR.plc rfl r1 ?_
          refine SView.all (by simp) ?_
          refine SCall.pure (low) ?_
          refine SPos.mk j rfl hjn ?_
          refine SLt.mk (by simp; omega) <| SEs.mk _ (row_step hjn) ?_
          refine SWrap.i64z ((j + 1 : Nat) : Int) (by omega) (by omega) ?_
          exact ⟨j + 1, [0, 1, 2, 3, 4, 5, 6, 7, 8, 9], hjn, by show g.n - (j + 1) < g.n - j; omega, ⟨rfl, by simp, rfl, rfl, rfl, ⟨rfl, rfl, rfl, rfl, rfl, rfl, rfl, rfl, rfl, rfl, trivial⟩, ⟨rfl, congrArg _ (plc_ren 2 rfl (by decide)), rfl, rfl, rfl, rfl, rfl, rfl, rfl,rfl, rows_in fun q hq => by simpa [plenAt] using r1 q hq, trivial⟩⟩⟩
        · refine SCmp.no (decide_eq_false (by omega)) ?_
          obtain rfl : j = g.n := by omega
          refine SRoom.mk (by simp) (by simp) ?_
          refine SWrap.i64z ((0 + 1 : Nat) : Int) (by omega) (by omega) ?_
          exact ⟨1, [0, 1, 2, 3, 4, 5, 6, 7, 10008, 11], n1, by show g.n - 1 < g.n - 0; omega, ⟨rfl, by simp, rfl, rfl, rfl, ⟨rfl, rfl, rfl, rfl, rfl, rfl, trivial⟩, ⟨rfl, congrArg _ (plc_ren 2 rfl (by decide)), rfl, rfl, rfl, rfl, rfl, rfl, ⟨_, _, _, _, rfl, rfl, congrArg _ (plr_snoc.trans (congrArg (fun r => plr 0 g.n (gL g.n (ent g)) ++ [some r]) row_full))⟩, congrArg _ (plc_absorb (p' := 8) (q := 9) (c := g.n) (k := 0) rfl (by decide) (by simp [plenAt])), rows_in fun q hq => by simpa [plenAt] using r1 q hq, rows_in fun q hq => by simpa [plenAt] using hq, trivial⟩⟩⟩
      | i + 1, hi =>
        have hi : i + 1 ≤ g.n := hi
        by_cases hin : i + 1 < g.n
        · refine SCmp.yes (decide_eq_true (by omega)) ?_
          refine SZ.mk (g.n : Int) rfl ?_
          refine SZ.mk (g.n : Int) rfl ?_
          refine SLt.mk (by simp) ?_
          refine SMake.rat g.n rfl (by omega) ?_
          refine SZ.mk (g.n : Int) rfl ?_
          refine SLoop.mk Nat (fun j => ([(2, .bptr 5 0), (5, .bptr 0 0), (7, .bptr 6 0), (9, .bptr 7 0), (10, .p (.int .i64 ((i + 1 : Nat) : Int))), (11, .vec 10 3 0 g.n), (91, .p (.int .i64 g.n)), (92, .p (.int .i64 ((i + 1 : Nat) : Int))), (102, .p (.int .i64 g.n)), (103, .p (.int .i64 (j : Nat)))],
              gwB g.n G (gO g.n (ent g)) (gtk g.n (ent g) g.n) (ggr g.n (ent g) g.n) ++ ([Blk.box 36 zpartA, Blk.box 30 (bxQ (ggr g.n (ent g) 0)), Blk.box 36 [.vec (.t 3) 1 0 g.n, .vec (.t 9) 1 0 (i + 1), .p (matP false false g.n g.n (gU g.n (ent g))), .p (.bool false), .p (.sl false 1 []), .p (.sl false 1 [])], Blk.pool 30 3 (plr (i + 1) g.n (gL g.n (ent g))), Blk.rows 24 (plc 8 g.n (i + 1) id),Blk.vec 30 3 (fl g.n fun k => if k < j then ratP (gL g.n (ent g) (i + 1) k) else rat0)] : List Blk)))
            (fun j => j ≤ g.n) (fun j => g.n - j) 0 [0, 1, 2, 3, 4, 5, 6, 7, 8, 9, 10] (Nat.zero_le _) ⟨rfl, by simp, rfl, rfl, rfl, ⟨rfl, rfl, rfl, rfl, rfl, rfl, rfl, rfl, rfl, rfl, trivial⟩, ⟨rfl, congrArg _ (plc_ren 2 rfl (by decide)), rfl, rfl, rfl, rfl, rfl, rfl, rfl, congrArg _ (plc_ren 8 rfl (by decide)),congrArg _ ((fl_congr fun k hk => if_neg (by omega)).trans (replicate_fl g.n rat0).symm), rows_in fun q hq => by simpa [plenAt] using r1 q hq, rows_in fun q hq => by simpa [plenAt] using hq,trivial⟩⟩ ?_
          intro j hj
          have hj : j ≤ g.n := hj
          by_cases hjn : j < g.n
          · refine SCmp.yes (decide_eq_true (by omega)) ?_
            have low := glower_ok g.n (ent g) (fl g.n fun i => ratsM true (lst g.n (G (gO g.n (ent g) i)))) (ggr g.n (ent g) g.n) (i + 1) j (by omega) hjn (zL (i + 1) j (by omega)) (by omega)
            refine SLendR.plc rfl r1 ?_
            refine SView.all (by simp) ?_
            refine SCall.pure (low) ?_
            refine SPos.mk j rfl hjn ?_
            refine SLt.mk (by simp; omega) <| SEs.mk _ (row_step hjn) ?_
            refine SWrap.i64z ((j + 1 : Nat) : Int) (by omega) (by omega) ?_
            exact ⟨j + 1, [0, 1, 2, 3, 4, 5, 6, 7, 8, 9, 10], hjn, by show g.n - (j + 1) < g.n - j; omega, ⟨rfl, by simp, rfl, rfl, rfl, ⟨rfl, rfl, rfl, rfl, rfl, rfl, rfl, rfl, rfl, rfl, trivial⟩, ⟨rfl, congrArg _ (plc_ren 2 rfl (by decide)), rfl, rfl, rfl, rfl, rfl, rfl, rfl, congrArg _ (plc_ren 8 rfl (by decide)),rfl, rows_in fun q hq => by simpa [plenAt] using r1 q hq, rows_in fun q hq => by simpa [plenAt] using hq,trivial⟩⟩⟩
          · refine SCmp.no (decide_eq_false (by omega)) ?_
            obtain rfl : j = g.n := by omega
            refine SEqN.mk (by simp) ?_
            refine SRoom.mk (by simp; omega) (by simp; omega) ?_
            refine SAs.mk _ rfl ?_
            refine SZN.mk (i + 1 + 1) (by simp) ?_
            refine SWrap.i64z ((i + 1 + 1 : Nat) : Int) (by omega) (by omega) ?_
            exact ⟨i + 1 + 1, [0, 1, 2, 3, 4, 5, 6, 7, 11008, 12], hin, by show g.n - (i + 1 + 1) < g.n - (i + 1); omega, ⟨rfl, by simp, rfl, rfl, rfl, ⟨rfl, rfl, rfl, rfl, rfl, rfl, trivial⟩, ⟨rfl, congrArg _ (plc_ren 2 rfl (by decide)), rfl, rfl, rfl, rfl, rfl, rfl, ⟨_, _, _, _, rfl, rfl, congrArg _ (plr_snoc.trans (congrArg (fun r => plr (i + 1) g.n (gL g.n (ent g)) ++ [some r]) row_full))⟩, congrArg _ (plc_absorb (p' := 8) (q := 10) (c := g.n) (k := i + 1) rfl (by decide) (by simp [plenAt])), rows_in fun q hq => by simpa [plenAt] using r1 q hq, rows_in fun q hq => by simpa [plenAt] using hq, trivial⟩⟩⟩
        · refine SCmp.no (decide_eq_false (by omega)) ?_
          have hn : i + 1 = g.n := by omega
          have z0 : ggr g.n (ent g) 0 ≠ 0 := fun e => by have := ggr_pos n1 (hp 0 n1); rw [e] at this; exact absurd this (by decide)
          have gq := quo_ok (ggr g.n (ent g) g.n) (ggr g.n (ent g) 0) z0 (ggr_bz hB h1 g.n (Nat.le_refl _)).sz (ggr_bz hB h1 0 (Nat.zero_le _)).sz (by omega)
          refine SDraw.mkX (by kernel_rfl) ?_
          repeat refine SOp.mk _ _ (And.intro rfl rfl) rfl ?_
          refine SOp.mk _ _ (SCall.pureT (gq) (fun _ => rfl) (And.intro rfl rfl)) rfl ?_
          repeat refine SOp.mk _ _ (And.intro rfl rfl) rfl ?_
          refine SFin.mk (by kernel_rfl) ?_
          have eL : matP false false g.n g.n (gL g.n (ent g)) = matP false false (i + 1) g.n (gL g.n (ent g)) := by rw [hn]
          refine SRet.pure (.tup rfl fun a c d e1 e2 => ?_)
          match a, e1, e2 with
          | 0, e1, e2 =>
            cases e1; cases e2
            refine .aggp (ps := partC g.n (ent g)) (fun d hd => by simp only [partC, List.mem_cons, List.not_mem_nil, or_false] at hd; rcases hd with rfl | rfl | rfl | rfl | rfl | rfl <;> rfl) rfl fun a c d e1 e2 => ?_
            match a, e1, e2 with
            | 0, e1, e2 => cases e1; cases e2; exact .frz (h := .t 3) rfl (by simp) (by simp) pers_perm (by rw [List.drop_zero]; exact List.take_of_length_le (by simp))
            | 1, e1, e2 => cases e1; cases e2; rw [eL]; exact frzM (h := 9) (p := 8) rfl rfl fun q hq => hq
            | 2, e1, e2 => cases e1; cases e2; exact .p _ pers_matP
            | 3, e1, e2 => cases e1; cases e2; exact .p _ (.bool _)
            | 4, e1, e2 => cases e1; cases e2; exact .p _ (.sl _ _ (pers_limbs _))
            | 5, e1, e2 => cases e1; cases e2; exact .p _ (.sl _ _ (pers_limbs _))
          | 1, e1, e2 => cases e1; cases e2; exact .p _ (.int _ _)
  · refine callG_of_vc (wr := wrK) Γok mixed Try.func11 (by kernel_rfl) rfl (by kernel_rfl) (le_of_ble rfl) (by simp) ?_
    refine SCmp.yes (neT (by rw [e]; decide)) ?_
    refine SCmp.no (neF (by rw [e]; rfl)) ?_
    refine SCall.mtx (gexpandO_ok m g h) ?_
    refine SNil.mk (fun _ => ?_) (fun h => absurd h (by omega))
    refine SDraw.mkX (by kernel_rfl) ?_
    repeat refine SOp.mk _ _ (And.intro rfl rfl) rfl ?_
    refine SOp.mk _ _ (SZ.mk (g.n : Int) rfl (And.intro rfl rfl)) rfl ?_
    repeat refine SOp.mk _ _ (And.intro rfl rfl) rfl ?_
    refine SOp.mk _ _ (SZ.mk (g.n : Int) rfl <| SLt.mk (by simp) <| SMake.mk g.n rfl (by show g.n * 8 ≤ _; omega) (by omega) (And.intro rfl rfl)) rfl ?_
    repeat refine SOp.mk _ _ (And.intro rfl rfl) rfl ?_
    refine SOp.mk _ _ (SCall.pure (kzero_ok) (And.intro rfl rfl)) rfl ?_
    repeat refine SOp.mk _ _ (And.intro rfl rfl) rfl ?_
    refine SFin.mk (by kernel_rfl) ?_
    refine SZ.mk (g.n : Int) rfl ?_
    refine SLoop.mk (Nat × (Nat → Nat)) (fun (i, s) => ([(2, .bptr 5 0), (5, .bptr 0 0), (39, .p (.int .i64 g.n)), (40, .p (.int .i64 (i : Nat)))],
        [.box 61 (gwA g.n 0), .rows 24 (plc 2 g.n g.n id), .pool 30 3 (plr g.n g.n (ent g)), .vec 3 1 (permP g.n s), .map [], .box 36 zpartA]))
      (fun (i, s) => i ≤ g.n ∧ ∀ t, t < g.n → s t = if t < i then t else 0) (fun x => g.n - x.1) (0, fun t => if t < 0 then t else 0) [6, 2, 3, 4, 5, 1] ⟨Nat.zero_le _, fun t _ => rfl⟩
      ⟨rfl, by simp, rfl, rfl, rfl, ⟨rfl, rfl, rfl, rfl, trivial⟩, ⟨rfl, congrArg _ (plc_ren 3 rfl (by decide)), rfl, congrArg _ perm0.symm, rfl, rfl, rows_in fun q hq => by simpa [plenAt] using hq, trivial⟩⟩ ?_
    intro ⟨i, s⟩ ⟨hi, hs⟩
    by_cases hin : i < g.n
    · refine SCmp.yes (decide_eq_true (by omega)) ?_
      refine SPos.mk i rfl hin ?_
      refine SLt.perm hin ?_
      refine SEs.perm ?_
      refine SWrap.i64z ((i + 1 : Nat) : Int) (by omega) (by omega) ?_
      refine ⟨(i + 1, _), [0, 1, 2, 3, 4, 5], ⟨hin, fun t ht => ?_⟩, by show g.n - (i + 1) < g.n - i; omega, ⟨rfl, by simp, rfl, rfl, rfl, ⟨rfl, rfl, rfl, rfl, trivial⟩, ⟨rfl, congrArg _ (plc_ren 2 rfl (by decide)), rfl, rfl, rfl, rfl, rows_in fun q hq => by simpa [plenAt] using hq, trivial⟩⟩⟩
      show upd s (i + 0) i t = _
      unfold upd
      by_cases e : t = i
      · rw [if_pos (by omega), if_pos (by omega), e]
      · rw [if_neg (by omega), hs t ht]
        by_cases e2 : t < i
        · rw [if_pos e2, if_pos (by omega)]
        · rw [if_neg e2, if_neg (by omega)]
    refine SCmp.no (decide_eq_false (by omega)) ?_
    obtain rfl : i = g.n := by omega
    have es : permP g.n s = permP g.n id := permP_congr fun t ht => by rw [hs t ht, if_pos ht]; rfl
    refine SCall.gw (glook_ok g.n 0 (ent g) (ent g) id [] 0 (Nat.zero_le _) (by omega) (fun i hi => hi) (fun _ _ _ _ => rfl) (hB 0 (Nat.zero_le _)) (bz_zero.mono h1) (by omega) (fun e he => by simp at he)) (fun _ => rfl) (by decide) ⟨rfl, fun _ => rfl⟩ ⟨rfl, fun _ => rfl⟩ ⟨rfl, fun _ => rfl⟩ ⟨congrArg (Blk.vec 3 1) es, fun _ => rfl⟩ ⟨rfl, fun _ => rfl⟩ ?_
    refine SZ.mk (g.n : Int) rfl ?_
    refine SLoop.mk (Nat × (Nat → Nat → Rat)) (fun (k, G) => ([(2, .bptr 5 0), (5, .bptr 0 0), (7, .bptr 6 0), (61, .p (.int .i64 g.n)), (62, .p (.int .i64 (k : Nat)))],
        gwB g.n G (gk g.n (ent g) k).s (gtk g.n (ent g) k) (ggr g.n (ent g) k) ++ [.box 36 zpartA, .box 30 (bxQ (ggr g.n (ent g) 0))]))
      (fun (k, G) => k ≤ g.n ∧ ∀ i j, i < g.n → j < g.n → G ((gk g.n (ent g) k).s i) j = (gk g.n (ent g) k).B i j) (fun x => g.n - x.1) (0, ent g) [0, 1, 2, 3, 4, 5, 6] ⟨Nat.zero_le _, fun _ _ _ _ => rfl⟩
      ⟨rfl, by simp, rfl, rfl, rfl, ⟨rfl, rfl, rfl, rfl, rfl, trivial⟩, ⟨rfl, congrArg _ (plc_ren 2 rfl (by decide)), rfl, rfl, rfl, rfl, rfl, rows_in (s := id) fun q hq => by simpa [plenAt] using hq, trivial⟩⟩ ?_
    intro ⟨k, G⟩ ⟨hkn, hG⟩
    obtain ⟨r1, r2, r3⟩ := gk_perm (n := g.n) (A := ent g) k (by omega)
    have zr := ggr_bz hB h1 k (by omega)
    by_cases hkn2 : k < g.n
    · refine SCmp.yes (decide_eq_true (by omega)) ?_
      refine SCall.gw (glook_ok g.n k G (gk g.n (ent g) k).B (gk g.n (ent g) k).s (gtk g.n (ent g) k) (ggr g.n (ent g) k) (by omega) (by omega) r1 hG (hB k (by omega)) zr (by omega) (gtk_key k).pers)
        (fun _ => rfl) (by decide) ⟨rfl, fun _ => rfl⟩ ⟨rfl, fun _ => rfl⟩ ⟨rfl, fun _ => rfl⟩ ⟨rfl, fun _ => rfl⟩ ⟨rfl, fun _ => rfl⟩ ?_
      refine SCall.gw (gpick_ok g.n k G (gk g.n (ent g) k).B (gk g.n (ent g) k).s (gtk g.n (ent g) k) (ggr g.n (ent g) (k + 1)) true (by omega) (by omega) r1 hG (hB k (by omega)) (by omega) (gtk_key k).pers ((decide_eq_true (by rw [← gpiv_eq]; exact hp k hkn2)).symm))
        (fun _ => rfl) (by decide) ⟨rfl, fun _ => rfl⟩ ⟨rfl, fun _ => rfl⟩ ⟨rfl, fun _ => rfl⟩ ⟨rfl, fun _ => rfl⟩ ⟨rfl, fun _ => rfl⟩ ?_
      refine SCmp.no (rfl) ?_
      obtain ⟨si, hsi⟩ := gw_inv (n := g.n) (A := ent g) (k := k + 1) (by omega)
      obtain ⟨q1, q2, _⟩ := gk_perm (n := g.n) (A := ent g) (k + 1) (by omega)
      refine SCall.gw (gclean_ok g.n k G (gkP g.n (ent g) k) (gk g.n (ent g) (k + 1)).s si (gtk g.n (ent g) k) (ggr g.n (ent g) (k + 1)) (by omega) (by omega) q1 q2 hsi (gw_swp (by omega) hG) (hB.P (by omega)) (by omega) (hp k hkn2) (gtk_key k))
        (fun _ => rfl) (by decide) ⟨rfl, fun _ => rfl⟩ ⟨rfl, fun _ => rfl⟩ ⟨rfl, fun _ => rfl⟩ ⟨rfl, fun _ => rfl⟩ ⟨rfl, fun _ => rfl⟩ ?_
      refine SWrap.i64z ((k + 1 : Nat) : Int) (by omega) (by omega) ?_
      exact ⟨(k + 1, fun r j => redA (gkP g.n (ent g) k) k (si r) j), [0, 1, 2, 3, 4, 5, 6], ⟨by omega, gw_next (by omega) hsi⟩, by show g.n - (k + 1) < g.n - k; omega, ⟨rfl, by simp, rfl, rfl, rfl, ⟨rfl, rfl, rfl, rfl, rfl, trivial⟩, ⟨rfl, congrArg _ (plc_ren 2 rfl (by decide)), rfl, rfl, rfl, rfl, rfl, rows_in fun q hq => by simpa [plenAt] using q1 q hq, trivial⟩⟩⟩
    · refine SCmp.no (decide_eq_false (by omega)) ?_
      obtain rfl : k = g.n := by omega
      have r1 : ∀ i, i < g.n → gO g.n (ent g) i < g.n := r1
      have own := gown_ok true true g.n (fun i => G (gO g.n (ent g) i)) n1 (by omega) (fun i j hi hj => by
        have e : G (gO g.n (ent g) i) j = (gk g.n (ent g) g.n).B i j := hG i j hi hj
        rw [e]; exact hB g.n (Nat.le_refl _) i j hi hj) (by omega)
      have eU : matP false false g.n g.n (fun i => G (gO g.n (ent g) i)) = matP false false g.n g.n (gU g.n (ent g)) := matP_congr fun i j hi hj => hG i j hi hj
      rw [eU] at own
      refine SDraw.mkX (by kernel_rfl) ?_
      repeat refine SOp.mk _ _ (And.intro rfl rfl) rfl ?_
      refine SOp.mk _ _ (SLendR.plc rfl r1 <| SCall.pure own (And.intro rfl rfl)) rfl ?_
      repeat refine SOp.mk _ _ (And.intro rfl rfl) rfl ?_
      refine SFin.mk (by kernel_rfl) ?_
      refine SZ.mk (g.n : Int) rfl ?_
      refine SLoop.mkT Nat (fun i => match i with
          | 0 => ([(2, .bptr 5 0), (5, .bptr 0 0), (7, .bptr 6 0), (9, .bptr 7 0), (91, .p (.int .i64 g.n)), (92, .p (.int .i64 0))],
            gwB g.n G (gO g.n (ent g)) (gtk g.n (ent g) g.n) (ggr g.n (ent g) g.n) ++ ([Blk.box 36 zpartA, Blk.box 30 (bxQ (ggr g.n (ent g) 0)), Blk.box 36 [.vec (.t 3) 1 0 g.n, .p (.raw (.slice none 0 0)), .p (matP false false g.n g.n (gU g.n (ent g))), .p (.bool false), .p (.sl false 1 []), .p (.sl false 1 [])], Blk.pool 30 3 (plr 0 g.n (gL g.n (ent g)))] : List Blk))
          | i + 1 => ([(2, .bptr 5 0), (5, .bptr 0 0), (7, .bptr 6 0), (9, .bptr 7 0), (91, .p (.int .i64 g.n)), (92, .p (.int .i64 ((i + 1 : Nat) : Int)))],
            gwB g.n G (gO g.n (ent g)) (gtk g.n (ent g) g.n) (ggr g.n (ent g) g.n) ++ ([Blk.box 36 zpartA, Blk.box 30 (bxQ (ggr g.n (ent g) 0)), Blk.box 36 [.vec (.t 3) 1 0 g.n, .vec (.t 9) 1 0 (i + 1), .p (matP false false g.n g.n (gU g.n (ent g))), .p (.bool false), .p (.sl false 1 []), .p (.sl false 1 [])], Blk.pool 30 3 (plr (i + 1) g.n (gL g.n (ent g))), Blk.rows 24 (plc 8 g.n (i + 1) id)] : List Blk)))
        (fun i => i ≤ g.n) (fun i => g.n - i) 0 [0, 1, 2, 3, 4, 5, 6, 7, 8] _ _ (.pool 30 3 (.done _ _)) (Nat.zero_le _) ⟨rfl, by simp, rfl, rfl, rfl, ⟨rfl, rfl, rfl, rfl, rfl, rfl, trivial⟩, ⟨rfl, congrArg _ (plc_ren 2 rfl (by decide)), rfl, rfl, rfl, rfl, rfl, rfl, rfl, rows_in fun q hq => by simpa [plenAt] using r1 q hq, trivial⟩⟩ ?_
      intro i hi
      match i, hi with
      | 0, hi =>
        refine SCmp.yes (decide_eq_true (by omega)) ?_
        refine SZ.mk (g.n : Int) rfl ?_
        refine SZ.mk (g.n : Int) rfl ?_
        refine SLt.mk (by simp) ?_
        refine SMake.rat g.n rfl (by omega) ?_
        refine SZ.mk (g.n : Int) rfl ?_
        refine SLoop.mk Nat (fun j => ([(2, .bptr 5 0), (5, .bptr 0 0), (7, .bptr 6 0), (9, .bptr 7 0), (10, .p (.int .i64 0)), (11, .vec 9 3 0 g.n), (91, .p (.int .i64 g.n)), (92, .p (.int .i64 0)), (102, .p (.int .i64 g.n)), (103, .p (.int .i64 (j : Nat)))],
            gwB g.n G (gO g.n (ent g)) (gtk g.n (ent g) g.n) (ggr g.n (ent g) g.n) ++ ([Blk.box 36 zpartA, Blk.box 30 (bxQ (ggr g.n (ent g) 0)), Blk.box 36 [.vec (.t 3) 1 0 g.n, .p (.raw (.slice none 0 0)), .p (matP false false g.n g.n (gU g.n (ent g))), .p (.bool false), .p (.sl false 1 []), .p (.sl false 1 [])], Blk.pool 30 3 (plr 0 g.n (gL g.n (ent g))),Blk.vec 30 3 (fl g.n fun k => if k < j then ratP (gL g.n (ent g) (0) k) else rat0)] : List Blk)))
          (fun j => j ≤ g.n) (fun j => g.n - j) 0 [0, 1, 2, 3, 4, 5, 6, 7, 8, 9] (Nat.zero_le _) ⟨rfl, by simp, rfl, rfl, rfl, ⟨rfl, rfl, rfl, rfl, rfl, rfl, rfl, rfl, rfl, rfl, trivial⟩, ⟨rfl, congrArg _ (plc_ren 2 rfl (by decide)), rfl, rfl, rfl, rfl, rfl, rfl, rfl,congrArg _ ((fl_congr fun k hk => if_neg (by omega)).trans (replicate_fl g.n rat0).symm), rows_in fun q hq => by simpa [plenAt] using r1 q hq, trivial⟩⟩ ?_
        intro j hj
        have hj : j ≤ g.n := hj
        by_cases hjn : j < g.n
        · refine SCmp.yes (decide_eq_true (by omega)) ?_
          have low := glower_ok g.n (ent g) (fl g.n fun i => ratsM true (lst g.n (G (gO g.n (ent g) i)))) (ggr g.n (ent g) g.n) (0) j (by omega) hjn (zL (0) j (by omega)) (by omega)
          refine SLendR.plc rfl r1 ?_
          refine SView.all (by simp) ?_
          refine SCall.pure (low) ?_
          refine SPos.mk j rfl hjn ?_
          refine SLt.mk (by simp; omega) <| SEs.mk _ (row_step hjn) ?_
          refine SWrap.i64z ((j + 1 : Nat) : Int) (by omega) (by omega) ?_
          exact ⟨j + 1, [0, 1, 2, 3, 4, 5, 6, 7, 8, 9], hjn, by show g.n - (j + 1) < g.n - j; omega, ⟨rfl, by simp, rfl, rfl, rfl, ⟨rfl, rfl, rfl, rfl, rfl, rfl, rfl, rfl, rfl, rfl, trivial⟩, ⟨rfl, congrArg _ (plc_ren 2 rfl (by decide)), rfl, rfl, rfl, rfl, rfl, rfl, rfl,rfl, rows_in fun q hq => by simpa [plenAt] using r1 q hq, trivial⟩⟩⟩
        · refine SCmp.no (decide_eq_false (by omega)) ?_
          obtain rfl : j = g.n := by omega
          refine SRoom.mk (by simp) (by simp) ?_
          refine SWrap.i64z ((0 + 1 : Nat) : Int) (by omega) (by omega) ?_
          exact ⟨1, [0, 1, 2, 3, 4, 5, 6, 7, 10008, 11], n1, by show g.n - 1 < g.n - 0; omega, ⟨rfl, by simp, rfl, rfl, rfl, ⟨rfl, rfl, rfl, rfl, rfl, rfl, trivial⟩, ⟨rfl, congrArg _ (plc_ren 2 rfl (by decide)), rfl, rfl, rfl, rfl, rfl, rfl, ⟨_, _, _, _, rfl, rfl, congrArg _ (plr_snoc.trans (congrArg (fun r => plr 0 g.n (gL g.n (ent g)) ++ [some r]) row_full))⟩, congrArg _ (plc_absorb (p' := 8) (q := 9) (c := g.n) (k := 0) rfl (by decide) (by simp [plenAt])), rows_in fun q hq => by simpa [plenAt] using r1 q hq, rows_in fun q hq => by simpa [plenAt] using hq, trivial⟩⟩⟩
      | i + 1, hi =>
        have hi : i + 1 ≤ g.n := hi
        by_cases hin : i + 1 < g.n
        · refine SCmp.yes (decide_eq_true (by omega)) ?_
          refine SZ.mk (g.n : Int) rfl ?_
          refine SZ.mk (g.n : Int) rfl ?_
          refine SLt.mk (by simp) ?_
          refine SMake.rat g.n rfl (by omega) ?_
          refine SZ.mk (g.n : Int) rfl ?_
          refine SLoop.mk Nat (fun j => ([(2, .bptr 5 0), (5, .bptr 0 0), (7, .bptr 6 0), (9, .bptr 7 0), (10, .p (.int .i64 ((i + 1 : Nat) : Int))), (11, .vec 10 3 0 g.n), (91, .p (.int .i64 g.n)), (92, .p (.int .i64 ((i + 1 : Nat) : Int))), (102, .p (.int .i64 g.n)), (103, .p (.int .i64 (j : Nat)))],
              gwB g.n G (gO g.n (ent g)) (gtk g.n (ent g) g.n) (ggr g.n (ent g) g.n) ++ ([Blk.box 36 zpartA, Blk.box 30 (bxQ (ggr g.n (ent g) 0)), Blk.box 36 [.vec (.t 3) 1 0 g.n, .vec (.t 9) 1 0 (i + 1), .p (matP false false g.n g.n (gU g.n (ent g))), .p (.bool false), .p (.sl false 1 []), .p (.sl false 1 [])], Blk.pool 30 3 (plr (i + 1) g.n (gL g.n (ent g))), Blk.rows 24 (plc 8 g.n (i + 1) id),Blk.vec 30 3 (fl g.n fun k => if k < j then ratP (gL g.n (ent g) (i + 1) k) else rat0)] : List Blk)))
            (fun j => j ≤ g.n) (fun j => g.n - j) 0 [0, 1, 2, 3, 4, 5, 6, 7, 8, 9, 10] (Nat.zero_le _) ⟨rfl, by simp, rfl, rfl, rfl, ⟨rfl, rfl, rfl, rfl, rfl, rfl, rfl, rfl, rfl, rfl, trivial⟩, ⟨rfl, congrArg _ (plc_ren 2 rfl (by decide)), rfl, rfl, rfl, rfl, rfl, rfl, rfl, congrArg _ (plc_ren 8 rfl (by decide)),congrArg _ ((fl_congr fun k hk => if_neg (by omega)).trans (replicate_fl g.n rat0).symm), rows_in fun q hq => by simpa [plenAt] using r1 q hq, rows_in fun q hq => by simpa [plenAt] using hq,trivial⟩⟩ ?_
          intro j hj
          have hj : j ≤ g.n := hj
          by_cases hjn : j < g.n
          · refine SCmp.yes (decide_eq_true (by omega)) ?_
            have low := glower_ok g.n (ent g) (fl g.n fun i => ratsM true (lst g.n (G (gO g.n (ent g) i)))) (ggr g.n (ent g) g.n) (i + 1) j (by omega) hjn (zL (i + 1) j (by omega)) (by omega)
            refine SLendR.plc rfl r1 ?_
            refine SView.all (by simp) ?_
            refine SCall.pure (low) ?_
            refine SPos.mk j rfl hjn ?_
            refine SLt.mk (by simp; omega) <| SEs.mk _ (row_step hjn) ?_
            refine SWrap.i64z ((j + 1 : Nat) : Int) (by omega) (by omega) ?_
            exact ⟨j + 1, [0, 1, 2, 3, 4, 5, 6, 7, 8, 9, 10], hjn, by show g.n - (j + 1) < g.n - j; omega, ⟨rfl, by simp, rfl, rfl, rfl, ⟨rfl, rfl, rfl, rfl, rfl, rfl, rfl, rfl, rfl, rfl, trivial⟩, ⟨rfl, congrArg _ (plc_ren 2 rfl (by decide)), rfl, rfl, rfl, rfl, rfl, rfl, rfl, congrArg _ (plc_ren 8 rfl (by decide)),rfl, rows_in fun q hq => by simpa [plenAt] using r1 q hq, rows_in fun q hq => by simpa [plenAt] using hq,trivial⟩⟩⟩
          · refine SCmp.no (decide_eq_false (by omega)) ?_
            obtain rfl : j = g.n := by omega
            refine SEqN.mk (by simp) ?_
            refine SRoom.mk (by simp; omega) (by simp; omega) ?_
            refine SAs.mk _ rfl ?_
            refine SZN.mk (i + 1 + 1) (by simp) ?_
            refine SWrap.i64z ((i + 1 + 1 : Nat) : Int) (by omega) (by omega) ?_
            exact ⟨i + 1 + 1, [0, 1, 2, 3, 4, 5, 6, 7, 11008, 12], hin, by show g.n - (i + 1 + 1) < g.n - (i + 1); omega, ⟨rfl, by simp, rfl, rfl, rfl, ⟨rfl, rfl, rfl, rfl, rfl, rfl, trivial⟩, ⟨rfl, congrArg _ (plc_ren 2 rfl (by decide)), rfl, rfl, rfl, rfl, rfl, rfl, ⟨_, _, _, _, rfl, rfl, congrArg _ (plr_snoc.trans (congrArg (fun r => plr (i + 1) g.n (gL g.n (ent g)) ++ [some r]) row_full))⟩, congrArg _ (plc_absorb (p' := 8) (q := 10) (c := g.n) (k := i + 1) rfl (by decide) (by simp [plenAt])), rows_in fun q hq => by simpa [plenAt] using r1 q hq, rows_in fun q hq => by simpa [plenAt] using hq, trivial⟩⟩⟩
        · refine SCmp.no (decide_eq_false (by omega)) ?_
          have hn : i + 1 = g.n := by omega
          have z0 : ggr g.n (ent g) 0 ≠ 0 := fun e => by have := ggr_pos n1 (hp 0 n1); rw [e] at this; exact absurd this (by decide)
          have gq := quo_ok (ggr g.n (ent g) g.n) (ggr g.n (ent g) 0) z0 (ggr_bz hB h1 g.n (Nat.le_refl _)).sz (ggr_bz hB h1 0 (Nat.zero_le _)).sz (by omega)
          refine SDraw.mkX (by kernel_rfl) ?_
          repeat refine SOp.mk _ _ (And.intro rfl rfl) rfl ?_
          refine SOp.mk _ _ (SCall.pureT (gq) (fun _ => rfl) (And.intro rfl rfl)) rfl ?_
          repeat refine SOp.mk _ _ (And.intro rfl rfl) rfl ?_
          refine SFin.mk (by kernel_rfl) ?_
          have eL : matP false false g.n g.n (gL g.n (ent g)) = matP false false (i + 1) g.n (gL g.n (ent g)) := by rw [hn]
          refine SRet.pure (.tup rfl fun a c d e1 e2 => ?_)
          match a, e1, e2 with
          | 0, e1, e2 =>
            cases e1; cases e2
            refine .aggp (ps := partC g.n (ent g)) (fun d hd => by simp only [partC, List.mem_cons, List.not_mem_nil, or_false] at hd; rcases hd with rfl | rfl | rfl | rfl | rfl | rfl <;> rfl) rfl fun a c d e1 e2 => ?_
            match a, e1, e2 with
            | 0, e1, e2 => cases e1; cases e2; exact .frz (h := .t 3) rfl (by simp) (by simp) pers_perm (by rw [List.drop_zero]; exact List.take_of_length_le (by simp))
            | 1, e1, e2 => cases e1; cases e2; rw [eL]; exact frzM (h := 9) (p := 8) rfl rfl fun q hq => hq
            | 2, e1, e2 => cases e1; cases e2; exact .p _ pers_matP
            | 3, e1, e2 => cases e1; cases e2; exact .p _ (.bool _)
            | 4, e1, e2 => cases e1; cases e2; exact .p _ (.sl _ _ (pers_limbs _))
            | 5, e1, e2 => cases e1; cases e2; exact .p _ (.sl _ _ (pers_limbs _))
          | 1, e1, e2 => cases e1; cases e2; exact .p _ (.int _ _)
end Go.Proofs.Ytjfcphohgicolaa

namespace Go.Proofs.Ytjfcphohgicolaa
open Go
set_option linter.unusedVariables false
set_option linter.unusedSimpArgs false
set_option maxRecDepth 10000
theorem gpiv_cases (n : Nat) (A : Nat → Nat → Rat) : (∀ t, t < n → gpiv n A t ≠ 0) ∨ ∃ K, K < n ∧ (∀ t, t < K → gpiv n A t ≠ 0) ∧ gpiv n A K = 0 := by
  have key : ∀ m, m ≤ n → (∀ t, t < m → gpiv n A t ≠ 0) ∨ ∃ K, K < m ∧ (∀ t, t < K → gpiv n A t ≠ 0) ∧ gpiv n A K = 0 := by
    intro m
    induction m with
    | zero => exact fun _ => .inl fun t h => absurd h (Nat.not_lt_zero _)
    | succ m ih =>
      intro hm
      rcases ih (by omega) with h | ⟨K, h1, h2, h3⟩
      · by_cases e : gpiv n A m = 0
        · exact .inr ⟨m, Nat.lt_succ_self _, h, e⟩
        · refine .inl fun t ht => ?_
          by_cases et : t = m
          · rw [et]; exact e
          · exact h t (by omega)
      · exact .inr ⟨K, by omega, h2, h3⟩
  exact key n (Nat.le_refl _)
/-- Digits of all that is left, of a Gen of the statements. -/
theorem gkB_wf {g : GV} (h : Wf g 5 13) (h5 : g.n ≤ 5) : GkB g.n (ent g) 42100 := fun k hk i j hi hj =>
  (GkB.of (b := 163) h.n1 (fun i j hi hj => h.bEnt hi hj) k hk i j hi hj).mono (Nat.le_trans (bb_mono (show g.n - 1 ≤ 4 by omega)) (by decide +kernel))
def gk13 : GV := ⟨5, 1, 0, fun _ => ((2 : Int) : Rat), fun _ => ((1 : Int) : Rat), fun _ => 0, fun _ => 0⟩
theorem wf_gk13 : Wf gk13 5 13 where
  k1 := by decide
  k7 := by decide
  n1 := by decide
  n6 := by decide
  r2 := by decide
  r1 := fun h => by rcases h with h | h <;> cases h
  r0 := fun _ => rfl
  bA := fun i _ => int_bz (by decide) (by decide)
  bB := fun i _ => (int_bz (k := 5) (by decide) (by decide)).mono (by decide)
  bG := fun i _ => bz_zero.mono (by decide)
  bH := fun i _ => bz_zero.mono (by decide)
  ne := fun i j _ _ => by show ((2 : Int) : Rat) ≠ ((1 : Int) : Rat); decide
  bc := by decide
  c4 := by decide
/-- One row, of one number, made anew. -/
theorem kall1_ok (A : Nat → Nat → Rat) {a : Nat} (hA : Bz (A 0 0) a) (ha : a + a ≤ 1048576) : CallP Try.prog 12 [matP false false 1 1 A, .sl true 1 [ratsM true (lst 1 fun _ => A 0 0)]] (.p (.bool true)) [] := by
  have h := rall_ok false false true true 1 1 A (a := a) (fun i k hi hk => by
    obtain rfl : i = 0 := by omega
    obtain rfl : k = 0 := by omega
    exact hA) ha (by decide) (by decide)
  exact h
theorem known13_ok : CallP Try.prog 5 [] (.p (.bool true)) [] := by
  have hf := kfactor_ok m15 gk13 wf_gk13 (.inl rfl) (gkB_wf wf_gk13 (by decide)) (by decide) (by decide) (fun t ht => by
    obtain rfl : t = 0 := by have : t < 1 := ht; omega
    decide +kernel)
  have e1 : gU 1 (ent gk13) 0 0 = ((1 : Int) : Rat) := by decide +kernel
  have e2 : gro 1 (ent gk13) = ((1 : Int) : Rat) := by decide +kernel
  have a1 := kall1_ok (gU 1 (ent gk13)) (a := 5) (by rw [e1]; exact int_bz (by decide) (by decide)) (by decide)
  rw [e1] at a1
  have b1 : Bz (gro 1 (ent gk13)) 5 := by rw [e2]; exact int_bz (by decide) (by decide)
  have b2 : Bz ((1 : Int) : Rat) 5 := int_bz (by decide) (by decide)
  have s1 := rsame_ok (gro 1 (ent gk13)) ((1 : Int) : Rat) b1 b2 (by decide)
  rw [decide_eq_true e2] at s1
  refine callG_of_vc (wr := wr0) Γok mixed Try.func5 (by kernel_rfl) rfl (by kernel_rfl) (le_of_ble rfl) (by simp) ?_
  refine SCall.pure (rint_ok 2 (by decide)) ?_
  refine SCall.pure (rint_ok 1 (by decide)) ?_
  refine SView.all rfl <| SView.all rfl <| SCall.pureT (pvs := [.agg [.int .i64 5, .int .i64 1, .int .i64 0, ratsM true (lst 1 gk13.A), ratsM true (lst 1 gk13.B), znil, znil]]) (CallG.weak1 hf (.gen rfl rfl rfl (.refl _) (.refl _) (.nil _ _) (.nil _ _))) (fun _ => rfl) ?_
  refine SDraw.mkX (by kernel_rfl) ?_
  repeat refine SOp.mk _ _ (And.intro rfl rfl) rfl ?_
  refine SOp.mk _ _ (SCmp.yes rfl (And.intro rfl rfl)) rfl ?_
  repeat refine SOp.mk _ _ (And.intro rfl rfl) rfl ?_
  refine SOp.mk _ _ (SZ.mk 1 rfl (And.intro rfl rfl)) rfl ?_
  refine SOp.mk _ _ (SCmp.yes rfl (And.intro rfl rfl)) rfl ?_
  repeat refine SOp.mk _ _ (And.intro rfl rfl) rfl ?_
  refine SOp.mk _ _ (SCall.pure (rint_ok 1 (by decide)) (And.intro rfl rfl)) rfl ?_
  repeat refine SOp.mk _ _ (And.intro rfl rfl) rfl ?_
  refine SOp.mk _ _ (SLendR.mk [ratsM true (lst 1 fun _ => ((1 : Int) : Rat))] rfl rfl (fun i c p e1 e2 => by match i, e1, e2 with | 0, e1, e2 => cases e1; cases e2; exact .vec (es := rats (lst 1 fun _ => ((1 : Int) : Rat))) rfl (by decide)) <| SCall.pure a1 (And.intro rfl rfl)) rfl ?_
  repeat refine SOp.mk _ _ (And.intro rfl rfl) rfl ?_
  refine SOp.mk _ _ (SCall.pure (rint_ok 1 (by decide)) (And.intro rfl rfl)) rfl ?_
  refine SOp.mk _ _ (SCall.pure (s1) (And.intro rfl rfl)) rfl ?_
  repeat refine SOp.mk _ _ (And.intro rfl rfl) rfl ?_
  refine SFin.mk (by kernel_rfl) ?_
  exact SRet.pure (.p _ (.bool _))
end Go.Proofs.Ytjfcphohgicolaa

namespace Go.Proofs.Ytjfcphohgicolaa
open Go
set_option linter.unusedVariables false
set_option linter.unusedSimpArgs false
set_option maxRecDepth 10000
def gscl (g : GV) (f : Rat) : GV := { g with G := fun t => f * g.G t }
theorem ent7 {g : GV} (hk : g.k = 7) (i j : Nat) : ent g i j = rowS g i j / (g.A i - g.B j) := by
  unfold ent
  rw [if_neg (by omega), if_neg (by omega), if_neg (by omega), if_neg (by omega), if_neg (by omega), if_neg (by omega)]
theorem ent_gscl {g : GV} {f : Rat} (hk : g.k = 7) : ent (gscl g f) = fun i j => f * ent g i j := by
  funext i j
  rw [ent7 (g := gscl g f) hk, ent7 hk]
  have e : rowS (gscl g f) i j = f * rowS g i j := by
    unfold rowS
    rw [← sm_smul]
    exact sm_congr fun t _ => Rat.mul_assoc _ _ _
  rw [e]
  show f * rowS g i j / (g.A i - g.B j) = _
  rw [Rat.div_def, Rat.div_def, Rat.mul_assoc]
theorem wf_gscl {g : GV} {f : Rat} (h : Wf g 5 13) (hf : Bz f 5) : Wf (gscl g f) 10 13 where
  k1 := h.k1
  k7 := h.k7
  n1 := h.n1
  n6 := h.n6
  r2 := h.r2
  r1 := h.r1
  r0 := h.r0
  bA := fun i hi => (h.bA i hi).mono (by decide)
  bB := h.bB
  bG := fun i hi => hf.mul (h.bG i hi)
  bH := fun i hi => (h.bH i hi).mono (by decide)
  ne := h.ne
  bc := by decide
  c4 := by decide
/-- The row of the steps' numbers is lent. -/
def mG : Nat → Bool
  | 2 => true
  | _ => false
abbrev partA' (n : Nat) (A : Nat → Nat → Rat) : List AV := [.p (.sl false 1 (permP n (gO n A))), .p (matP false false n n (gL n A)), .p (matP false false n n (gU n A)), .p (.bool (decide ((gro n A).num < 0))), .p (natP (gro n A).num.natAbs), .p (natP (gro n A).den)]
abbrev partB' (n : Nat) (A : Nat → Nat → Rat) (f : Rat) : List AV := [.p (.sl false 1 (permP n (gO n A))), .p (matP false false n n (gL n A)), .p (matP false false n n fun i j => f * gU n A i j), .p (.bool (decide ((gro n A).num < 0))), .p (natP (gro n A).num.natAbs), .p (natP (gro n A).den)]
theorem part_scl {n : Nat} {A : Nat → Nat → Rat} {f : Rat} (hf : f ≠ 0) : partP n (fun i j => f * A i j) = .agg [.sl false 1 (permP n (gO n A)), matP false false n n (gL n A), matP false false n n fun i j => f * gU n A i j, .bool (decide ((gro n A).num < 0)), natP (gro n A).num.natAbs, natP (gro n A).den] := by
  have e := gk_scl (n := n) hf (A := A) n
  have e1 : gO n (fun i j => f * A i j) = gO n A := by unfold gO; rw [e]
  have e2 : gL n (fun i j => f * A i j) = gL n A := by unfold gL; rw [e]
  have e3 : gU n (fun i j => f * A i j) = fun i j => f * gU n A i j := by unfold gU; rw [e]
  have e4 : gro n (fun i j => f * A i j) = gro n A := grow_scl hf
  show PV.agg [.sl false 1 (permP n (gO n fun i j => f * A i j)), matP false false n n (gL n fun i j => f * A i j), matP false false n n (gU n fun i j => f * A i j), .bool (decide ((gro n fun i j => f * A i j).num < 0)), natP (gro n fun i j => f * A i j).num.natAbs, natP (gro n fun i j => f * A i j).den] = _
  rw [e1, e2, e3, e4]
set_option maxHeartbeats 1000000 in
theorem gkoScaled_ok (m : Bool) (n : Int) (ns : List Int) (k : Int) (hn : I64 n) (hns : I64s ns) (hkk : I64 k) : CallP Try.prog 3 [.int .i64 n, .sl m 1 (intsP ns), .int .i64 k] (.p (.bool true)) [] := by
  have hm := lmake5_ok m 6 n 5 ns (by unfold I64; omega) hn hns (by omega) (by omega)
  have hN := gmN_ok n 5 (by omega)
  have H0 := wf_make 6 n 5 ns (by omega) (by omega)
  have e7 : gmK 6 = 7 := by decide
  rw [e7] at hm H0
  obtain ⟨g, hg⟩ : ∃ g, g = mkG 7 (gmN n 5) (gmR 7 n) (rowG ns) := ⟨_, rfl⟩
  rw [← hg] at hm H0
  have H : Wf g 5 13 := H0
  have hk : g.k = 7 := by rw [hg]; rfl
  have h5 : g.n ≤ 5 := by rw [hg]; show gmN n 5 ≤ 5; omega
  have n1 := H.n1
  have hl : g.lh = g.n * g.r := H.lh (.inr hk)
  have hr := H.r1 (.inr hk)
  have hr2 := H.r2
  have hl1 : 1 ≤ g.lh := by rw [hl]; exact Nat.mul_le_mul n1 hr
  have hl2 : g.lh ≤ 10 := by rw [hl]; exact Nat.mul_le_mul h5 hr2
  have hB := gkB_wf H h5
  have hs := small2_ok k hkk
  have key : ∀ f : Rat, f ≠ 0 → Bz f 5 → ent (gscl g f) = (fun i j => f * ent g i j) ∧ Wf (gscl g f) 10 13 ∧ GkB g.n (ent (gscl g f)) 42105 := fun f hf0 zf => by
    refine ⟨ent_gscl hk, wf_gscl H zf, fun q hq i j hi hj => ?_⟩
    rw [ent_gscl hk, gk_scl hf0]
    exact (zf.mul (hB q hq i j hi hj)).mono (by decide)
  have hno := rnought_ok (smallQ k)
  by_cases hz0 : smallQ k = 0
  · rw [decide_eq_true hz0] at hno
    obtain ⟨f, hf⟩ : ∃ f : Rat, f = ((-3 : Int) : Rat) := ⟨_, rfl⟩
    have hf0 : f ≠ 0 := by rw [hf]; decide
    have zf : Bz f 5 := by rw [hf]; exact int_bz (by decide) (by decide)
    obtain ⟨eS, HS, hBS⟩ := key f hf0 zf
    have h3 := rint_ok (-3) (by decide)
    rw [← hf] at h3
    refine callG_of_vc (wr := wr0) Γok mixed Try.func3 (by kernel_rfl) rfl (by kernel_rfl) (le_of_ble rfl) (by simp) ?_
    refine SCall.pure (known13_ok) ?_
    refine SCmp.no (rfl) ?_
    refine SCall.pure (hm) ?_
    refine SCall.pure (hs) ?_
    refine SCall.pure (hno) ?_
    refine SCond.mk (fun _ => ?_) (fun h => by cases h)
    refine SCall.pure (h3) ?_
    refine SEmp.e ?_
    refine SLoop.mk Nat (fun i => match i with
        | 0 => ([(7, .bptr 0 0), (8, .bptr 1 0), (9, .bptr 2 0), (10, .p (.int .i64 0))], [.box 26 (genA noF g), .box 30 (bxQ f), .box 26 [.p (.int .i64 g.k), .p (.int .i64 g.n), .p (.int .i64 g.r), .p (ratsM false (lst g.la g.A)), .p (ratsM false (lst g.lb g.B)), .emp, .p (ratsM false (lst g.lh g.H))]])
        | i + 1 => ([(7, .bptr 0 0), (8, .bptr 1 0), (9, .bptr 2 0), (10, .p (.int .i64 ((i + 1 : Nat) : Int)))], [.box 26 (genA noF g), .box 30 (bxQ f), .box 26 [.p (.int .i64 g.k), .p (.int .i64 g.n), .p (.int .i64 g.r), .p (ratsM false (lst g.la g.A)), .p (ratsM false (lst g.lb g.B)), .vec 3 3 0 (i + 1), .p (ratsM false (lst g.lh g.H))], .vec 30 3 (rats (lst (i + 1) fun t => f * g.G t))]))
      (fun i => i ≤ g.lh) (fun i => g.lh - i) 0 [0, 1, 2] (Nat.zero_le _) ⟨rfl, by simp, rfl, rfl, rfl, ⟨rfl, rfl, rfl, rfl, trivial⟩, ⟨rfl, rfl, rfl, trivial⟩⟩ ?_
    intro i hi
    match i, hi with
    | 0, hi =>
      refine SZ.mk (g.lh : Int) (by simp [lst]) ?_
      refine SCmp.yes (decide_eq_true (by omega)) ?_
      refine SDraw.mkX (by kernel_rfl) ?_
      repeat refine SOp.mk _ _ (And.intro rfl rfl) rfl ?_
      refine SOp.mk _ _ (SIdx.rf 0 rfl (by omega) (And.intro rfl rfl)) rfl ?_
      repeat refine SOp.mk _ _ (And.intro rfl rfl) rfl ?_
      refine SOp.mk _ _ (SCall.pure (rmulq_ok f (g.G 0) zf (H.bG 0 (by omega)) (by decide)) (And.intro rfl rfl)) rfl ?_
      repeat refine SOp.mk _ _ (And.intro rfl rfl) rfl ?_
      refine SOp.mk _ _ (SView.all rfl <| SRoom.mk (by simp) (by simp) (And.intro rfl rfl)) rfl ?_
      repeat refine SOp.mk _ _ (And.intro rfl rfl) rfl ?_
      refine SFin.mk (by kernel_rfl) ?_
      refine SWrap.i64z ((0 + 1 : Nat) : Int) (by omega) (by omega) ?_
      exact ⟨1, [0, 1, 2, 4], by show 1 ≤ g.lh; omega, by show g.lh - 1 < g.lh - 0; omega, ⟨rfl, by simp, rfl, rfl, rfl, ⟨rfl, rfl, rfl, rfl, trivial⟩, ⟨rfl, rfl, rfl, rfl, trivial⟩⟩⟩
    | i + 1, hi =>
      have hi : i + 1 ≤ g.lh := hi
      refine SZ.mk (g.lh : Int) (by simp [lst]) ?_
      by_cases hin : i + 1 < g.lh
      · refine SCmp.yes (decide_eq_true (by omega)) ?_
        refine SDraw.mkX (by kernel_rfl) ?_
        repeat refine SOp.mk _ _ (And.intro rfl rfl) rfl ?_
        refine SOp.mk _ _ (SIdx.rf (i + 1) rfl hin (And.intro rfl rfl)) rfl ?_
        repeat refine SOp.mk _ _ (And.intro rfl rfl) rfl ?_
        refine SOp.mk _ _ (SCall.pure (rmulq_ok f (g.G (i + 1)) zf (H.bG (i + 1) hin) (by decide)) (And.intro rfl rfl)) rfl ?_
        repeat refine SOp.mk _ _ (And.intro rfl rfl) rfl ?_
        refine SOp.mk _ _ (SEqN.mk (by simp [lst]) <| SView.all rfl <| SRoom.mk (by simp [lst]; omega) (by simp [lst]; omega) <| SEs.mk (rats (lst (i + 1 + 1) ((fun t => f * g.G t)))) (app_lst _ _ _ (rfl)) <| SZN.mk (i + 1 + 1) (by simp [lst]) (And.intro rfl rfl)) rfl ?_
        repeat refine SOp.mk _ _ (And.intro rfl rfl) rfl ?_
        refine SFin.mk (by kernel_rfl) ?_
        refine SWrap.i64z ((i + 1 + 1 : Nat) : Int) (by omega) (by omega) ?_
        exact ⟨i + 1 + 1, [0, 1, 2, 5], hin, by show g.lh - (i + 1 + 1) < g.lh - (i + 1); omega, ⟨rfl, by simp, rfl, rfl, rfl, ⟨rfl, rfl, rfl, rfl, trivial⟩, ⟨rfl, rfl, rfl, rfl, trivial⟩⟩⟩
      · refine SCmp.no (decide_eq_false (by omega)) ?_
        have hn1 : i + 1 = g.lh := by omega
        have hle : PRle (.agg [.int .i64 g.k, .int .i64 g.n, .int .i64 g.r, ratsM false (lst g.la g.A), ratsM false (lst g.lb g.B), ratsM true (lst (i + 1) fun t => f * g.G t), ratsM false (lst g.lh g.H)]) (genP mG (gscl g f)) :=
          .gen rfl rfl rfl (.refl _) (.refl _) (by rw [hn1]; exact .refl _) (.refl _)
        rcases gpiv_cases g.n (ent g) with hp | ⟨K, hK, hp, hz⟩
        · have f1 := kfactor_ok noF g H (.inr hk) hB (by decide) (by decide) hp
          have f2 := kfactor_ok mG (gscl g f) HS (.inr hk) hBS (by decide) (by decide) (fun t ht => by
            show gpiv g.n (ent (gscl g f)) t ≠ 0
            rw [eS, gpiv_scl hf0]
            exact fun e => (Rat.mul_eq_zero.1 e).elim hf0 (hp t ht))
          have f2 : CallP Try.prog 11 [genP mG (gscl g f)] (.tup [.p (partP g.n (ent (gscl g f))), .p (.int .i64 0)]) [] := f2
          rw [eS, part_scl hf0] at f2
          have zL : ∀ i j, i < g.n → j < g.n → Bz (gL g.n (ent g) i j) 84200 := fun i j hi _ => gM_bz hB (by decide) g.n (Nat.le_refl _) i j hi
          have zU : ∀ i j, i < g.n → j < g.n → Bz (gU g.n (ent g) i j) 42100 := hB g.n (Nat.le_refl _)
          have zg : Bz (gro g.n (ent g)) 84200 := ((ggr_bz hB (by decide) g.n (Nat.le_refl _)).div (ggr_bz hB (by decide) 0 (Nat.zero_le _))).mono (by decide)
          have f3 := rall_ok false false false false g.n g.n (gL g.n (ent g)) zL (by decide) (by omega) (by omega)
          have f4 := rsame_ok (gro g.n (ent g)) (gro g.n (ent g)) zg zg (by decide)
          rw [decide_eq_true rfl] at f4
          refine SCall.pureT (f1) (fun _ => rfl) ?_
          refine SView.all (by simp [lst]) <| SCall.pureT (pvs := [.agg [.int .i64 g.k, .int .i64 g.n, .int .i64 g.r, ratsM false (lst g.la g.A), ratsM false (lst g.lb g.B), ratsM true (lst (i + 1) fun t => f * g.G t), ratsM false (lst g.lh g.H)]]) (CallG.weak1 f2 hle) (fun _ => rfl) ?_
          refine SCmp.no (neF rfl) ?_
          refine SCmp.no (neF rfl) ?_
          refine SZ.mk (g.n : Int) (by simp) ?_
          refine SCmp.no (neF rfl) ?_
          refine SZ.mk (g.n : Int) (by simp) ?_
          refine SCmp.no (neF rfl) ?_
          refine SZ.mk (g.n : Int) (by simp) ?_
          refine SCmp.no (neF rfl) ?_
          refine SZ.mk (g.n : Int) (by simp) ?_
          refine SCmp.no (neF rfl) ?_
          refine SCall.pure (f3) ?_
          refine SCmp.no (rfl) ?_
          refine SCall.pure (f4) ?_
          refine SCmp.no (rfl) ?_
          refine SLoop.mk Nat (fun a => ([(7, .bptr 0 0), (8, .bptr 1 0), (11, .bptr 2 0), (13, .bptr 3 0), (15, .p (.int .i64 (a : Nat)))], [.box 26 (genA noF g), .box 30 (bxQ f), .box 36 (partA' g.n (ent g)), .box 36 (partB' g.n (ent g) f)]))
            (fun a => a ≤ g.n) (fun a => g.n - a) 0 [0, 1, 4, 5] (Nat.zero_le _) ⟨rfl, by simp, rfl, rfl, rfl, ⟨rfl, rfl, rfl, rfl, rfl, trivial⟩, ⟨rfl, rfl, rfl, rfl, trivial⟩⟩ ?_
          intro a ha
          have ha : a ≤ g.n := ha
          by_cases han : a < g.n
          · refine SCmp.yes (decide_eq_true (by omega)) ?_
            refine SDraw.mk (by kernel_rfl) ?_
            repeat refine SOp.mk _ _ (And.intro rfl rfl) rfl ?_
            refine SOp.mk _ _ (SIdx.perm a rfl han (And.intro rfl rfl)) rfl ?_
            repeat refine SOp.mk _ _ (And.intro rfl rfl) rfl ?_
            refine SOp.mk _ _ (SIdx.perm a rfl han (And.intro rfl rfl)) rfl ?_
            repeat refine SOp.mk _ _ (And.intro rfl rfl) rfl ?_
            refine SOp.mk _ _ (SCmp.no (neF rfl) (And.intro rfl rfl)) rfl ?_
            repeat refine SOp.mk _ _ (And.intro rfl rfl) rfl ?_
            refine SOp.mk _ _ (SIdx.mf a rfl han (And.intro rfl rfl)) rfl ?_
            repeat refine SOp.mk _ _ (And.intro rfl rfl) rfl ?_
            refine SOp.mk _ _ (SZ.mk (g.n : Int) (by simp [lst]) (And.intro rfl rfl)) rfl ?_
            repeat refine SOp.mk _ _ (And.intro rfl rfl) rfl ?_
            refine SOp.mk _ _ (SCmp.no (neF rfl) (And.intro rfl rfl)) rfl ?_
            repeat refine SOp.mk _ _ (And.intro rfl rfl) rfl ?_
            refine SOp.mk _ _ (SIdx.mf a rfl han (And.intro rfl rfl)) rfl ?_
            repeat refine SOp.mk _ _ (And.intro rfl rfl) rfl ?_
            refine SOp.mk _ _ (SZ.mk (g.n : Int) (by simp [lst]) (And.intro rfl rfl)) rfl ?_
            repeat refine SOp.mk _ _ (And.intro rfl rfl) rfl ?_
            refine SOp.mk _ _ (SCmp.no (neF rfl) (And.intro rfl rfl)) rfl ?_
            repeat refine SOp.mk _ _ (And.intro rfl rfl) rfl ?_
            refine SLoop.mk Nat (fun b => ([(7, .bptr 0 0), (8, .bptr 1 0), (11, .bptr 2 0), (13, .bptr 3 0), (15, .p (.int .i64 (a : Nat))), (16, .p (.int .i64 (b : Nat)))], [.box 26 (genA noF g), .box 30 (bxQ f), .box 36 (partA' g.n (ent g)), .box 36 (partB' g.n (ent g) f)]))
              (fun b => b ≤ g.n) (fun b => g.n - b) 0 [0, 1, 2, 3] (Nat.zero_le _) ⟨rfl, by simp, rfl, rfl, rfl, ⟨rfl, rfl, rfl, rfl, rfl, rfl, trivial⟩, ⟨rfl, rfl, rfl, rfl, trivial⟩⟩ ?_
            intro b hb
            have hb : b ≤ g.n := hb
            by_cases hbn : b < g.n
            · refine SCmp.yes (decide_eq_true (by omega)) ?_
              have z1 := zU a b han hbn
              have s1 := rsame_ok (f * gU g.n (ent g) a b) (f * gU g.n (ent g) a b) (zf.mul z1) (zf.mul z1) (by decide)
              rw [decide_eq_true rfl] at s1
              refine SDraw.mk (by kernel_rfl) ?_
              repeat refine SOp.mk _ _ (And.intro rfl rfl) rfl ?_
              refine SOp.mk _ _ (SIdx.mf a rfl han (And.intro rfl rfl)) rfl ?_
              repeat refine SOp.mk _ _ (And.intro rfl rfl) rfl ?_
              refine SOp.mk _ _ (SIdx.rf b rfl hbn (And.intro rfl rfl)) rfl ?_
              repeat refine SOp.mk _ _ (And.intro rfl rfl) rfl ?_
              refine SOp.mk _ _ (SIdx.mf a rfl han (And.intro rfl rfl)) rfl ?_
              repeat refine SOp.mk _ _ (And.intro rfl rfl) rfl ?_
              refine SOp.mk _ _ (SIdx.rf b rfl hbn (And.intro rfl rfl)) rfl ?_
              repeat refine SOp.mk _ _ (And.intro rfl rfl) rfl ?_
              refine SOp.mk _ _ (SCall.pure (rmulq_ok f (gU g.n (ent g) a b) zf z1 (by decide)) (And.intro rfl rfl)) rfl ?_
              refine SOp.mk _ _ (SCall.pure (s1) (And.intro rfl rfl)) rfl ?_
              refine SOp.mk _ _ (SCmp.no rfl (And.intro rfl rfl)) rfl ?_
              refine SWrap.i64z ((b + 1 : Nat) : Int) (by omega) (by omega) ?_
              exact ⟨b + 1, [0, 1, 2, 3], hbn, by show g.n - (b + 1) < g.n - b; omega, ⟨rfl, by simp, rfl, rfl, rfl, ⟨rfl, rfl, rfl, rfl, rfl, rfl, trivial⟩, ⟨rfl, rfl, rfl, rfl, trivial⟩⟩⟩
            · refine SCmp.no (decide_eq_false (by omega)) ?_
              refine SWrap.i64z ((a + 1 : Nat) : Int) (by omega) (by omega) ?_
              exact ⟨a + 1, [0, 1, 2, 3], han, by show g.n - (a + 1) < g.n - a; omega, ⟨rfl, by simp, rfl, rfl, rfl, ⟨rfl, rfl, rfl, rfl, rfl, trivial⟩, ⟨rfl, rfl, rfl, rfl, trivial⟩⟩⟩
          · refine SCmp.no (decide_eq_false (by omega)) ?_
            exact SRet.pure (.tf _)
        · have f1 := kfactorZ_ok noF g H (.inr hk) hB (by decide) (by decide) hK hp hz
          have f2 := kfactorZ_ok mG (gscl g f) HS (.inr hk) hBS (by decide) (by decide) (K := K) hK (fun t ht => by
            show gpiv g.n (ent (gscl g f)) t ≠ 0
            rw [eS, gpiv_scl hf0]
            exact fun e => (Rat.mul_eq_zero.1 e).elim hf0 (hp t ht)) (by
            show gpiv g.n (ent (gscl g f)) K = 0
            rw [eS, gpiv_scl hf0, hz]; exact Rat.mul_zero _)
          refine SCall.pureT (f1) (fun _ => rfl) ?_
          refine SView.all (by simp [lst]) <| SCall.pureT (pvs := [.agg [.int .i64 g.k, .int .i64 g.n, .int .i64 g.r, ratsM false (lst g.la g.A), ratsM false (lst g.lb g.B), ratsM true (lst (i + 1) fun t => f * g.G t), ratsM false (lst g.lh g.H)]]) (CallG.weak1 f2 hle) (fun _ => rfl) ?_
          refine SCmp.no (neF rfl) ?_
          refine SCmp.yes (rfl) ?_
          refine SCmp.yes (rfl) ?_
          exact SRet.pure (.tf _)
  · rw [decide_eq_false hz0] at hno
    obtain ⟨f, hf⟩ : ∃ f, f = smallQ k := ⟨_, rfl⟩
    have hf0 : f ≠ 0 := by rw [hf]; exact hz0
    have zf : Bz f 5 := by rw [hf]; exact smallQ_bz k
    obtain ⟨eS, HS, hBS⟩ := key f hf0 zf
    rw [← hf] at hs hno
    refine callG_of_vc (wr := wr0) Γok mixed Try.func3 (by kernel_rfl) rfl (by kernel_rfl) (le_of_ble rfl) (by simp) ?_
    refine SCall.pure (known13_ok) ?_
    refine SCmp.no (rfl) ?_
    refine SCall.pure (hm) ?_
    refine SCall.pure (hs) ?_
    refine SCall.pure (hno) ?_
    refine SCond.mk (fun h => by cases h) (fun _ => ?_)
    refine SEmp.e ?_
    refine SLoop.mk Nat (fun i => match i with
        | 0 => ([(7, .bptr 0 0), (8, .bptr 1 0), (9, .bptr 2 0), (10, .p (.int .i64 0))], [.box 26 (genA noF g), .box 30 (bxQ f), .box 26 [.p (.int .i64 g.k), .p (.int .i64 g.n), .p (.int .i64 g.r), .p (ratsM false (lst g.la g.A)), .p (ratsM false (lst g.lb g.B)), .emp, .p (ratsM false (lst g.lh g.H))]])
        | i + 1 => ([(7, .bptr 0 0), (8, .bptr 1 0), (9, .bptr 2 0), (10, .p (.int .i64 ((i + 1 : Nat) : Int)))], [.box 26 (genA noF g), .box 30 (bxQ f), .box 26 [.p (.int .i64 g.k), .p (.int .i64 g.n), .p (.int .i64 g.r), .p (ratsM false (lst g.la g.A)), .p (ratsM false (lst g.lb g.B)), .vec 3 3 0 (i + 1), .p (ratsM false (lst g.lh g.H))], .vec 30 3 (rats (lst (i + 1) fun t => f * g.G t))]))
      (fun i => i ≤ g.lh) (fun i => g.lh - i) 0 [0, 1, 2] (Nat.zero_le _) ⟨rfl, by simp, rfl, rfl, rfl, ⟨rfl, rfl, rfl, rfl, trivial⟩, ⟨rfl, rfl, rfl, trivial⟩⟩ ?_
    intro i hi
    match i, hi with
    | 0, hi =>
      refine SZ.mk (g.lh : Int) (by simp [lst]) ?_
      refine SCmp.yes (decide_eq_true (by omega)) ?_
      refine SDraw.mkX (by kernel_rfl) ?_
      repeat refine SOp.mk _ _ (And.intro rfl rfl) rfl ?_
      refine SOp.mk _ _ (SIdx.rf 0 rfl (by omega) (And.intro rfl rfl)) rfl ?_
      repeat refine SOp.mk _ _ (And.intro rfl rfl) rfl ?_
      refine SOp.mk _ _ (SCall.pure (rmulq_ok f (g.G 0) zf (H.bG 0 (by omega)) (by decide)) (And.intro rfl rfl)) rfl ?_
      repeat refine SOp.mk _ _ (And.intro rfl rfl) rfl ?_
      refine SOp.mk _ _ (SView.all rfl <| SRoom.mk (by simp) (by simp) (And.intro rfl rfl)) rfl ?_
      repeat refine SOp.mk _ _ (And.intro rfl rfl) rfl ?_
      refine SFin.mk (by kernel_rfl) ?_
      refine SWrap.i64z ((0 + 1 : Nat) : Int) (by omega) (by omega) ?_
      exact ⟨1, [0, 1, 2, 4], by show 1 ≤ g.lh; omega, by show g.lh - 1 < g.lh - 0; omega, ⟨rfl, by simp, rfl, rfl, rfl, ⟨rfl, rfl, rfl, rfl, trivial⟩, ⟨rfl, rfl, rfl, rfl, trivial⟩⟩⟩
    | i + 1, hi =>
      have hi : i + 1 ≤ g.lh := hi
      refine SZ.mk (g.lh : Int) (by simp [lst]) ?_
      by_cases hin : i + 1 < g.lh
      · refine SCmp.yes (decide_eq_true (by omega)) ?_
        refine SDraw.mkX (by kernel_rfl) ?_
        repeat refine SOp.mk _ _ (And.intro rfl rfl) rfl ?_
        refine SOp.mk _ _ (SIdx.rf (i + 1) rfl hin (And.intro rfl rfl)) rfl ?_
        repeat refine SOp.mk _ _ (And.intro rfl rfl) rfl ?_
        refine SOp.mk _ _ (SCall.pure (rmulq_ok f (g.G (i + 1)) zf (H.bG (i + 1) hin) (by decide)) (And.intro rfl rfl)) rfl ?_
        repeat refine SOp.mk _ _ (And.intro rfl rfl) rfl ?_
        refine SOp.mk _ _ (SEqN.mk (by simp [lst]) <| SView.all rfl <| SRoom.mk (by simp [lst]; omega) (by simp [lst]; omega) <| SEs.mk (rats (lst (i + 1 + 1) ((fun t => f * g.G t)))) (app_lst _ _ _ (rfl)) <| SZN.mk (i + 1 + 1) (by simp [lst]) (And.intro rfl rfl)) rfl ?_
        repeat refine SOp.mk _ _ (And.intro rfl rfl) rfl ?_
        refine SFin.mk (by kernel_rfl) ?_
        refine SWrap.i64z ((i + 1 + 1 : Nat) : Int) (by omega) (by omega) ?_
        exact ⟨i + 1 + 1, [0, 1, 2, 5], hin, by show g.lh - (i + 1 + 1) < g.lh - (i + 1); omega, ⟨rfl, by simp, rfl, rfl, rfl, ⟨rfl, rfl, rfl, rfl, trivial⟩, ⟨rfl, rfl, rfl, rfl, trivial⟩⟩⟩
      · refine SCmp.no (decide_eq_false (by omega)) ?_
        have hn1 : i + 1 = g.lh := by omega
        have hle : PRle (.agg [.int .i64 g.k, .int .i64 g.n, .int .i64 g.r, ratsM false (lst g.la g.A), ratsM false (lst g.lb g.B), ratsM true (lst (i + 1) fun t => f * g.G t), ratsM false (lst g.lh g.H)]) (genP mG (gscl g f)) :=
          .gen rfl rfl rfl (.refl _) (.refl _) (by rw [hn1]; exact .refl _) (.refl _)
        rcases gpiv_cases g.n (ent g) with hp | ⟨K, hK, hp, hz⟩
        · have f1 := kfactor_ok noF g H (.inr hk) hB (by decide) (by decide) hp
          have f2 := kfactor_ok mG (gscl g f) HS (.inr hk) hBS (by decide) (by decide) (fun t ht => by
            show gpiv g.n (ent (gscl g f)) t ≠ 0
            rw [eS, gpiv_scl hf0]
            exact fun e => (Rat.mul_eq_zero.1 e).elim hf0 (hp t ht))
          have f2 : CallP Try.prog 11 [genP mG (gscl g f)] (.tup [.p (partP g.n (ent (gscl g f))), .p (.int .i64 0)]) [] := f2
          rw [eS, part_scl hf0] at f2
          have zL : ∀ i j, i < g.n → j < g.n → Bz (gL g.n (ent g) i j) 84200 := fun i j hi _ => gM_bz hB (by decide) g.n (Nat.le_refl _) i j hi
          have zU : ∀ i j, i < g.n → j < g.n → Bz (gU g.n (ent g) i j) 42100 := hB g.n (Nat.le_refl _)
          have zg : Bz (gro g.n (ent g)) 84200 := ((ggr_bz hB (by decide) g.n (Nat.le_refl _)).div (ggr_bz hB (by decide) 0 (Nat.zero_le _))).mono (by decide)
          have f3 := rall_ok false false false false g.n g.n (gL g.n (ent g)) zL (by decide) (by omega) (by omega)
          have f4 := rsame_ok (gro g.n (ent g)) (gro g.n (ent g)) zg zg (by decide)
          rw [decide_eq_true rfl] at f4
          refine SCall.pureT (f1) (fun _ => rfl) ?_
          refine SView.all (by simp [lst]) <| SCall.pureT (pvs := [.agg [.int .i64 g.k, .int .i64 g.n, .int .i64 g.r, ratsM false (lst g.la g.A), ratsM false (lst g.lb g.B), ratsM true (lst (i + 1) fun t => f * g.G t), ratsM false (lst g.lh g.H)]]) (CallG.weak1 f2 hle) (fun _ => rfl) ?_
          refine SCmp.no (neF rfl) ?_
          refine SCmp.no (neF rfl) ?_
          refine SZ.mk (g.n : Int) (by simp) ?_
          refine SCmp.no (neF rfl) ?_
          refine SZ.mk (g.n : Int) (by simp) ?_
          refine SCmp.no (neF rfl) ?_
          refine SZ.mk (g.n : Int) (by simp) ?_
          refine SCmp.no (neF rfl) ?_
          refine SZ.mk (g.n : Int) (by simp) ?_
          refine SCmp.no (neF rfl) ?_
          refine SCall.pure (f3) ?_
          refine SCmp.no (rfl) ?_
          refine SCall.pure (f4) ?_
          refine SCmp.no (rfl) ?_
          refine SLoop.mk Nat (fun a => ([(7, .bptr 0 0), (8, .bptr 1 0), (11, .bptr 2 0), (13, .bptr 3 0), (15, .p (.int .i64 (a : Nat)))], [.box 26 (genA noF g), .box 30 (bxQ f), .box 36 (partA' g.n (ent g)), .box 36 (partB' g.n (ent g) f)]))
            (fun a => a ≤ g.n) (fun a => g.n - a) 0 [0, 1, 4, 5] (Nat.zero_le _) ⟨rfl, by simp, rfl, rfl, rfl, ⟨rfl, rfl, rfl, rfl, rfl, trivial⟩, ⟨rfl, rfl, rfl, rfl, trivial⟩⟩ ?_
          intro a ha
          have ha : a ≤ g.n := ha
          by_cases han : a < g.n
          · refine SCmp.yes (decide_eq_true (by omega)) ?_
            refine SDraw.mk (by kernel_rfl) ?_
            repeat refine SOp.mk _ _ (And.intro rfl rfl) rfl ?_
            refine SOp.mk _ _ (SIdx.perm a rfl han (And.intro rfl rfl)) rfl ?_
            repeat refine SOp.mk _ _ (And.intro rfl rfl) rfl ?_
            refine SOp.mk _ _ (SIdx.perm a rfl han (And.intro rfl rfl)) rfl ?_
            repeat refine SOp.mk _ _ (And.intro rfl rfl) rfl ?_
            refine SOp.mk _ _ (SCmp.no (neF rfl) (And.intro rfl rfl)) rfl ?_
            repeat refine SOp.mk _ _ (And.intro rfl rfl) rfl ?_
            refine SOp.mk _ _ (SIdx.mf a rfl han (And.intro rfl rfl)) rfl ?_
            repeat refine SOp.mk _ _ (And.intro rfl rfl) rfl ?_
            refine SOp.mk _ _ (SZ.mk (g.n : Int) (by simp [lst]) (And.intro rfl rfl)) rfl ?_
            repeat refine SOp.mk _ _ (And.intro rfl rfl) rfl ?_
            refine SOp.mk _ _ (SCmp.no (neF rfl) (And.intro rfl rfl)) rfl ?_
            repeat refine SOp.mk _ _ (And.intro rfl rfl) rfl ?_
            refine SOp.mk _ _ (SIdx.mf a rfl han (And.intro rfl rfl)) rfl ?_
            repeat refine SOp.mk _ _ (And.intro rfl rfl) rfl ?_
            refine SOp.mk _ _ (SZ.mk (g.n : Int) (by simp [lst]) (And.intro rfl rfl)) rfl ?_
            repeat refine SOp.mk _ _ (And.intro rfl rfl) rfl ?_
            refine SOp.mk _ _ (SCmp.no (neF rfl) (And.intro rfl rfl)) rfl ?_
            repeat refine SOp.mk _ _ (And.intro rfl rfl) rfl ?_
            refine SLoop.mk Nat (fun b => ([(7, .bptr 0 0), (8, .bptr 1 0), (11, .bptr 2 0), (13, .bptr 3 0), (15, .p (.int .i64 (a : Nat))), (16, .p (.int .i64 (b : Nat)))], [.box 26 (genA noF g), .box 30 (bxQ f), .box 36 (partA' g.n (ent g)), .box 36 (partB' g.n (ent g) f)]))
              (fun b => b ≤ g.n) (fun b => g.n - b) 0 [0, 1, 2, 3] (Nat.zero_le _) ⟨rfl, by simp, rfl, rfl, rfl, ⟨rfl, rfl, rfl, rfl, rfl, rfl, trivial⟩, ⟨rfl, rfl, rfl, rfl, trivial⟩⟩ ?_
            intro b hb
            have hb : b ≤ g.n := hb
            by_cases hbn : b < g.n
            · refine SCmp.yes (decide_eq_true (by omega)) ?_
              have z1 := zU a b han hbn
              have s1 := rsame_ok (f * gU g.n (ent g) a b) (f * gU g.n (ent g) a b) (zf.mul z1) (zf.mul z1) (by decide)
              rw [decide_eq_true rfl] at s1
              refine SDraw.mk (by kernel_rfl) ?_
              repeat refine SOp.mk _ _ (And.intro rfl rfl) rfl ?_
              refine SOp.mk _ _ (SIdx.mf a rfl han (And.intro rfl rfl)) rfl ?_
              repeat refine SOp.mk _ _ (And.intro rfl rfl) rfl ?_
              refine SOp.mk _ _ (SIdx.rf b rfl hbn (And.intro rfl rfl)) rfl ?_
              repeat refine SOp.mk _ _ (And.intro rfl rfl) rfl ?_
              refine SOp.mk _ _ (SIdx.mf a rfl han (And.intro rfl rfl)) rfl ?_
              repeat refine SOp.mk _ _ (And.intro rfl rfl) rfl ?_
              refine SOp.mk _ _ (SIdx.rf b rfl hbn (And.intro rfl rfl)) rfl ?_
              repeat refine SOp.mk _ _ (And.intro rfl rfl) rfl ?_
              refine SOp.mk _ _ (SCall.pure (rmulq_ok f (gU g.n (ent g) a b) zf z1 (by decide)) (And.intro rfl rfl)) rfl ?_
              refine SOp.mk _ _ (SCall.pure (s1) (And.intro rfl rfl)) rfl ?_
              refine SOp.mk _ _ (SCmp.no rfl (And.intro rfl rfl)) rfl ?_
              refine SWrap.i64z ((b + 1 : Nat) : Int) (by omega) (by omega) ?_
              exact ⟨b + 1, [0, 1, 2, 3], hbn, by show g.n - (b + 1) < g.n - b; omega, ⟨rfl, by simp, rfl, rfl, rfl, ⟨rfl, rfl, rfl, rfl, rfl, rfl, trivial⟩, ⟨rfl, rfl, rfl, rfl, trivial⟩⟩⟩
            · refine SCmp.no (decide_eq_false (by omega)) ?_
              refine SWrap.i64z ((a + 1 : Nat) : Int) (by omega) (by omega) ?_
              exact ⟨a + 1, [0, 1, 2, 3], han, by show g.n - (a + 1) < g.n - a; omega, ⟨rfl, by simp, rfl, rfl, rfl, ⟨rfl, rfl, rfl, rfl, rfl, trivial⟩, ⟨rfl, rfl, rfl, rfl, trivial⟩⟩⟩
          · refine SCmp.no (decide_eq_false (by omega)) ?_
            exact SRet.pure (.tf _)
        · have f1 := kfactorZ_ok noF g H (.inr hk) hB (by decide) (by decide) hK hp hz
          have f2 := kfactorZ_ok mG (gscl g f) HS (.inr hk) hBS (by decide) (by decide) (K := K) hK (fun t ht => by
            show gpiv g.n (ent (gscl g f)) t ≠ 0
            rw [eS, gpiv_scl hf0]
            exact fun e => (Rat.mul_eq_zero.1 e).elim hf0 (hp t ht)) (by
            show gpiv g.n (ent (gscl g f)) K = 0
            rw [eS, gpiv_scl hf0, hz]; exact Rat.mul_zero _)
          refine SCall.pureT (f1) (fun _ => rfl) ?_
          refine SView.all (by simp [lst]) <| SCall.pureT (pvs := [.agg [.int .i64 g.k, .int .i64 g.n, .int .i64 g.r, ratsM false (lst g.la g.A), ratsM false (lst g.lb g.B), ratsM true (lst (i + 1) fun t => f * g.G t), ratsM false (lst g.lh g.H)]]) (CallG.weak1 f2 hle) (fun _ => rfl) ?_
          refine SCmp.no (neF rfl) ?_
          refine SCmp.yes (rfl) ?_
          refine SCmp.yes (rfl) ?_
          exact SRet.pure (.tf _)
end Go.Proofs.Ytjfcphohgicolaa

namespace Go.Proofs.Ytjfcphohgicolaa
open Go Go.ChangeShapes Go.WideShapes Go.ChangeAt Go.RowKit Go.WideElems
set_option linter.unusedVariables false
set_option linter.unusedSimpArgs false
theorem Try.own : ownKnob Try.prog.godebug = none := by kernel_rfl
theorem Try.laidOut : laidOutB Try.prog = true := by kernel_rfl
theorem Try.cells3 : Try.prog.cellsOf 3 = 1 := by kernel_rfl
abbrev oldF (W : World) : Nat → Prop := fun b => b < W.heap.size
theorem law_call {P : Program} {f : FuncId} {pvs : List PV} (hc : CallP P f pvs (.p (.bool true)) []) {W : World} {vs : List Value} (hl : vs.length = pvs.length) (hv : ∀ (i : Nat) p v, pvs[i]? = some p → vs[i]? = some v → PR W (FBof noBor (oldF W)) p v) :
    Calls P f vs.toArray W fun e W' => e = .returned (.bool true) ∧ Below W.heap.size W W' := by
  refine (hc.run W (oldF W) noBor (fun _ => (none, 0)) vs ⟨by simp [hl], fun i a v e1 e2 => ?_, fun h => by rw [look_nil]; trivial, fun b h => h, fun b h => h.elim, fun h b hl => ?_, fun h h' b hl => ?_, fun a ha k hk => ?_, fun h k hk => ?_⟩).mono ?_
  · rw [List.getElem?_map] at e1
    cases hp : pvs[i]? with
    | none => rw [hp] at e1; cases e1
    | some p => rw [hp] at e1; cases e1; exact .p (hv i p v hp e2)
  · rw [look_nil] at hl; exact hl.elim
  · rw [look_nil] at hl; exact hl.elim
  · obtain ⟨p, _, rfl⟩ := List.mem_map.1 ha; simp only [AV.men] at hk
  · rw [look_nil] at hk; exact hk.elim
  · intro e W' ⟨v, F', β', he, hr⟩
    subst he
    refine ⟨?_, hr.os, hr.tape, hr.output, hr.size, fun b hb => hr.same b hb fun h hl => ?_⟩
    · have := hr.rel
      cases this with | p h => cases h; rfl
    · rw [look_nil] at hl; exact hl.elim
section
variable {H : Type} {enc : TypeId × Value → H} {P : Program} {W : World} {base : Nat} {sp : Nat → Bool} {held : Bool}
theorem openInt {t : TypeId} {r : Go.Reach} {b0 : Nat} {v : Value} {d : DataW H} {ps : List MemPlace} (ht : P.underlying t = some (.int .i64)) (hval : Value.okWide P W r b0 t v) (hd : DataW.Trod enc P W base sp held t v d ps) :
    ∃ n, v = .int .i64 n ∧ I64 n := by
  obtain ⟨n, h1, h2, h3, h4⟩ := open_int ht hval hd
  refine ⟨n, h1, ?_⟩
  simp [Lit.wf, IntKind.min, IntKind.max, IntKind.signed, IntKind.bits] at h4
  exact ⟨by omega, by omega⟩
theorem openInts {t e : TypeId} {r : Go.Reach} {b0 : Nat} {v : Value} {d : DataW H} {ps : List MemPlace} (ht : P.underlying t = some (.slice e)) (he : P.underlying e = some (.int .i64)) (hc : P.cellsOf e = 1) (hval : Value.okWide P W r b0 t v)
    (hd : DataW.Trod enc P W base sp held t v d ps) (hlt : ∀ x ∈ ps, x.block < W.heap.size) : ∃ zs : List Int, I64s zs ∧ PR W (FBof noBor (oldF W)) (.sl false 1 (intsP zs)) v := by
  obtain ⟨a0, len, cap, rfl⟩ := okWide_slice ht hval
  obtain ⟨fuel, hf⟩ := hd
  rcases open_ints ht he hc hf with ⟨hcs, hx⟩ | ⟨a, len', cap', zs, hcs, _, hl, hm, hz, hx, hcell, hwz⟩
  · simp [Value.cells] at hcs
    obtain ⟨rfl, rfl, rfl⟩ := hcs
    exact ⟨[], fun i => by simp [I64], .nil _ _ _⟩
  · simp [Value.cells] at hcs
    obtain ⟨rfl, rfl, rfl⟩ := hcs
    simp only [Prod.mk.injEq] at hx
    obtain ⟨_, rfl⟩ := hx
    have hlen : len ≤ zs.length := by rw [hz]; split <;> omega
    have hspot : a.spot = none := by
      simp only [Value.okWide, ht, Cell.okWide] at hval
      simp [Cell.ok, World.has] at hval
      first | exact hval.1.2.1 | exact hval.2.1 | (have := hval; simp_all)
    obtain ⟨b, off, spot⟩ := a
    simp only at hspot
    subst hspot
    refine ⟨zs.take len, fun i => ?_, ?_⟩
    · by_cases hi : i < (zs.take len).length
      · have hm : (zs.take len).getD i 0 ∈ zs := by
          have : (zs.take len).getD i 0 = (zs.take len)[i] := by simp only [List.getD, List.getElem?_eq_getElem hi, Option.getD_some]
          rw [this]
          exact List.mem_of_mem_take (List.getElem_mem hi)
        have h4 := hwz _ hm
        generalize (zs.take len).getD i 0 = q at h4 ⊢
        simp [Lit.wf, IntKind.min, IntKind.max, IntKind.signed, IntKind.bits] at h4
        exact ⟨by omega, by omega⟩
      · rw [getD_ge _ 0 (by omega)]; simp [I64]
    · have hll : (intsP (zs.take len)).length = len := by simp; omega
      have h := PR.sl (w := W) (FB := FBof noBor (oldF W)) false 1 (intsP (zs.take len)) b off cap (fun i _ => .int .i64 (zs.getD i 0)) (by rw [hll]; exact hl) (fun hne => ?_) (fun e he => ?_) (fun e he c hc => ?_) (fun i e j c e1 e2 => ?_) (fun i e j c e1 e2 => ?_)
      · rw [hll] at h; exact h
      · have hpos : 0 < zs.length := by
          rcases Nat.eq_zero_or_pos zs.length with h0 | h0
          · exact (hne (by rw [List.length_eq_zero_iff.1 h0]; simp)).elim
          · exact h0
        exact hlt (.cell b off) (MemPlace.mem_row.2 ⟨0, hpos, by simp⟩)
      · obtain ⟨z, _, rfl⟩ := List.mem_map.1 he; rfl
      · obtain ⟨z, _, rfl⟩ := List.mem_map.1 he
        have hc : c ∈ [PV.int .i64 z] := hc
        simp at hc; subst hc; rfl
      all_goals
        have hi : i < len := by have := (List.getElem?_eq_some_iff.1 e1).1; rwa [hll] at this
        have he : e = .int .i64 (zs.getD i 0) := by
          rw [List.getElem?_map, List.getElem?_take_of_lt hi, List.getElem?_eq_getElem (show i < zs.length by omega)] at e1
          simp at e1
          simp [List.getD, show i < zs.length by omega, ← e1]
        subst he
        have hj : j = 0 := by
          have := (List.getElem?_eq_some_iff.1 e2).1
          simpa [PV.cells] using this
        subst hj
        first
          | (have := hcell i (by omega)
             rw [show off + i * 1 + 0 = off + i by omega]
             rwa [Addr.add_lit] at this)
          | (have hcv : c = .int .i64 (zs.getD i 0) := by simpa [PV.cells] using e2.symm
             subst hcv
             exact .int _ _)
end
end Go.Proofs.Ytjfcphohgicolaa

