/- FGKnown: what its proof needs, part 6. -/
import Derived.Test.YtjfcphohgicolaaHGKnown5
set_option linter.unusedVariables false
set_option linter.unusedSimpArgs false
namespace Go.Proofs.Ytjfcphohgicolaa
open Go
set_option linter.unusedVariables false
set_option linter.unusedSimpArgs false
set_option maxRecDepth 10000
theorem kfactor_ok (m : Nat → Bool) (g : GV) {b c D : Nat} (h : Wf g b c) (hk : g.k = 5 ∨ g.k = 7) (hB : GkB g.n (ent g) D) (h1 : 1 ≤ D) (hD : 4 * D + 1 ≤ 1000000) (hp : ∀ t, t < g.n → gpiv g.n (ent g) t ≠ 0) :
    CallP Try.prog 11 [genP m g] (.tup [.p (partP g.n (ent g)), .p (.int .i64 0)]) [] := by
  have h6 := h.n6
  have n1 := h.n1
  have zL : ∀ i j, i < g.n → Bz (gL g.n (ent g) i j) (D + D) := fun i j hi => gM_bz hB h1 g.n (Nat.le_refl _) i j hi
  rcases hk with e | e
  · refine callG_of_vc (wr := wrK) Γok mixed Try.func11 (by kernel_rfl) rfl (by kernel_rfl) (le_of_ble rfl) (by simp) ?_
    refine SCmp.no (neF (by rw [e]; rfl)) ?_
    refine SCall.mtx (gexpandO_ok m g h) ?_
    refine SNil.mk (fun _ => ?_) (fun h => absurd h (by omega))
    refine SDraw.mkX (by kernel_rfl) ?_
    repeat refine SOp.mk _ _ (And.intro rfl rfl) rfl ?_
    refine SOp.mk _ _ (SZ.mk (g.n : Int) rfl (And.intro rfl rfl)) rfl ?_
    repeat refine SOp.mk _ _ (And.intro rfl rfl) rfl ?_
    refine SOp.mk _ _ (SZ.mk (g.n : Int) rfl <| SLt.mk (by simp) <| SMake.mk g.n rfl (by show g.n * 8 ≤ _; omega) (by omega) (And.intro rfl rfl)) rfl ?_
    repeat refine SOp.mk _ _ (And.intro rfl rfl) rfl ?_
    refine SOp.mk _ _ (SCall.pure (kzero_ok) (And.intro rfl rfl)) rfl ?_
    repeat refine SOp.mk _ _ (And.intro rfl rfl) rfl ?_
    refine SFin.mk (by kernel_rfl) ?_
    refine SZ.mk (g.n : Int) rfl ?_
    refine SLoop.mk (Nat × (Nat → Nat)) (fun (i, s) => ([(2, .bptr 5 0), (5, .bptr 0 0), (39, .p (.int .i64 g.n)), (40, .p (.int .i64 (i : Nat)))],
        [.box 61 (gwA g.n 0), .rows 24 (plc 2 g.n g.n id), .pool 30 3 (plr g.n g.n (ent g)), .vec 3 1 (permP g.n s), .map [], .box 36 zpartA]))
      (fun (i, s) => i ≤ g.n ∧ ∀ t, t < g.n → s t = if t < i then t else 0) (fun x => g.n - x.1) (0, fun t => if t < 0 then t else 0) [6, 2, 3, 4, 5, 1] ⟨Nat.zero_le _, fun t _ => rfl⟩
      ⟨rfl, by simp, rfl, rfl, rfl, ⟨rfl, rfl, rfl, rfl, trivial⟩, ⟨rfl, congrArg _ (plc_ren 3 rfl (by decide)), rfl, congrArg _ perm0.symm, rfl, rfl, rows_in fun q hq => by simpa [plenAt] using hq, trivial⟩⟩ ?_
    intro ⟨i, s⟩ ⟨hi, hs⟩
    by_cases hin : i < g.n
    · refine SCmp.yes (decide_eq_true (by omega)) ?_
      refine SPos.mk i rfl hin ?_
      refine SLt.perm hin ?_
      refine SEs.perm ?_
      refine SWrap.i64z ((i + 1 : Nat) : Int) (by omega) (by omega) ?_
      refine ⟨(i + 1, _), [0, 1, 2, 3, 4, 5], ⟨hin, fun t ht => ?_⟩, by show g.n - (i + 1) < g.n - i; omega, ⟨rfl, by simp, rfl, rfl, rfl, ⟨rfl, rfl, rfl, rfl, trivial⟩, ⟨rfl, congrArg _ (plc_ren 2 rfl (by decide)), rfl, rfl, rfl, rfl, rows_in fun q hq => by simpa [plenAt] using hq, trivial⟩⟩⟩
      show upd s (i + 0) i t = _
      unfold upd
      by_cases e : t = i
      · rw [if_pos (by omega), if_pos (by omega), e]
      · rw [if_neg (by omega), hs t ht]
        by_cases e2 : t < i
        · rw [if_pos e2, if_pos (by omega)]
        · rw [if_neg e2, if_neg (by omega)]
    refine SCmp.no (decide_eq_false (by omega)) ?_
    obtain rfl : i = g.n := by omega
    have es : permP g.n s = permP g.n id := permP_congr fun t ht => by rw [hs t ht, if_pos ht]; rfl
    refine SCall.gw (glook_ok g.n 0 (ent g) (ent g) id [] 0 (Nat.zero_le _) (by omega) (fun i hi => hi) (fun _ _ _ _ => rfl) (hB 0 (Nat.zero_le _)) (bz_zero.mono h1) (by omega) (fun e he => by simp at he)) (fun _ => rfl) (by decide) ⟨rfl, fun _ => rfl⟩ ⟨rfl, fun _ => rfl⟩ ⟨rfl, fun _ => rfl⟩ ⟨congrArg (Blk.vec 3 1) es, fun _ => rfl⟩ ⟨rfl, fun _ => rfl⟩ ?_
    refine SZ.mk (g.n : Int) rfl ?_
    refine SLoop.mk (Nat × (Nat → Nat → Rat)) (fun (k, G) => ([(2, .bptr 5 0), (5, .bptr 0 0), (7, .bptr 6 0), (61, .p (.int .i64 g.n)), (62, .p (.int .i64 (k : Nat)))],
        gwB g.n G (gk g.n (ent g) k).s (gtk g.n (ent g) k) (ggr g.n (ent g) k) ++ [.box 36 zpartA, .box 30 (bxQ (ggr g.n (ent g) 0))]))
      (fun (k, G) => k ≤ g.n ∧ ∀ i j, i < g.n → j < g.n → G ((gk g.n (ent g) k).s i) j = (gk g.n (ent g) k).B i j) (fun x => g.n - x.1) (0, ent g) [0, 1, 2, 3, 4, 5, 6] ⟨Nat.zero_le _, fun _ _ _ _ => rfl⟩
      ⟨rfl, by simp, rfl, rfl, rfl, ⟨rfl, rfl, rfl, rfl, rfl, trivial⟩, ⟨rfl, congrArg _ (plc_ren 2 rfl (by decide)), rfl, rfl, rfl, rfl, rfl, rows_in (s := id) fun q hq => by simpa [plenAt] using hq, trivial⟩⟩ ?_
    intro ⟨k, G⟩ ⟨hkn, hG⟩
    obtain ⟨r1, r2, r3⟩ := gk_perm (n := g.n) (A := ent g) k (by omega)
    have zr := ggr_bz hB h1 k (by omega)
    by_cases hkn2 : k < g.n
    · refine SCmp.yes (decide_eq_true (by omega)) ?_
      refine SCall.gw (glook_ok g.n k G (gk g.n (ent g) k).B (gk g.n (ent g) k).s (gtk g.n (ent g) k) (ggr g.n (ent g) k) (by omega) (by omega) r1 hG (hB k (by omega)) zr (by omega) (gtk_key k).pers)
        (fun _ => rfl) (by decide) ⟨rfl, fun _ => rfl⟩ ⟨rfl, fun _ => rfl⟩ ⟨rfl, fun _ => rfl⟩ ⟨rfl, fun _ => rfl⟩ ⟨rfl, fun _ => rfl⟩ ?_
      refine SCall.gw (gpick_ok g.n k G (gk g.n (ent g) k).B (gk g.n (ent g) k).s (gtk g.n (ent g) k) (ggr g.n (ent g) (k + 1)) true (by omega) (by omega) r1 hG (hB k (by omega)) (by omega) (gtk_key k).pers ((decide_eq_true (by rw [← gpiv_eq]; exact hp k hkn2)).symm))
        (fun _ => rfl) (by decide) ⟨rfl, fun _ => rfl⟩ ⟨rfl, fun _ => rfl⟩ ⟨rfl, fun _ => rfl⟩ ⟨rfl, fun _ => rfl⟩ ⟨rfl, fun _ => rfl⟩ ?_
      refine SCmp.no (rfl) ?_
      obtain ⟨si, hsi⟩ := gw_inv (n := g.n) (A := ent g) (k := k + 1) (by omega)
      obtain ⟨q1, q2, _⟩ := gk_perm (n := g.n) (A := ent g) (k + 1) (by omega)
      refine SCall.gw (gclean_ok g.n k G (gkP g.n (ent g) k) (gk g.n (ent g) (k + 1)).s si (gtk g.n (ent g) k) (ggr g.n (ent g) (k + 1)) (by omega) (by omega) q1 q2 hsi (gw_swp (by omega) hG) (hB.P (by omega)) (by omega) (hp k hkn2) (gtk_key k))
        (fun _ => rfl) (by decide) ⟨rfl, fun _ => rfl⟩ ⟨rfl, fun _ => rfl⟩ ⟨rfl, fun _ => rfl⟩ ⟨rfl, fun _ => rfl⟩ ⟨rfl, fun _ => rfl⟩ ?_
      refine SWrap.i64z ((k + 1 : Nat) : Int) (by omega) (by omega) ?_
      exact ⟨(k + 1, fun r j => redA (gkP g.n (ent g) k) k (si r) j), [0, 1, 2, 3, 4, 5, 6], ⟨by omega, gw_next (by omega) hsi⟩, by show g.n - (k + 1) < g.n - k; omega, ⟨rfl, by simp, rfl, rfl, rfl, ⟨rfl, rfl, rfl, rfl, rfl, trivial⟩, ⟨rfl, congrArg _ (plc_ren 2 rfl (by decide)), rfl, rfl, rfl, rfl, rfl, rows_in fun q hq => by simpa [plenAt] using q1 q hq, trivial⟩⟩⟩
    · refine SCmp.no (decide_eq_false (by omega)) ?_
      obtain rfl : k = g.n := by omega
      have r1 : ∀ i, i < g.n → gO g.n (ent g) i < g.n := r1
      have own := gown_ok true true g.n (fun i => G (gO g.n (ent g) i)) n1 (by omega) (fun i j hi hj => by
        have e : G (gO g.n (ent g) i) j = (gk g.n (ent g) g.n).B i j := hG i j hi hj
        rw [e]; exact hB g.n (Nat.le_refl _) i j hi hj) (by omega)
      have eU : matP false false g.n g.n (fun i => G (gO g.n (ent g) i)) = matP false false g.n g.n (gU g.n (ent g)) := matP_congr fun i j hi hj => hG i j hi hj
      rw [eU] at own
      refine SDraw.mkX (by kernel_rfl) ?_
      repeat refine SOp.mk _ _ (And.intro rfl rfl) rfl ?_
      refine SOp.mk _ _ (SLendR.plc rfl r1 <| SCall.pure own (And.intro rfl rfl)) rfl ?_
      repeat refine SOp.mk _ _ (And.intro rfl rfl) rfl ?_
      refine SFin.mk (by kernel_rfl) ?_
      refine SZ.mk (g.n : Int) rfl ?_
      refine SLoop.mkT Nat (fun i => match i with
          | 0 => ([(2, .bptr 5 0), (5, .bptr 0 0), (7, .bptr 6 0), (9, .bptr 7 0), (91, .p (.int .i64 g.n)), (92, .p (.int .i64 0))],
            gwB g.n G (gO g.n (ent g)) (gtk g.n (ent g) g.n) (ggr g.n (ent g) g.n) ++ ([Blk.box 36 zpartA, Blk.box 30 (bxQ (ggr g.n (ent g) 0)), Blk.box 36 [.vec (.t 3) 1 0 g.n, .p (.raw (.slice none 0 0)), .p (matP false false g.n g.n (gU g.n (ent g))), .p (.bool false), .p (.sl false 1 []), .p (.sl false 1 [])], Blk.pool 30 3 (plr 0 g.n (gL g.n (ent g)))] : List Blk))
          | i + 1 => ([(2, .bptr 5 0), (5, .bptr 0 0), (7, .bptr 6 0), (9, .bptr 7 0), (91, .p (.int .i64 g.n)), (92, .p (.int .i64 ((i + 1 : Nat) : Int)))],
            gwB g.n G (gO g.n (ent g)) (gtk g.n (ent g) g.n) (ggr g.n (ent g) g.n) ++ ([Blk.box 36 zpartA, Blk.box 30 (bxQ (ggr g.n (ent g) 0)), Blk.box 36 [.vec (.t 3) 1 0 g.n, .vec (.t 9) 1 0 (i + 1), .p (matP false false g.n g.n (gU g.n (ent g))), .p (.bool false), .p (.sl false 1 []), .p (.sl false 1 [])], Blk.pool 30 3 (plr (i + 1) g.n (gL g.n (ent g))), Blk.rows 24 (plc 8 g.n (i + 1) id)] : List Blk)))
        (fun i => i ≤ g.n) (fun i => g.n - i) 0 [0, 1, 2, 3, 4, 5, 6, 7, 8] _ _ (.pool 30 3 (.done _ _)) (Nat.zero_le _) ⟨rfl, by simp, rfl, rfl, rfl, ⟨rfl, rfl, rfl, rfl, rfl, rfl, trivial⟩, ⟨rfl, congrArg _ (plc_ren 2 rfl (by decide)), rfl, rfl, rfl, rfl, rfl, rfl, rfl, rows_in fun q hq => by simpa [plenAt] using r1 q hq, trivial⟩⟩ ?_
      intro i hi
      match i, hi with
      | 0, hi =>
        refine SCmp.yes (decide_eq_true (by omega)) ?_
        refine SZ.mk (g.n : Int) rfl ?_
        refine SZ.mk (g.n : Int) rfl ?_
        refine SLt.mk (by simp) ?_
        refine SMake.rat g.n rfl (by omega) ?_
        refine SZ.mk (g.n : Int) rfl ?_
        refine SLoop.mk Nat (fun j => ([(2, .bptr 5 0), (5, .bptr 0 0), (7, .bptr 6 0), (9, .bptr 7 0), (10, .p (.int .i64 0)), (11, .vec 9 3 0 g.n), (91, .p (.int .i64 g.n)), (92, .p (.int .i64 0)), (102, .p (.int .i64 g.n)), (103, .p (.int .i64 (j : Nat)))],
            gwB g.n G (gO g.n (ent g)) (gtk g.n (ent g) g.n) (ggr g.n (ent g) g.n) ++ ([Blk.box 36 zpartA, Blk.box 30 (bxQ (ggr g.n (ent g) 0)), Blk.box 36 [.vec (.t 3) 1 0 g.n, .p (.raw (.slice none 0 0)), .p (matP false false g.n g.n (gU g.n (ent g))), .p (.bool false), .p (.sl false 1 []), .p (.sl false 1 [])], Blk.pool 30 3 (plr 0 g.n (gL g.n (ent g))),Blk.vec 30 3 (fl g.n fun k => if k < j then ratP (gL g.n (ent g) (0) k) else rat0)] : List Blk)))
          (fun j => j ≤ g.n) (fun j => g.n - j) 0 [0, 1, 2, 3, 4, 5, 6, 7, 8, 9] (Nat.zero_le _) ⟨rfl, by simp, rfl, rfl, rfl, ⟨rfl, rfl, rfl, rfl, rfl, rfl, rfl, rfl, rfl, rfl, trivial⟩, ⟨rfl, congrArg _ (plc_ren 2 rfl (by decide)), rfl, rfl, rfl, rfl, rfl, rfl, rfl,congrArg _ ((fl_congr fun k hk => if_neg (by omega)).trans (replicate_fl g.n rat0).symm), rows_in fun q hq => by simpa [plenAt] using r1 q hq, trivial⟩⟩ ?_
        intro j hj
        have hj : j ≤ g.n := hj
        by_cases hjn : j < g.n
        · refine SCmp.yes (decide_eq_true (by omega)) ?_
          have low := glower_ok g.n (ent g) (fl g.n fun i => ratsM true (lst g.n (G (gO g.n (ent g) i)))) (ggr g.n (ent g) g.n) (0) j (by omega) hjn (zL (0) j (by omega)) (by omega)
          refine SLendR.plc rfl r1 ?_
          refine SView.all (by simp) ?_
          refine SCall.pure (low) ?_
          refine SPos.mk j rfl hjn ?_
          refine SLt.mk (by simp; omega) <| SEs.mk _ (row_step hjn) ?_
          refine SWrap.i64z ((j + 1 : Nat) : Int) (by omega) (by omega) ?_
          exact ⟨j + 1, [0, 1, 2, 3, 4, 5, 6, 7, 8, 9], hjn, by show g.n - (j + 1) < g.n - j; omega, ⟨rfl, by simp, rfl, rfl, rfl, ⟨rfl, rfl, rfl, rfl, rfl, rfl, rfl, rfl, rfl, rfl, trivial⟩, ⟨rfl, congrArg _ (plc_ren 2 rfl (by decide)), rfl, rfl, rfl, rfl, rfl, rfl, rfl,rfl, rows_in fun q hq => by simpa [plenAt] using r1 q hq, trivial⟩⟩⟩
        · refine SCmp.no (decide_eq_false (by omega)) ?_
          obtain rfl : j = g.n := by omega
          refine SRoom.mk (by simp) (by simp) ?_
          refine SWrap.i64z ((0 + 1 : Nat) : Int) (by omega) (by omega) ?_
          exact ⟨1, [0, 1, 2, 3, 4, 5, 6, 7, 10008, 11], n1, by show g.n - 1 < g.n - 0; omega, ⟨rfl, by simp, rfl, rfl, rfl, ⟨rfl, rfl, rfl, rfl, rfl, rfl, trivial⟩, ⟨rfl, congrArg _ (plc_ren 2 rfl (by decide)), rfl, rfl, rfl, rfl, rfl, rfl, ⟨_, _, _, _, rfl, rfl, congrArg _ (plr_snoc.trans (congrArg (fun r => plr 0 g.n (gL g.n (ent g)) ++ [some r]) row_full))⟩, congrArg _ (plc_absorb (p' := 8) (q := 9) (c := g.n) (k := 0) rfl (by decide) (by simp [plenAt])), rows_in fun q hq => by simpa [plenAt] using r1 q hq, rows_in fun q hq => by simpa [plenAt] using hq, trivial⟩⟩⟩
      | i + 1, hi =>
        have hi : i + 1 ≤ g.n := hi
        by_cases hin : i + 1 < g.n
        · refine SCmp.yes (decide_eq_true (by omega)) ?_
          refine SZ.mk (g.n : Int) rfl ?_
          refine SZ.mk (g.n : Int) rfl ?_
          refine SLt.mk (by simp) ?_
          refine SMake.rat g.n rfl (by omega) ?_
          refine SZ.mk (g.n : Int) rfl ?_
          refine SLoop.mk Nat (fun j => ([(2, .bptr 5 0), (5, .bptr 0 0), (7, .bptr 6 0), (9, .bptr 7 0), (10, .p (.int .i64 ((i + 1 : Nat) : Int))), (11, .vec 10 3 0 g.n), (91, .p (.int .i64 g.n)), (92, .p (.int .i64 ((i + 1 : Nat) : Int))), (102, .p (.int .i64 g.n)), (103, .p (.int .i64 (j : Nat)))],
              gwB g.n G (gO g.n (ent g)) (gtk g.n (ent g) g.n) (ggr g.n (ent g) g.n) ++ ([Blk.box 36 zpartA, Blk.box 30 (bxQ (ggr g.n (ent g) 0)), Blk.box 36 [.vec (.t 3) 1 0 g.n, .vec (.t 9) 1 0 (i + 1), .p (matP false false g.n g.n (gU g.n (ent g))), .p (.bool false), .p (.sl false 1 []), .p (.sl false 1 [])], Blk.pool 30 3 (plr (i + 1) g.n (gL g.n (ent g))), Blk.rows 24 (plc 8 g.n (i + 1) id),Blk.vec 30 3 (fl g.n fun k => if k < j then ratP (gL g.n (ent g) (i + 1) k) else rat0)] : List Blk)))
            (fun j => j ≤ g.n) (fun j => g.n - j) 0 [0, 1, 2, 3, 4, 5, 6, 7, 8, 9, 10] (Nat.zero_le _) ⟨rfl, by simp, rfl, rfl, rfl, ⟨rfl, rfl, rfl, rfl, rfl, rfl, rfl, rfl, rfl, rfl, trivial⟩, ⟨rfl, congrArg _ (plc_ren 2 rfl (by decide)), rfl, rfl, rfl, rfl, rfl, rfl, rfl, congrArg _ (plc_ren 8 rfl (by decide)),congrArg _ ((fl_congr fun k hk => if_neg (by omega)).trans (replicate_fl g.n rat0).symm), rows_in fun q hq => by simpa [plenAt] using r1 q hq, rows_in fun q hq => by simpa [plenAt] using hq,trivial⟩⟩ ?_
          intro j hj
          have hj : j ≤ g.n := hj
          by_cases hjn : j < g.n
          · refine SCmp.yes (decide_eq_true (by omega)) ?_
            have low := glower_ok g.n (ent g) (fl g.n fun i => ratsM true (lst g.n (G (gO g.n (ent g) i)))) (ggr g.n (ent g) g.n) (i + 1) j (by omega) hjn (zL (i + 1) j (by omega)) (by omega)
            refine SLendR.plc rfl r1 ?_
            refine SView.all (by simp) ?_
            refine SCall.pure (low) ?_
            refine SPos.mk j rfl hjn ?_
            refine SLt.mk (by simp; omega) <| SEs.mk _ (row_step hjn) ?_
            refine SWrap.i64z ((j + 1 : Nat) : Int) (by omega) (by omega) ?_
            exact ⟨j + 1, [0, 1, 2, 3, 4, 5, 6, 7, 8, 9, 10], hjn, by show g.n - (j + 1) < g.n - j; omega, ⟨rfl, by simp, rfl, rfl, rfl, ⟨rfl, rfl, rfl, rfl, rfl, rfl, rfl, rfl, rfl, rfl, trivial⟩, ⟨rfl, congrArg _ (plc_ren 2 rfl (by decide)), rfl, rfl, rfl, rfl, rfl, rfl, rfl, congrArg _ (plc_ren 8 rfl (by decide)),rfl, rows_in fun q hq => by simpa [plenAt] using r1 q hq, rows_in fun q hq => by simpa [plenAt] using hq,trivial⟩⟩⟩
          · refine SCmp.no (decide_eq_false (by omega)) ?_
            obtain rfl : j = g.n := by omega
            refine SEqN.mk (by simp) ?_
            refine SRoom.mk (by simp; omega) (by simp; omega) ?_
            refine SAs.mk _ rfl ?_
            refine SZN.mk (i + 1 + 1) (by simp) ?_
            refine SWrap.i64z ((i + 1 + 1 : Nat) : Int) (by omega) (by omega) ?_
            exact ⟨i + 1 + 1, [0, 1, 2, 3, 4, 5, 6, 7, 11008, 12], hin, by show g.n - (i + 1 + 1) < g.n - (i + 1); omega, ⟨rfl, by simp, rfl, rfl, rfl, ⟨rfl, rfl, rfl, rfl, rfl, rfl, trivial⟩, ⟨rfl, congrArg _ (plc_ren 2 rfl (by decide)), rfl, rfl, rfl, rfl, rfl, rfl, ⟨_, _, _, _, rfl, rfl, congrArg _ (plr_snoc.trans (congrArg (fun r => plr (i + 1) g.n (gL g.n (ent g)) ++ [some r]) row_full))⟩, congrArg _ (plc_absorb (p' := 8) (q := 10) (c := g.n) (k := i + 1) rfl (by decide) (by simp [plenAt])), rows_in fun q hq => by simpa [plenAt] using r1 q hq, rows_in fun q hq => by simpa [plenAt] using hq, trivial⟩⟩⟩
        · refine SCmp.no (decide_eq_false (by omega)) ?_
          have hn : i + 1 = g.n := by omega
          have z0 : ggr g.n (ent g) 0 ≠ 0 := fun e => by have := ggr_pos n1 (hp 0 n1); rw [e] at this; exact absurd this (by decide)
          have gq := quo_ok (ggr g.n (ent g) g.n) (ggr g.n (ent g) 0) z0 (ggr_bz hB h1 g.n (Nat.le_refl _)).sz (ggr_bz hB h1 0 (Nat.zero_le _)).sz (by omega)
          refine SDraw.mkX (by kernel_rfl) ?_
          repeat refine SOp.mk _ _ (And.intro rfl rfl) rfl ?_
          refine SOp.mk _ _ (SCall.pureT (gq) (fun _ => rfl) (And.intro rfl rfl)) rfl ?_
          repeat refine SOp.mk _ _ (And.intro rfl rfl) rfl ?_
          refine SFin.mk (by kernel_rfl) ?_
          have eL : matP false false g.n g.n (gL g.n (ent g)) = matP false false (i + 1) g.n (gL g.n (ent g)) := by rw [hn]
          refine SRet.pure (.tup rfl fun a c d e1 e2 => ?_)
          match a, e1, e2 with
          | 0, e1, e2 =>
            cases e1; cases e2
            refine .aggp (ps := partC g.n (ent g)) (fun d hd => by simp only [partC, List.mem_cons, List.not_mem_nil, or_false] at hd; rcases hd with rfl | rfl | rfl | rfl | rfl | rfl <;> rfl) rfl fun a c d e1 e2 => ?_
            match a, e1, e2 with
            | 0, e1, e2 => cases e1; cases e2; exact .frz (h := .t 3) rfl (by simp) (by simp) pers_perm (by rw [List.drop_zero]; exact List.take_of_length_le (by simp))
            | 1, e1, e2 => cases e1; cases e2; rw [eL]; exact frzM (h := 9) (p := 8) rfl rfl fun q hq => hq
            | 2, e1, e2 => cases e1; cases e2; exact .p _ pers_matP
            | 3, e1, e2 => cases e1; cases e2; exact .p _ (.bool _)
            | 4, e1, e2 => cases e1; cases e2; exact .p _ (.sl _ _ (pers_limbs _))
            | 5, e1, e2 => cases e1; cases e2; exact .p _ (.sl _ _ (pers_limbs _))
          | 1, e1, e2 => cases e1; cases e2; exact .p _ (.int _ _)
  · refine callG_of_vc (wr := wrK) Γok mixed Try.func11 (by kernel_rfl) rfl (by kernel_rfl) (le_of_ble rfl) (by simp) ?_
    refine SCmp.yes (neT (by rw [e]; decide)) ?_
    refine SCmp.no (neF (by rw [e]; rfl)) ?_
    refine SCall.mtx (gexpandO_ok m g h) ?_
    refine SNil.mk (fun _ => ?_) (fun h => absurd h (by omega))
    refine SDraw.mkX (by kernel_rfl) ?_
    repeat refine SOp.mk _ _ (And.intro rfl rfl) rfl ?_
    refine SOp.mk _ _ (SZ.mk (g.n : Int) rfl (And.intro rfl rfl)) rfl ?_
    repeat refine SOp.mk _ _ (And.intro rfl rfl) rfl ?_
    refine SOp.mk _ _ (SZ.mk (g.n : Int) rfl <| SLt.mk (by simp) <| SMake.mk g.n rfl (by show g.n * 8 ≤ _; omega) (by omega) (And.intro rfl rfl)) rfl ?_
    repeat refine SOp.mk _ _ (And.intro rfl rfl) rfl ?_
    refine SOp.mk _ _ (SCall.pure (kzero_ok) (And.intro rfl rfl)) rfl ?_
    repeat refine SOp.mk _ _ (And.intro rfl rfl) rfl ?_
    refine SFin.mk (by kernel_rfl) ?_
    refine SZ.mk (g.n : Int) rfl ?_
    refine SLoop.mk (Nat × (Nat → Nat)) (fun (i, s) => ([(2, .bptr 5 0), (5, .bptr 0 0), (39, .p (.int .i64 g.n)), (40, .p (.int .i64 (i : Nat)))],
        [.box 61 (gwA g.n 0), .rows 24 (plc 2 g.n g.n id), .pool 30 3 (plr g.n g.n (ent g)), .vec 3 1 (permP g.n s), .map [], .box 36 zpartA]))
      (fun (i, s) => i ≤ g.n ∧ ∀ t, t < g.n → s t = if t < i then t else 0) (fun x => g.n - x.1) (0, fun t => if t < 0 then t else 0) [6, 2, 3, 4, 5, 1] ⟨Nat.zero_le _, fun t _ => rfl⟩
      ⟨rfl, by simp, rfl, rfl, rfl, ⟨rfl, rfl, rfl, rfl, trivial⟩, ⟨rfl, congrArg _ (plc_ren 3 rfl (by decide)), rfl, congrArg _ perm0.symm, rfl, rfl, rows_in fun q hq => by simpa [plenAt] using hq, trivial⟩⟩ ?_
    intro ⟨i, s⟩ ⟨hi, hs⟩
    by_cases hin : i < g.n
    · refine SCmp.yes (decide_eq_true (by omega)) ?_
      refine SPos.mk i rfl hin ?_
      refine SLt.perm hin ?_
      refine SEs.perm ?_
      refine SWrap.i64z ((i + 1 : Nat) : Int) (by omega) (by omega) ?_
      refine ⟨(i + 1, _), [0, 1, 2, 3, 4, 5], ⟨hin, fun t ht => ?_⟩, by show g.n - (i + 1) < g.n - i; omega, ⟨rfl, by simp, rfl, rfl, rfl, ⟨rfl, rfl, rfl, rfl, trivial⟩, ⟨rfl, congrArg _ (plc_ren 2 rfl (by decide)), rfl, rfl, rfl, rfl, rows_in fun q hq => by simpa [plenAt] using hq, trivial⟩⟩⟩
      show upd s (i + 0) i t = _
      unfold upd
      by_cases e : t = i
      · rw [if_pos (by omega), if_pos (by omega), e]
      · rw [if_neg (by omega), hs t ht]
        by_cases e2 : t < i
        · rw [if_pos e2, if_pos (by omega)]
        · rw [if_neg e2, if_neg (by omega)]
    refine SCmp.no (decide_eq_false (by omega)) ?_
    obtain rfl : i = g.n := by omega
    have es : permP g.n s = permP g.n id := permP_congr fun t ht => by rw [hs t ht, if_pos ht]; rfl
    refine SCall.gw (glook_ok g.n 0 (ent g) (ent g) id [] 0 (Nat.zero_le _) (by omega) (fun i hi => hi) (fun _ _ _ _ => rfl) (hB 0 (Nat.zero_le _)) (bz_zero.mono h1) (by omega) (fun e he => by simp at he)) (fun _ => rfl) (by decide) ⟨rfl, fun _ => rfl⟩ ⟨rfl, fun _ => rfl⟩ ⟨rfl, fun _ => rfl⟩ ⟨congrArg (Blk.vec 3 1) es, fun _ => rfl⟩ ⟨rfl, fun _ => rfl⟩ ?_
    refine SZ.mk (g.n : Int) rfl ?_
    refine SLoop.mk (Nat × (Nat → Nat → Rat)) (fun (k, G) => ([(2, .bptr 5 0), (5, .bptr 0 0), (7, .bptr 6 0), (61, .p (.int .i64 g.n)), (62, .p (.int .i64 (k : Nat)))],
        gwB g.n G (gk g.n (ent g) k).s (gtk g.n (ent g) k) (ggr g.n (ent g) k) ++ [.box 36 zpartA, .box 30 (bxQ (ggr g.n (ent g) 0))]))
      (fun (k, G) => k ≤ g.n ∧ ∀ i j, i < g.n → j < g.n → G ((gk g.n (ent g) k).s i) j = (gk g.n (ent g) k).B i j) (fun x => g.n - x.1) (0, ent g) [0, 1, 2, 3, 4, 5, 6] ⟨Nat.zero_le _, fun _ _ _ _ => rfl⟩
      ⟨rfl, by simp, rfl, rfl, rfl, ⟨rfl, rfl, rfl, rfl, rfl, trivial⟩, ⟨rfl, congrArg _ (plc_ren 2 rfl (by decide)), rfl, rfl, rfl, rfl, rfl, rows_in (s := id) fun q hq => by simpa [plenAt] using hq, trivial⟩⟩ ?_
    intro ⟨k, G⟩ ⟨hkn, hG⟩
    obtain ⟨r1, r2, r3⟩ := gk_perm (n := g.n) (A := ent g) k (by omega)
    have zr := ggr_bz hB h1 k (by omega)
    by_cases hkn2 : k < g.n
    · refine SCmp.yes (decide_eq_true (by omega)) ?_
      refine SCall.gw (glook_ok g.n k G (gk g.n (ent g) k).B (gk g.n (ent g) k).s (gtk g.n (ent g) k) (ggr g.n (ent g) k) (by omega) (by omega) r1 hG (hB k (by omega)) zr (by omega) (gtk_key k).pers)
        (fun _ => rfl) (by decide) ⟨rfl, fun _ => rfl⟩ ⟨rfl, fun _ => rfl⟩ ⟨rfl, fun _ => rfl⟩ ⟨rfl, fun _ => rfl⟩ ⟨rfl, fun _ => rfl⟩ ?_
      refine SCall.gw (gpick_ok g.n k G (gk g.n (ent g) k).B (gk g.n (ent g) k).s (gtk g.n (ent g) k) (ggr g.n (ent g) (k + 1)) true (by omega) (by omega) r1 hG (hB k (by omega)) (by omega) (gtk_key k).pers ((decide_eq_true (by rw [← gpiv_eq]; exact hp k hkn2)).symm))
        (fun _ => rfl) (by decide) ⟨rfl, fun _ => rfl⟩ ⟨rfl, fun _ => rfl⟩ ⟨rfl, fun _ => rfl⟩ ⟨rfl, fun _ => rfl⟩ ⟨rfl, fun _ => rfl⟩ ?_
      refine SCmp.no (rfl) ?_
      obtain ⟨si, hsi⟩ := gw_inv (n := g.n) (A := ent g) (k := k + 1) (by omega)
      obtain ⟨q1, q2, _⟩ := gk_perm (n := g.n) (A := ent g) (k + 1) (by omega)
      refine SCall.gw (gclean_ok g.n k G (gkP g.n (ent g) k) (gk g.n (ent g) (k + 1)).s si (gtk g.n (ent g) k) (ggr g.n (ent g) (k + 1)) (by omega) (by omega) q1 q2 hsi (gw_swp (by omega) hG) (hB.P (by omega)) (by omega) (hp k hkn2) (gtk_key k))
        (fun _ => rfl) (by decide) ⟨rfl, fun _ => rfl⟩ ⟨rfl, fun _ => rfl⟩ ⟨rfl, fun _ => rfl⟩ ⟨rfl, fun _ => rfl⟩ ⟨rfl, fun _ => rfl⟩ ?_
      refine SWrap.i64z ((k + 1 : Nat) : Int) (by omega) (by omega) ?_
      exact ⟨(k + 1, fun r j => redA (gkP g.n (ent g) k) k (si r) j), [0, 1, 2, 3, 4, 5, 6], ⟨by omega, gw_next (by omega) hsi⟩, by show g.n - (k + 1) < g.n - k; omega, ⟨rfl, by simp, rfl, rfl, rfl, ⟨rfl, rfl, rfl, rfl, rfl, trivial⟩, ⟨rfl, congrArg _ (plc_ren 2 rfl (by decide)), rfl, rfl, rfl, rfl, rfl, rows_in fun q hq => by simpa [plenAt] using q1 q hq, trivial⟩⟩⟩
    · refine SCmp.no (decide_eq_false (by omega)) ?_
      obtain rfl : k = g.n := by omega
      have r1 : ∀ i, i < g.n → gO g.n (ent g) i < g.n := r1
      have own := gown_ok true true g.n (fun i => G (gO g.n (ent g) i)) n1 (by omega) (fun i j hi hj => by
        have e : G (gO g.n (ent g) i) j = (gk g.n (ent g) g.n).B i j := hG i j hi hj
        rw [e]; exact hB g.n (Nat.le_refl _) i j hi hj) (by omega)
      have eU : matP false false g.n g.n (fun i => G (gO g.n (ent g) i)) = matP false false g.n g.n (gU g.n (ent g)) := matP_congr fun i j hi hj => hG i j hi hj
      rw [eU] at own
      refine SDraw.mkX (by kernel_rfl) ?_
      repeat refine SOp.mk _ _ (And.intro rfl rfl) rfl ?_
      refine SOp.mk _ _ (SLendR.plc rfl r1 <| SCall.pure own (And.intro rfl rfl)) rfl ?_
      repeat refine SOp.mk _ _ (And.intro rfl rfl) rfl ?_
      refine SFin.mk (by kernel_rfl) ?_
      refine SZ.mk (g.n : Int) rfl ?_
      refine SLoop.mkT Nat (fun i => match i with
          | 0 => ([(2, .bptr 5 0), (5, .bptr 0 0), (7, .bptr 6 0), (9, .bptr 7 0), (91, .p (.int .i64 g.n)), (92, .p (.int .i64 0))],
            gwB g.n G (gO g.n (ent g)) (gtk g.n (ent g) g.n) (ggr g.n (ent g) g.n) ++ ([Blk.box 36 zpartA, Blk.box 30 (bxQ (ggr g.n (ent g) 0)), Blk.box 36 [.vec (.t 3) 1 0 g.n, .p (.raw (.slice none 0 0)), .p (matP false false g.n g.n (gU g.n (ent g))), .p (.bool false), .p (.sl false 1 []), .p (.sl false 1 [])], Blk.pool 30 3 (plr 0 g.n (gL g.n (ent g)))] : List Blk))
          | i + 1 => ([(2, .bptr 5 0), (5, .bptr 0 0), (7, .bptr 6 0), (9, .bptr 7 0), (91, .p (.int .i64 g.n)), (92, .p (.int .i64 ((i + 1 : Nat) : Int)))],
            gwB g.n G (gO g.n (ent g)) (gtk g.n (ent g) g.n) (ggr g.n (ent g) g.n) ++ ([Blk.box 36 zpartA, Blk.box 30 (bxQ (ggr g.n (ent g) 0)), Blk.box 36 [.vec (.t 3) 1 0 g.n, .vec (.t 9) 1 0 (i + 1), .p (matP false false g.n g.n (gU g.n (ent g))), .p (.bool false), .p (.sl false 1 []), .p (.sl false 1 [])], Blk.pool 30 3 (plr (i + 1) g.n (gL g.n (ent g))), Blk.rows 24 (plc 8 g.n (i + 1) id)] : List Blk)))
        (fun i => i ≤ g.n) (fun i => g.n - i) 0 [0, 1, 2, 3, 4, 5, 6, 7, 8] _ _ (.pool 30 3 (.done _ _)) (Nat.zero_le _) ⟨rfl, by simp, rfl, rfl, rfl, ⟨rfl, rfl, rfl, rfl, rfl, rfl, trivial⟩, ⟨rfl, congrArg _ (plc_ren 2 rfl (by decide)), rfl, rfl, rfl, rfl, rfl, rfl, rfl, rows_in fun q hq => by simpa [plenAt] using r1 q hq, trivial⟩⟩ ?_
      intro i hi
      match i, hi with
      | 0, hi =>
        refine SCmp.yes (decide_eq_true (by omega)) ?_
        refine SZ.mk (g.n : Int) rfl ?_
        refine SZ.mk (g.n : Int) rfl ?_
        refine SLt.mk (by simp) ?_
        refine SMake.rat g.n rfl (by omega) ?_
        refine SZ.mk (g.n : Int) rfl ?_
        refine SLoop.mk Nat (fun j => ([(2, .bptr 5 0), (5, .bptr 0 0), (7, .bptr 6 0), (9, .bptr 7 0), (10, .p (.int .i64 0)), (11, .vec 9 3 0 g.n), (91, .p (.int .i64 g.n)), (92, .p (.int .i64 0)), (102, .p (.int .i64 g.n)), (103, .p (.int .i64 (j : Nat)))],
            gwB g.n G (gO g.n (ent g)) (gtk g.n (ent g) g.n) (ggr g.n (ent g) g.n) ++ ([Blk.box 36 zpartA, Blk.box 30 (bxQ (ggr g.n (ent g) 0)), Blk.box 36 [.vec (.t 3) 1 0 g.n, .p (.raw (.slice none 0 0)), .p (matP false false g.n g.n (gU g.n (ent g))), .p (.bool false), .p (.sl false 1 []), .p (.sl false 1 [])], Blk.pool 30 3 (plr 0 g.n (gL g.n (ent g))),Blk.vec 30 3 (fl g.n fun k => if k < j then ratP (gL g.n (ent g) (0) k) else rat0)] : List Blk)))
          (fun j => j ≤ g.n) (fun j => g.n - j) 0 [0, 1, 2, 3, 4, 5, 6, 7, 8, 9] (Nat.zero_le _) ⟨rfl, by simp, rfl, rfl, rfl, ⟨rfl, rfl, rfl, rfl, rfl, rfl, rfl, rfl, rfl, rfl, trivial⟩, ⟨rfl, congrArg _ (plc_ren 2 rfl (by decide)), rfl, rfl, rfl, rfl, rfl, rfl, rfl,congrArg _ ((fl_congr fun k hk => if_neg (by omega)).trans (replicate_fl g.n rat0).symm), rows_in fun q hq => by simpa [plenAt] using r1 q hq, trivial⟩⟩ ?_
        intro j hj
        have hj : j ≤ g.n := hj
        by_cases hjn : j < g.n
        · refine SCmp.yes (decide_eq_true (by omega)) ?_
          have low := glower_ok g.n (ent g) (fl g.n fun i => ratsM true (lst g.n (G (gO g.n (ent g) i)))) (ggr g.n (ent g) g.n) (0) j (by omega) hjn (zL (0) j (by omega)) (by omega)
          refine SLendR.plc rfl r1 ?_
          refine SView.all (by simp) ?_
          refine SCall.pure (low) ?_
          refine SPos.mk j rfl hjn ?_
          refine SLt.mk (by simp; omega) <| SEs.mk _ (row_step hjn) ?_
          refine SWrap.i64z ((j + 1 : Nat) : Int) (by omega) (by omega) ?_
          exact ⟨j + 1, [0, 1, 2, 3, 4, 5, 6, 7, 8, 9], hjn, by show g.n - (j + 1) < g.n - j; omega, ⟨rfl, by simp, rfl, rfl, rfl, ⟨rfl, rfl, rfl, rfl, rfl, rfl, rfl, rfl, rfl, rfl, trivial⟩, ⟨rfl, congrArg _ (plc_ren 2 rfl (by decide)), rfl, rfl, rfl, rfl, rfl, rfl, rfl,rfl, rows_in fun q hq => by simpa [plenAt] using r1 q hq, trivial⟩⟩⟩
        · refine SCmp.no (decide_eq_false (by omega)) ?_
          obtain rfl : j = g.n := by omega
          refine SRoom.mk (by simp) (by simp) ?_
          refine SWrap.i64z ((0 + 1 : Nat) : Int) (by omega) (by omega) ?_
          exact ⟨1, [0, 1, 2, 3, 4, 5, 6, 7, 10008, 11], n1, by show g.n - 1 < g.n - 0; omega, ⟨rfl, by simp, rfl, rfl, rfl, ⟨rfl, rfl, rfl, rfl, rfl, rfl, trivial⟩, ⟨rfl, congrArg _ (plc_ren 2 rfl (by decide)), rfl, rfl, rfl, rfl, rfl, rfl, ⟨_, _, _, _, rfl, rfl, congrArg _ (plr_snoc.trans (congrArg (fun r => plr 0 g.n (gL g.n (ent g)) ++ [some r]) row_full))⟩, congrArg _ (plc_absorb (p' := 8) (q := 9) (c := g.n) (k := 0) rfl (by decide) (by simp [plenAt])), rows_in fun q hq => by simpa [plenAt] using r1 q hq, rows_in fun q hq => by simpa [plenAt] using hq, trivial⟩⟩⟩
      | i + 1, hi =>
        have hi : i + 1 ≤ g.n := hi
        by_cases hin : i + 1 < g.n
        · refine SCmp.yes (decide_eq_true (by omega)) ?_
          refine SZ.mk (g.n : Int) rfl ?_
          refine SZ.mk (g.n : Int) rfl ?_
          refine SLt.mk (by simp) ?_
          refine SMake.rat g.n rfl (by omega) ?_
          refine SZ.mk (g.n : Int) rfl ?_
          refine SLoop.mk Nat (fun j => ([(2, .bptr 5 0), (5, .bptr 0 0), (7, .bptr 6 0), (9, .bptr 7 0), (10, .p (.int .i64 ((i + 1 : Nat) : Int))), (11, .vec 10 3 0 g.n), (91, .p (.int .i64 g.n)), (92, .p (.int .i64 ((i + 1 : Nat) : Int))), (102, .p (.int .i64 g.n)), (103, .p (.int .i64 (j : Nat)))],
              gwB g.n G (gO g.n (ent g)) (gtk g.n (ent g) g.n) (ggr g.n (ent g) g.n) ++ ([Blk.box 36 zpartA, Blk.box 30 (bxQ (ggr g.n (ent g) 0)), Blk.box 36 [.vec (.t 3) 1 0 g.n, .vec (.t 9) 1 0 (i + 1), .p (matP false false g.n g.n (gU g.n (ent g))), .p (.bool false), .p (.sl false 1 []), .p (.sl false 1 [])], Blk.pool 30 3 (plr (i + 1) g.n (gL g.n (ent g))), Blk.rows 24 (plc 8 g.n (i + 1) id),Blk.vec 30 3 (fl g.n fun k => if k < j then ratP (gL g.n (ent g) (i + 1) k) else rat0)] : List Blk)))
            (fun j => j ≤ g.n) (fun j => g.n - j) 0 [0, 1, 2, 3, 4, 5, 6, 7, 8, 9, 10] (Nat.zero_le _) ⟨rfl, by simp, rfl, rfl, rfl, ⟨rfl, rfl, rfl, rfl, rfl, rfl, rfl, rfl, rfl, rfl, trivial⟩, ⟨rfl, congrArg _ (plc_ren 2 rfl (by decide)), rfl, rfl, rfl, rfl, rfl, rfl, rfl, congrArg _ (plc_ren 8 rfl (by decide)),congrArg _ ((fl_congr fun k hk => if_neg (by omega)).trans (replicate_fl g.n rat0).symm), rows_in fun q hq => by simpa [plenAt] using r1 q hq, rows_in fun q hq => by simpa [plenAt] using hq,trivial⟩⟩ ?_
          intro j hj
          have hj : j ≤ g.n := hj
          by_cases hjn : j < g.n
          · refine SCmp.yes (decide_eq_true (by omega)) ?_
            have low := glower_ok g.n (ent g) (fl g.n fun i => ratsM true (lst g.n (G (gO g.n (ent g) i)))) (ggr g.n (ent g) g.n) (i + 1) j (by omega) hjn (zL (i + 1) j (by omega)) (by omega)
            refine SLendR.plc rfl r1 ?_
            refine SView.all (by simp) ?_
            refine SCall.pure (low) ?_
            refine SPos.mk j rfl hjn ?_
            refine SLt.mk (by simp; omega) <| SEs.mk _ (row_step hjn) ?_
            refine SWrap.i64z ((j + 1 : Nat) : Int) (by omega) (by omega) ?_
            exact ⟨j + 1, [0, 1, 2, 3, 4, 5, 6, 7, 8, 9, 10], hjn, by show g.n - (j + 1) < g.n - j; omega, ⟨rfl, by simp, rfl, rfl, rfl, ⟨rfl, rfl, rfl, rfl, rfl, rfl, rfl, rfl, rfl, rfl, trivial⟩, ⟨rfl, congrArg _ (plc_ren 2 rfl (by decide)), rfl, rfl, rfl, rfl, rfl, rfl, rfl, congrArg _ (plc_ren 8 rfl (by decide)),rfl, rows_in fun q hq => by simpa [plenAt] using r1 q hq, rows_in fun q hq => by simpa [plenAt] using hq,trivial⟩⟩⟩
          · refine SCmp.no (decide_eq_false (by omega)) ?_
            obtain rfl : j = g.n := by omega
            refine SEqN.mk (by simp) ?_
            refine SRoom.mk (by simp; omega) (by simp; omega) ?_
            refine SAs.mk _ rfl ?_
            refine SZN.mk (i + 1 + 1) (by simp) ?_
            refine SWrap.i64z ((i + 1 + 1 : Nat) : Int) (by omega) (by omega) ?_
            exact ⟨i + 1 + 1, [0, 1, 2, 3, 4, 5, 6, 7, 11008, 12], hin, by show g.n - (i + 1 + 1) < g.n - (i + 1); omega, ⟨rfl, by simp, rfl, rfl, rfl, ⟨rfl, rfl, rfl, rfl, rfl, rfl, trivial⟩, ⟨rfl, congrArg _ (plc_ren 2 rfl (by decide)), rfl, rfl, rfl, rfl, rfl, rfl, ⟨_, _, _, _, rfl, rfl, congrArg _ (plr_snoc.trans (congrArg (fun r => plr (i + 1) g.n (gL g.n (ent g)) ++ [some r]) row_full))⟩, congrArg _ (plc_absorb (p' := 8) (q := 10) (c := g.n) (k := i + 1) rfl (by decide) (by simp [plenAt])), rows_in fun q hq => by simpa [plenAt] using r1 q hq, rows_in fun q hq => by simpa [plenAt] using hq, trivial⟩⟩⟩
        · refine SCmp.no (decide_eq_false (by omega)) ?_
          have hn : i + 1 = g.n := by omega
          have z0 : ggr g.n (ent g) 0 ≠ 0 := fun e => by have := ggr_pos n1 (hp 0 n1); rw [e] at this; exact absurd this (by decide)
          have gq := quo_ok (ggr g.n (ent g) g.n) (ggr g.n (ent g) 0) z0 (ggr_bz hB h1 g.n (Nat.le_refl _)).sz (ggr_bz hB h1 0 (Nat.zero_le _)).sz (by omega)
          refine SDraw.mkX (by kernel_rfl) ?_
          repeat refine SOp.mk _ _ (And.intro rfl rfl) rfl ?_
          refine SOp.mk _ _ (SCall.pureT (gq) (fun _ => rfl) (And.intro rfl rfl)) rfl ?_
          repeat refine SOp.mk _ _ (And.intro rfl rfl) rfl ?_
          refine SFin.mk (by kernel_rfl) ?_
          have eL : matP false false g.n g.n (gL g.n (ent g)) = matP false false (i + 1) g.n (gL g.n (ent g)) := by rw [hn]
          refine SRet.pure (.tup rfl fun a c d e1 e2 => ?_)
          match a, e1, e2 with
          | 0, e1, e2 =>
            cases e1; cases e2
            refine .aggp (ps := partC g.n (ent g)) (fun d hd => by simp only [partC, List.mem_cons, List.not_mem_nil, or_false] at hd; rcases hd with rfl | rfl | rfl | rfl | rfl | rfl <;> rfl) rfl fun a c d e1 e2 => ?_
            match a, e1, e2 with
            | 0, e1, e2 => cases e1; cases e2; exact .frz (h := .t 3) rfl (by simp) (by simp) pers_perm (by rw [List.drop_zero]; exact List.take_of_length_le (by simp))
            | 1, e1, e2 => cases e1; cases e2; rw [eL]; exact frzM (h := 9) (p := 8) rfl rfl fun q hq => hq
            | 2, e1, e2 => cases e1; cases e2; exact .p _ pers_matP
            | 3, e1, e2 => cases e1; cases e2; exact .p _ (.bool _)
            | 4, e1, e2 => cases e1; cases e2; exact .p _ (.sl _ _ (pers_limbs _))
            | 5, e1, e2 => cases e1; cases e2; exact .p _ (.sl _ _ (pers_limbs _))
          | 1, e1, e2 => cases e1; cases e2; exact .p _ (.int _ _)
end Go.Proofs.Ytjfcphohgicolaa

namespace Go.Proofs.Ytjfcphohgicolaa
open Go
set_option linter.unusedVariables false
set_option linter.unusedSimpArgs false
set_option maxRecDepth 10000
/-- Digits of all that is left, of a Gen of the statements. -/
theorem gkB_wf {g : GV} (h : Wf g 5 13) (h5 : g.n ≤ 5) : GkB g.n (ent g) 42100 := fun k hk i j hi hj =>
  (GkB.of (b := 163) h.n1 (fun i j hi hj => h.bEnt hi hj) k hk i j hi hj).mono (Nat.le_trans (bb_mono (show g.n - 1 ≤ 4 by omega)) (by decide +kernel))
def gk13 : GV := ⟨5, 1, 0, fun _ => ((2 : Int) : Rat), fun _ => ((1 : Int) : Rat), fun _ => 0, fun _ => 0⟩
theorem wf_gk13 : Wf gk13 5 13 where
  k1 := by decide
  k7 := by decide
  n1 := by decide
  n6 := by decide
  r2 := by decide
  r1 := fun h => by rcases h with h | h <;> cases h
  r0 := fun _ => rfl
  bA := fun i _ => int_bz (by decide) (by decide)
  bB := fun i _ => (int_bz (k := 5) (by decide) (by decide)).mono (by decide)
  bG := fun i _ => bz_zero.mono (by decide)
  bH := fun i _ => bz_zero.mono (by decide)
  ne := fun i j _ _ => by show ((2 : Int) : Rat) ≠ ((1 : Int) : Rat); decide
  bc := by decide
  c4 := by decide
/-- One row, of one number, made anew. -/
theorem kall1_ok (A : Nat → Nat → Rat) {a : Nat} (hA : Bz (A 0 0) a) (ha : a + a ≤ 1048576) : CallP Try.prog 12 [matP false false 1 1 A, .sl true 1 [ratsM true (lst 1 fun _ => A 0 0)]] (.p (.bool true)) [] := by
  have h := rall_ok false false true true 1 1 A (a := a) (fun i k hi hk => by
    obtain rfl : i = 0 := by omega
    obtain rfl : k = 0 := by omega
    exact hA) ha (by decide) (by decide)
  exact h
theorem known13_ok : CallP Try.prog 5 [] (.p (.bool true)) [] := by
  have hf := kfactor_ok m15 gk13 wf_gk13 (.inl rfl) (gkB_wf wf_gk13 (by decide)) (by decide) (by decide) (fun t ht => by
    obtain rfl : t = 0 := by have : t < 1 := ht; omega
    decide +kernel)
  have e1 : gU 1 (ent gk13) 0 0 = ((1 : Int) : Rat) := by decide +kernel
  have e2 : gro 1 (ent gk13) = ((1 : Int) : Rat) := by decide +kernel
  have a1 := kall1_ok (gU 1 (ent gk13)) (a := 5) (by rw [e1]; exact int_bz (by decide) (by decide)) (by decide)
  rw [e1] at a1
  have b1 : Bz (gro 1 (ent gk13)) 5 := by rw [e2]; exact int_bz (by decide) (by decide)
  have b2 : Bz ((1 : Int) : Rat) 5 := int_bz (by decide) (by decide)
  have s1 := rsame_ok (gro 1 (ent gk13)) ((1 : Int) : Rat) b1 b2 (by decide)
  rw [decide_eq_true e2] at s1
  refine callG_of_vc (wr := wr0) Γok mixed Try.func5 (by kernel_rfl) rfl (by kernel_rfl) (le_of_ble rfl) (by simp) ?_
  refine SCall.pure (rint_ok 2 (by decide)) ?_
  refine SCall.pure (rint_ok 1 (by decide)) ?_
  refine SView.all rfl <| SView.all rfl <| SCall.pureT (pvs := [.agg [.int .i64 5, .int .i64 1, .int .i64 0, ratsM true (lst 1 gk13.A), ratsM true (lst 1 gk13.B), znil, znil]]) (CallG.weak1 hf (.gen rfl rfl rfl (.refl _) (.refl _) (.nil _ _) (.nil _ _))) (fun _ => rfl) ?_
  refine SDraw.mkX (by kernel_rfl) ?_
  repeat refine SOp.mk _ _ (And.intro rfl rfl) rfl ?_
  refine SOp.mk _ _ (SCmp.yes rfl (And.intro rfl rfl)) rfl ?_
  repeat refine SOp.mk _ _ (And.intro rfl rfl) rfl ?_
  refine SOp.mk _ _ (SZ.mk 1 rfl (And.intro rfl rfl)) rfl ?_
  refine SOp.mk _ _ (SCmp.yes rfl (And.intro rfl rfl)) rfl ?_
  repeat refine SOp.mk _ _ (And.intro rfl rfl) rfl ?_
  refine SOp.mk _ _ (SCall.pure (rint_ok 1 (by decide)) (And.intro rfl rfl)) rfl ?_
  repeat refine SOp.mk _ _ (And.intro rfl rfl) rfl ?_
  refine SOp.mk _ _ (SLendR.mk [ratsM true (lst 1 fun _ => ((1 : Int) : Rat))] rfl rfl (fun i c p e1 e2 => by match i, e1, e2 with | 0, e1, e2 => cases e1; cases e2; exact .vec (es := rats (lst 1 fun _ => ((1 : Int) : Rat))) rfl (by decide)) <| SCall.pure a1 (And.intro rfl rfl)) rfl ?_
  repeat refine SOp.mk _ _ (And.intro rfl rfl) rfl ?_
  refine SOp.mk _ _ (SCall.pure (rint_ok 1 (by decide)) (And.intro rfl rfl)) rfl ?_
  refine SOp.mk _ _ (SCall.pure (s1) (And.intro rfl rfl)) rfl ?_
  repeat refine SOp.mk _ _ (And.intro rfl rfl) rfl ?_
  refine SFin.mk (by kernel_rfl) ?_
  exact SRet.pure (.p _ (.bool _))
end Go.Proofs.Ytjfcphohgicolaa

namespace Go.Proofs.Ytjfcphohgicolaa
open Go
set_option linter.unusedVariables false
set_option linter.unusedSimpArgs false
set_option maxRecDepth 10000
abbrev partA (n : Nat) (A : Nat → Nat → Rat) : List AV := [.p (.sl false 1 (permP n (gO n A))), .p (matP false false n n (gL n A)), .p (matP false false n n (gU n A)), .p (.bool (decide ((gro n A).num < 0))), .p (natP (gro n A).num.natAbs), .p (natP (gro n A).den)]
end Go.Proofs.Ytjfcphohgicolaa

namespace Go.Proofs.Ytjfcphohgicolaa
open Go
set_option linter.unusedVariables false
set_option linter.unusedSimpArgs false
set_option maxRecDepth 10000
theorem quoZ_ok (p : Rat) {j : Nat} (hp : Sz p j) (h : j ≤ 137438953472) : CallP Try.prog 34 [ratP p, ratP 0] (.tup [.p rat0, .p (.int .i64 5)]) [] := by
  have h1 := hp.n
  have h2 := hp.d
  have z0 := (bz_zero.mono (show 1 ≤ 1 by decide)).sz
  have z1 := z0.n
  have z2 := z0.d
  have hl := make0_ok (decide (p.num < 0) != decide ((0 : Rat).num < 0)) false false (p.num.natAbs * (0 : Rat).den)
  refine callG_of_vc (wr := wr0) Γok mixed Try.func34 (by kernel_rfl) rfl (by kernel_rfl) (le_of_ble rfl) (by simp) ?_
  refine SDraw.mk (by kernel_rfl) ?_
  repeat refine SOp.mk _ _ (And.intro rfl rfl) rfl ?_
  refine SOp.mk _ _ (SCmp.sym (And.intro rfl rfl)) rfl ?_
  repeat refine SOp.mk _ _ (And.intro rfl rfl) rfl ?_
  refine SOp.mk _ _ (SCall.pure (mul_ok false false p.num.natAbs (0 : Rat).den (by omega) (by omega)) (And.intro rfl rfl)) rfl ?_
  repeat refine SOp.mk _ _ (And.intro rfl rfl) rfl ?_
  refine SOp.mk _ _ (SCall.pure (mul_ok false false p.den (0 : Rat).num.natAbs (by omega) (by omega)) (And.intro rfl rfl)) rfl ?_
  refine SOp.mk _ _ (SCall.pureT hl (fun _ => rfl) (And.intro rfl rfl)) rfl ?_
  repeat refine SOp.mk _ _ (And.intro rfl rfl) rfl ?_
  exact SRet.pure (.tup rfl fun i c d e1 e2 => by
    match i, e1, e2 with
    | 0, e1, e2 => cases e1; cases e2; exact .p _ (by have := pers_rat false 0 0; rw [natP_zero] at this; exact this)
    | 1, e1, e2 => cases e1; cases e2; exact .p _ (.int _ _))
theorem sb_bz {a x : Nat → Rat} {s : Rat} {lo bs ba bx : Nat} {d : Nat} (hs : Bz s bs) (ha : ∀ j, lo ≤ j → j < lo + d → Bz (a j) ba) (hx : ∀ j, lo ≤ j → j < lo + d → Bz (x j) bx) : Bz (sb a x s lo d) (bs + d * (ba + bx + 1)) := by
  induction d with
  | zero => exact hs.mono (by omega)
  | succ d ih =>
    have ih := ih (fun j h1 h2 => ha j h1 (by omega)) fun j h1 h2 => hx j h1 (by omega)
    exact (ih.sub ((ha (lo + d) (by omega) (by omega)).mul (hx (lo + d) (by omega) (by omega)))).mono (by rw [Nat.succ_mul]; omega)
/-- What is left of a number, behind so many products; of x, the ones that are read alone need be known. -/
theorem left_ok (m : Bool) (mx : Bool) (s : Rat) (n : Nat) (a x : Nat → Rat) (g : Nat → PV) (lo hi : Nat) {bs ba bx : Nat} (hn : n ≤ 1000) (hlh : lo ≤ hi) (hhn : hi ≤ n) (hg : ∀ j, lo ≤ j → j < hi → g j = ratP (x j))
    (hs : Bz s bs) (ha : ∀ j, lo ≤ j → j < hi → Bz (a j) ba) (hx : ∀ j, lo ≤ j → j < hi → Bz (x j) bx) (hb : bs + n * (ba + bx + 1) + ba + bx ≤ 100000000000) :
    CallP Try.prog 59 [ratP s, ratsM m (lst n a), .sl mx 3 (fl n g), .int .i64 lo, .int .i64 hi] (.p (ratP (sb a x s lo (hi - lo)))) [] := by
  have h0 : s + 0 = s := by grind
  refine callG_of_vc (wr := wr0) Γok mixed Try.func59 (by kernel_rfl) rfl (by kernel_rfl) (le_of_ble rfl) (by simp) ?_
  refine SDraw.mkX (by kernel_rfl) ?_
  repeat refine SOp.mk _ _ (And.intro rfl rfl) rfl ?_
  refine SOp.mk _ _ (SCall.pure (szero_ok) (And.intro rfl rfl)) rfl ?_
  refine SOp.mk _ _ (SCall.pure (ratadd_ok s 0 hs.sz (bz_zero.mono (show 1 ≤ 1 by decide)).sz (by omega)) (And.intro rfl rfl)) rfl ?_
  repeat refine SOp.mk _ _ (And.intro rfl rfl) rfl ?_
  refine SFin.mk (by kernel_rfl) ?_
  rw [h0]
  refine SLoop.mk Nat (fun d => ([(1, .p (ratsM m (lst n a))), (2, .p (.sl mx 3 (fl n g))), (4, .p (.int .i64 hi)), (5, .bptr 0 0), (10, .bptr 1 0), (11, .p (.int .i64 ((lo + d : Nat) : Int)))], [.box 30 (bxQ (sb a x s lo d)), .box 30 [.p (.bool false), .p (.sl false 1 []), .p (.sl false 1 [])]]))
    (fun d => lo + d ≤ hi) (fun d => hi - d) 0 [0, 1] (by omega) ⟨rfl, by simp, rfl, rfl, rfl, ⟨rfl, rfl, rfl, rfl, rfl, rfl, trivial⟩, ⟨rfl, rfl, trivial⟩⟩ ?_
  intro d hd
  have hd : lo + d ≤ hi := hd
  by_cases hdh : lo + d < hi
  · refine SCmp.yes (decide_eq_true (by omega)) ?_
    have z1 := sb_bz (d := d) hs (fun j h1 h2 => ha j h1 (by omega)) fun j h1 h2 => hx j h1 (by omega)
    have z2 := (ha (lo + d) (by omega) hdh).mul (hx (lo + d) (by omega) hdh)
    have zd : d * (ba + bx + 1) ≤ n * (ba + bx + 1) := Nat.mul_le_mul_right _ (by omega)
    refine SDraw.mkX (by kernel_rfl) ?_
    repeat refine SOp.mk _ _ (And.intro rfl rfl) rfl ?_
    refine SOp.mk _ _ (SIdx.rf (lo + d) rfl (by omega) (And.intro rfl rfl)) rfl ?_
    repeat refine SOp.mk _ _ (And.intro rfl rfl) rfl ?_
    refine SOp.mk _ _ (SIdx.fl (lo + d) (ratP (x (lo + d))) rfl (by omega) (hg (lo + d) (by omega) hdh) (And.intro rfl rfl)) rfl ?_
    repeat refine SOp.mk _ _ (And.intro rfl rfl) rfl ?_
    refine SOp.mk _ _ (SCall.pure (ratmul_ok _ _ (ha (lo + d) (by omega) hdh).sz (hx (lo + d) (by omega) hdh).sz (by omega)) (And.intro rfl rfl)) rfl ?_
    refine SOp.mk _ _ (SCall.pure (ratsub_ok _ _ z1.sz z2.sz (by omega)) (And.intro rfl rfl)) rfl ?_
    repeat refine SOp.mk _ _ (And.intro rfl rfl) rfl ?_
    refine SFin.mk (by kernel_rfl) ?_
    refine SWrap.i64z ((lo + (d + 1) : Nat) : Int) (by omega) (by omega) ?_
    exact ⟨d + 1, [0, 1], hdh, by show hi - (d + 1) < hi - d; omega, ⟨rfl, by simp, rfl, rfl, rfl, ⟨rfl, rfl, rfl, rfl, rfl, rfl, trivial⟩, ⟨rfl, rfl, trivial⟩⟩⟩
  · refine SCmp.no (decide_eq_false (by omega)) ?_
    obtain rfl : d = hi - lo := by omega
    exact SRet.pure (.p _ (pers_rat _ _ _))
/-- Is a system's shape right? -/
def rowsF (A : Nat → Nat → Rat) (y : Nat → Rat) : Nat → Nat → Rat
  | 0 => y
  | i + 1 => A i
def rowsQ (m q : Bool) (n : Nat) (A : Nat → Nat → Rat) (y : Nat → Rat) (i : Nat) : PV := ratsM (if i = 0 then q else m) (lst n (rowsF A y i))
theorem rowsQ_fl {m q : Bool} {n k : Nat} {A : Nat → Nat → Rat} {y : Nat → Rat} : [ratsM q (lst n y)] ++ (fl k fun i => ratsM m (lst n (A i))) = fl (k + 1) (rowsQ m q n A y) := by
  apply List.ext_getElem?
  intro i
  match i with
  | 0 => rw [fl_get (by omega)]; rfl
  | i + 1 =>
    rw [List.getElem?_append_right (by simp)]
    show (fl k _)[i + 1 - 1]? = _
    rw [Nat.add_sub_cancel]
    by_cases h : i < k
    · rw [fl_get h, fl_get (by omega)]; rfl
    · rw [List.getElem?_eq_none (by simp; omega), List.getElem?_eq_none (by simp; omega)]
theorem shaped_ok (m m' q : Bool) (n : Nat) (A : Nat → Nat → Rat) (y : Nat → Rat) {b : Nat} (hn : n ≤ 900) (hA : ∀ i j, i < n → j < n → Bz (A i j) b) (hy : ∀ i, i < n → Bz (y i) b) (hb : b ≤ 100000000000) :
    CallP Try.prog 58 [matP m m' n n A, ratsM q (lst n y)] (.p (.bool true)) [] := by
  have zR : ∀ i j, i < n + 1 → j < n → Bz (rowsF A y i j) b := fun i j hi hj => by
    match i with
    | 0 => exact hy j hj
    | i + 1 => exact hA i j (by omega) hj
  refine callG_of_vc (wr := wr0) Γok mixed Try.func58 (by kernel_rfl) rfl (by kernel_rfl) (le_of_ble rfl) (by simp) ?_
  refine SEqN.mk (by simp) ?_
  refine SRoom.mk (by simp; omega) (by simp; omega) ?_
  refine SEs.mk (fl (n + 1) (rowsQ m' q n A y)) rowsQ_fl ?_
  refine SZN.mk (n + 1) (by simp; omega) ?_
  refine SZ.mk ((n + 1 : Nat) : Int) rfl ?_
  refine SLoop.mk Nat (fun i => ([(0, .p (matP m m' n n A)), (14, .vec 0 1 0 (n + 1)), (15, .p (.int .i64 ((n + 1 : Nat) : Int))), (16, .p (.int .i64 i))], [.vec 24 1 (fl (n + 1) (rowsQ m' q n A y))]))
    (fun i => i ≤ n + 1) (fun i => n + 1 - i) 0 [1] (Nat.zero_le _) ⟨rfl, by simp, rfl, rfl, rfl, ⟨rfl, rfl, rfl, rfl, trivial⟩, ⟨rfl, trivial⟩⟩ ?_
  intro i hi
  have hi : i ≤ n + 1 := hi
  by_cases hin : i < n + 1
  · refine SCmp.yes (decide_eq_true (by omega)) ?_
    refine SPos.mk i rfl hin ?_
    refine SIdx.fl (i + 0) (ratsM (if i = 0 then q else m') (lst n (rowsF A y i))) rfl (by omega) rfl ?_
    generalize (if i = 0 then q else m') = f
    refine SZ.mk (n : Int) (by simp [lst]) ?_
    refine SZ.mk (n : Int) (by simp) ?_
    refine SCmp.no (neF rfl) ?_
    refine SZ.mk (n : Int) (by simp [lst]) ?_
    refine SLoop.mk Nat (fun j => ([(0, .p (matP m m' n n A)), (14, .vec 0 1 0 (n + 1)), (15, .p (.int .i64 ((n + 1 : Nat) : Int))), (16, .p (.int .i64 i)), (25, .p (ratsM f (lst n (rowsF A y i)))), (26, .p (.int .i64 n)), (27, .p (.int .i64 j))], [.vec 24 1 (fl (n + 1) (rowsQ m' q n A y))]))
      (fun j => j ≤ n) (fun j => n - j) 0 [0] (Nat.zero_le _) ⟨rfl, by simp, rfl, rfl, rfl, ⟨rfl, rfl, rfl, rfl, rfl, rfl, rfl, trivial⟩, ⟨rfl, trivial⟩⟩ ?_
    intro j hj
    have hj : j ≤ n := hj
    by_cases hjn : j < n
    · refine SCmp.yes (decide_eq_true (by omega)) ?_
      refine SIdx.rf j rfl hjn ?_
      refine SCall.pure (ratright_ok (rowsF A y i j) (zR i j hin hjn).sz (by omega)) ?_
      refine SCmp.no (rfl) ?_
      refine SWrap.i64z ((j + 1 : Nat) : Int) (by omega) (by omega) ?_
      exact ⟨j + 1, [0], hjn, by show n - (j + 1) < n - j; omega, ⟨rfl, by simp, rfl, rfl, rfl, ⟨rfl, rfl, rfl, rfl, rfl, rfl, rfl, trivial⟩, ⟨rfl, trivial⟩⟩⟩
    · refine SCmp.no (decide_eq_false (by omega)) ?_
      refine SWrap.i64z ((i + 1 : Nat) : Int) (by omega) (by omega) ?_
      exact ⟨i + 1, [0], hin, by show n + 1 - (i + 1) < n + 1 - i; omega, ⟨rfl, by simp, rfl, rfl, rfl, ⟨rfl, rfl, rfl, rfl, trivial⟩, ⟨rfl, trivial⟩⟩⟩
  · refine SCmp.no (decide_eq_false (by omega)) ?_
    exact SRet.pure (.tf _)
/-- What a lower triangle's system comes to, so far. -/
def lxF (L : Nat → Nat → Rat) (b : Nat → Rat) : Nat → Nat → Rat
  | 0 => fun _ => 0
  | k + 1 => upd (lxF L b k) k (sb (L k) (lxF L b k) (b k) 0 k)
theorem row_full' {n : Nat} {f : Nat → Rat} : rats (lst n f) = fl n fun k => if k < n then ratP (f k) else rat0 := by
  rw [rats, lst_fl, fl_map]; exact fl_congr fun k hk => (if_pos hk).symm
theorem lx_step {L : Nat → Nat → Rat} {b : Nat → Rat} {n i : Nat} (hi : i < n) :
    (fl n fun k => if k < i then ratP (lxF L b i k) else rat0).set (i + 0) (ratP (sb (L i) (lxF L b i) (b i) 0 (i - 0))) = fl n fun k => if k < i + 1 then ratP (lxF L b (i + 1) k) else rat0 := by
  rw [fl_set]
  refine fl_congr fun k hk => ?_
  simp only [upd, lxF, Nat.add_zero, Nat.sub_zero]
  by_cases e : k = i
  · rw [if_pos e, if_pos (by omega), if_pos e]
  · rw [if_neg e, if_neg e]
    by_cases e2 : k < i
    · rw [if_pos e2, if_pos (by omega)]
    · rw [if_neg e2, if_neg (by omega)]
theorem slowerS_ok (m m' q : Bool) (n : Nat) (L : Nat → Nat → Rat) (b : Nat → Rat) {D X : Nat} (hn : n ≤ 900) (hL : ∀ i j, i < n → j < n → Bz (L i j) D) (hb : ∀ i, i < n → Bz (b i) D) (hX : ∀ k, k ≤ n → ∀ i, i < k → Bz (lxF L b k i) X) (hD : D + n * (D + X + 1) + D + X ≤ 100000000000) :
    CallP Try.prog 40 [matP m m' n n L, ratsM q (lst n b)] (.p (ratsM false (lst n (lxF L b n)))) [] := by
  refine callG_of_vc (wr := wr0) Γok mixed Try.func40 (by kernel_rfl) rfl (by kernel_rfl) (le_of_ble rfl) (by simp) ?_
  refine SCall.pure (shaped_ok m m' q n L b hn hL hb (by omega)) ?_
  refine SCmp.no (rfl) ?_
  refine SZ.mk (n : Int) (by simp [lst]) ?_
  refine SZ.mk (n : Int) rfl ?_
  refine SLt.mk (by simp) ?_
  refine SMake.rat n rfl (by omega) ?_
  refine SZ.mk (n : Int) rfl ?_
  refine SLoop.mk Nat (fun i => ([(0, .p (matP m m' n n L)), (1, .p (ratsM q (lst n b))), (5, .vec 0 3 0 n), (15, .p (.int .i64 n)), (16, .p (.int .i64 i))], [.vec 30 3 (fl n fun k => if k < i then ratP (lxF L b i k) else rat0)]))
    (fun i => i ≤ n) (fun i => n - i) 0 [0] (Nat.zero_le _) ⟨rfl, by simp, rfl, rfl, rfl, ⟨rfl, rfl, rfl, rfl, rfl, trivial⟩, ⟨congrArg _ ((fl_congr fun k hk => if_neg (by omega)).trans (replicate_fl n rat0).symm), trivial⟩⟩ ?_
  intro i hi
  have hi : i ≤ n := hi
  by_cases hin : i < n
  · refine SCmp.yes (decide_eq_true (by omega)) ?_
    have hl := left_ok m' true (b i) n (L i) (lxF L b i) (fun k => if k < i then ratP (lxF L b i k) else rat0) 0 i (by omega) (Nat.zero_le _) hi (fun j _ h => if_pos h) (hb i hin) (fun j _ h => hL i j hin (by omega)) (fun j _ h => hX i hi j h) hD
    refine SDraw.mkX (by kernel_rfl) ?_
    repeat refine SOp.mk _ _ (And.intro rfl rfl) rfl ?_
    refine SOp.mk _ _ (SIdx.rf i rfl hin (And.intro rfl rfl)) rfl ?_
    repeat refine SOp.mk _ _ (And.intro rfl rfl) rfl ?_
    refine SOp.mk _ _ (SIdx.mf i rfl hin (And.intro rfl rfl)) rfl ?_
    repeat refine SOp.mk _ _ (And.intro rfl rfl) rfl ?_
    refine SOp.mk _ _ (SView.all (by simp) <| SCall.pure (pvs := [ratP (b i), ratsM m' (lst n (L i)), .sl true 3 (fl n fun k => if k < i then ratP (lxF L b i k) else rat0), .int .i64 0, .int .i64 i]) hl (And.intro rfl rfl)) rfl ?_
    refine SOp.mk _ _ (SPos.mk i rfl hin (And.intro rfl rfl)) rfl ?_
    refine SOp.mk _ _ (SLt.mk (by simp; omega) <| SEs.mk _ (lx_step hin) (And.intro rfl rfl)) rfl ?_
    repeat refine SOp.mk _ _ (And.intro rfl rfl) rfl ?_
    refine SFin.mk (by kernel_rfl) ?_
    refine SWrap.i64z ((i + 1 : Nat) : Int) (by omega) (by omega) ?_
    exact ⟨i + 1, [0], hin, by show n - (i + 1) < n - i; omega, ⟨rfl, by simp, rfl, rfl, rfl, ⟨rfl, rfl, rfl, rfl, rfl, trivial⟩, ⟨rfl, trivial⟩⟩⟩
  · refine SCmp.no (decide_eq_false (by omega)) ?_
    obtain rfl : n = i := by omega
    exact SRet.pure (frzR (h := 0) (l := lst n (lxF L b n)) (congrArg (Blk.vec 30 3) row_full'.symm) (by simp [lst]))
end Go.Proofs.Ytjfcphohgicolaa

namespace Go.Proofs.Ytjfcphohgicolaa
open Go
set_option linter.unusedVariables false
set_option linter.unusedSimpArgs false
set_option maxRecDepth 10000
/-- What an upper triangle's system comes to, from the last row on, so far. -/
def uxF (U : Nat → Nat → Rat) (b : Nat → Rat) (n : Nat) : Nat → Nat → Rat
  | 0 => fun _ => 0
  | t + 1 => upd (uxF U b n t) (n - 1 - t) (sb (U (n - 1 - t)) (uxF U b n t) (b (n - 1 - t)) (n - t) t / U (n - 1 - t) (n - 1 - t))
theorem ux_step {U : Nat → Nat → Rat} {b : Nat → Rat} {n t : Nat} (ht : t < n) :
    (fl n fun k => if n ≤ k + t then ratP (uxF U b n t k) else rat0).set (n - 1 - t + 0) (ratP (sb (U (n - 1 - t)) (uxF U b n t) (b (n - 1 - t)) (n - t) t / U (n - 1 - t) (n - 1 - t))) = fl n fun k => if n ≤ k + (t + 1) then ratP (uxF U b n (t + 1) k) else rat0 := by
  rw [fl_set]
  refine fl_congr fun k hk => ?_
  simp only [upd, uxF, Nat.add_zero]
  by_cases e : k = n - 1 - t
  · rw [if_pos e, if_pos (by omega), if_pos e]
  · rw [if_neg e, if_neg e]
    by_cases e2 : n ≤ k + t
    · rw [if_pos e2, if_pos (by omega)]
    · rw [if_neg e2, if_neg (by omega)]
theorem supperS_ok (m m' q : Bool) (n K : Nat) (U : Nat → Nat → Rat) (b : Nat → Rat) {D X : Nat} (hn : n ≤ 900) (hU : ∀ i j, i < n → j < n → Bz (U i j) D) (hb : ∀ i, i < n → Bz (b i) D) (hX : ∀ t, t ≤ K → ∀ i, n ≤ i + t → i < n → Bz (uxF U b n t i) X) (hD : D + n * (D + X + 1) + D + X ≤ 100000000000)
    (hK : K ≤ n) (hp : ∀ t, t < K → U (n - 1 - t) (n - 1 - t) ≠ 0) (hz : K < n → U (n - 1 - K) (n - 1 - K) = 0)
    (R : AV) (h1 : K < n → R = .tup [.p (ratsM false []), .p (.int .i64 5)]) (h2 : K = n → R = .tup [.p (ratsM false (lst n (uxF U b n n))), .p (.int .i64 0)]) :
    CallP Try.prog 41 [matP m m' n n U, ratsM q (lst n b)] R [] := by
  refine callG_of_vc (wr := wr0) Γok mixed Try.func41 (by kernel_rfl) rfl (by kernel_rfl) (le_of_ble rfl) (by simp) ?_
  refine SCall.pure (shaped_ok m m' q n U b hn hU hb (by omega)) ?_
  refine SCmp.no (rfl) ?_
  refine SZ.mk (n : Int) (by simp [lst]) ?_
  refine SZ.mk (n : Int) rfl ?_
  refine SLt.mk (by simp) ?_
  refine SMake.rat n rfl (by omega) ?_
  refine SZ.mk (n : Int) (by simp [lst]) ?_
  refine SWrap.i64z ((n : Int) - 1 - (0 : Nat)) (by omega) (by omega) ?_
  refine SLoop.mk Nat (fun t => ([(0, .p (matP m m' n n U)), (1, .p (ratsM q (lst n b))), (6, .vec 0 3 0 n), (7, .p (.int .i64 ((n : Int) - 1 - (t : Nat))))], [.vec 30 3 (fl n fun k => if n ≤ k + t then ratP (uxF U b n t k) else rat0)]))
    (fun t => t ≤ K) (fun t => n - t) 0 [0] (Nat.zero_le _) ⟨rfl, by simp, rfl, rfl, rfl, ⟨rfl, rfl, rfl, rfl, trivial⟩, ⟨congrArg _ ((fl_congr fun k hk => if_neg (by omega)).trans (replicate_fl n rat0).symm), trivial⟩⟩ ?_
  intro t ht
  have ht : t ≤ K := ht
  by_cases htn : t < n
  · refine SCmp.yes (decide_eq_true (by omega)) ?_
    have hl := left_ok m' true (b (n - 1 - t)) n (U (n - 1 - t)) (uxF U b n t) (fun k => if n ≤ k + t then ratP (uxF U b n t k) else rat0) (n - t) n (by omega) (by omega) (Nat.le_refl _) (fun j h _ => if_pos (by omega)) (hb _ (by omega)) (fun j _ h => hU _ j (by omega) h) (fun j h1 h2 => hX t ht j (by omega) h2) (by omega)
    rw [show n - (n - t) = t by omega] at hl
    have zs := sb_bz (a := U (n - 1 - t)) (x := uxF U b n t) (lo := n - t) (d := t) (hb (n - 1 - t) (by omega)) (fun j h1 h2 => hU (n - 1 - t) j (by omega) (by omega)) (fun j h1 h2 => hX t ht j (by omega) (by omega))
    have zt : t * (D + X + 1) ≤ n * (D + X + 1) := Nat.mul_le_mul_right _ (by omega)
    have zu := hU (n - 1 - t) (n - 1 - t) (by omega) (by omega)
    by_cases htK : t < K
    · have hq := quo_ok (sb (U (n - 1 - t)) (uxF U b n t) (b (n - 1 - t)) (n - t) t) (U (n - 1 - t) (n - 1 - t)) (hp t htK) zs.sz zu.sz (by omega)
      refine SDraw.mkX (by kernel_rfl) ?_
      repeat refine SOp.mk _ _ (And.intro rfl rfl) rfl ?_
      refine SOp.mk _ _ (SIdx.rf (n - 1 - t) (by omega) (by omega) (And.intro rfl rfl)) rfl ?_
      repeat refine SOp.mk _ _ (And.intro rfl rfl) rfl ?_
      refine SOp.mk _ _ (SIdx.mf (n - 1 - t) (by omega) (by omega) (And.intro rfl rfl)) rfl ?_
      repeat refine SOp.mk _ _ (And.intro rfl rfl) rfl ?_
      refine SOp.mk _ _ (SWrap.i64z ((n - t : Nat) : Int) (by omega) (by omega) (And.intro rfl rfl)) rfl ?_
      repeat refine SOp.mk _ _ (And.intro rfl rfl) rfl ?_
      refine SOp.mk _ _ (SZ.mk (n : Int) (by simp [lst]) (And.intro rfl rfl)) rfl ?_
      repeat refine SOp.mk _ _ (And.intro rfl rfl) rfl ?_
      refine SOp.mk _ _ (SView.all (by simp) <| SCall.pure (pvs := [ratP (b (n - 1 - t)), ratsM m' (lst n (U (n - 1 - t))), .sl true 3 (fl n fun k => if n ≤ k + t then ratP (uxF U b n t k) else rat0), .int .i64 ((n - t : Nat) : Int), .int .i64 n]) hl (And.intro rfl rfl)) rfl ?_
      repeat refine SOp.mk _ _ (And.intro rfl rfl) rfl ?_
      refine SOp.mk _ _ (SIdx.mf (n - 1 - t) (by omega) (by omega) (And.intro rfl rfl)) rfl ?_
      repeat refine SOp.mk _ _ (And.intro rfl rfl) rfl ?_
      refine SOp.mk _ _ (SIdx.rf (n - 1 - t) (by omega) (by omega) (And.intro rfl rfl)) rfl ?_
      repeat refine SOp.mk _ _ (And.intro rfl rfl) rfl ?_
      refine SOp.mk _ _ (SCall.pureT (hq) (fun _ => rfl) (And.intro rfl rfl)) rfl ?_
      repeat refine SOp.mk _ _ (And.intro rfl rfl) rfl ?_
      refine SFin.mk (by kernel_rfl) ?_
      refine SCmp.no (rfl) ?_
      refine SPos.mk (n - 1 - t) (by omega) (by omega) ?_
      refine SLt.mk (by simp; omega) ?_
      refine SEs.mk _ (ux_step htn) ?_
      refine SWrap.i64z ((n : Int) - 1 - ((t + 1 : Nat) : Int)) (by omega) (by omega) ?_
      exact ⟨t + 1, [0], htK, by show n - (t + 1) < n - t; omega, ⟨rfl, by simp, rfl, rfl, rfl, ⟨rfl, rfl, rfl, rfl, trivial⟩, ⟨rfl, trivial⟩⟩⟩
    · obtain rfl : t = K := by omega
      have hq := quoZ_ok (sb (U (n - 1 - t)) (uxF U b n t) (b (n - 1 - t)) (n - t) t) zs.sz (by omega)
      rw [← hz htn] at hq
      have e := h1 htn
      subst e
      refine SDraw.mkX (by kernel_rfl) ?_
      repeat refine SOp.mk _ _ (And.intro rfl rfl) rfl ?_
      refine SOp.mk _ _ (SIdx.rf (n - 1 - t) (by omega) (by omega) (And.intro rfl rfl)) rfl ?_
      repeat refine SOp.mk _ _ (And.intro rfl rfl) rfl ?_
      refine SOp.mk _ _ (SIdx.mf (n - 1 - t) (by omega) (by omega) (And.intro rfl rfl)) rfl ?_
      repeat refine SOp.mk _ _ (And.intro rfl rfl) rfl ?_
      refine SOp.mk _ _ (SWrap.i64z ((n - t : Nat) : Int) (by omega) (by omega) (And.intro rfl rfl)) rfl ?_
      repeat refine SOp.mk _ _ (And.intro rfl rfl) rfl ?_
      refine SOp.mk _ _ (SZ.mk (n : Int) (by simp [lst]) (And.intro rfl rfl)) rfl ?_
      repeat refine SOp.mk _ _ (And.intro rfl rfl) rfl ?_
      refine SOp.mk _ _ (SView.all (by simp) <| SCall.pure (pvs := [ratP (b (n - 1 - t)), ratsM m' (lst n (U (n - 1 - t))), .sl true 3 (fl n fun k => if n ≤ k + t then ratP (uxF U b n t k) else rat0), .int .i64 ((n - t : Nat) : Int), .int .i64 n]) hl (And.intro rfl rfl)) rfl ?_
      repeat refine SOp.mk _ _ (And.intro rfl rfl) rfl ?_
      refine SOp.mk _ _ (SIdx.mf (n - 1 - t) (by omega) (by omega) (And.intro rfl rfl)) rfl ?_
      repeat refine SOp.mk _ _ (And.intro rfl rfl) rfl ?_
      refine SOp.mk _ _ (SIdx.rf (n - 1 - t) (by omega) (by omega) (And.intro rfl rfl)) rfl ?_
      repeat refine SOp.mk _ _ (And.intro rfl rfl) rfl ?_
      refine SOp.mk _ _ (SCall.pureT (hq) (fun _ => rfl) (And.intro rfl rfl)) rfl ?_
      repeat refine SOp.mk _ _ (And.intro rfl rfl) rfl ?_
      refine SFin.mk (by kernel_rfl) ?_
      refine SCmp.yes (rfl) ?_
      exact SRet.pure (.tup rfl fun i c d e1 e2 => by
        match i, e1, e2 with
        | 0, e1, e2 => cases e1; cases e2; exact .emp 3
        | 1, e1, e2 => cases e1; cases e2; exact .p _ (.int _ _))
  · refine SCmp.no (decide_eq_false (by omega)) ?_
    obtain rfl : n = t := by omega
    have e := h2 (by omega)
    subst e
    refine SRet.pure (.tup rfl fun a c d e1 e2 => ?_)
    match a, e1, e2 with
    | 0, e1, e2 => cases e1; cases e2; exact frzR (h := 0) (l := lst n (uxF U b n n)) (congrArg (Blk.vec 30 3) ((fl_congr fun k hk => by rw [if_pos (show n ≤ k + n by omega), if_pos hk]).trans row_full'.symm)) (by simp [lst])
    | 1, e1, e2 => cases e1; cases e2; exact .p _ (.int _ _)
end Go.Proofs.Ytjfcphohgicolaa

namespace Go.Proofs.Ytjfcphohgicolaa
open Go
set_option linter.unusedVariables false
set_option maxRecDepth 10000
def ubD (D : Nat) : Nat → Nat
  | 0 => 2 * D
  | i + 1 => 2 * D + (i + 1) * (D + 1 + ubD D i)
theorem ub_mono {D i j : Nat} (h : i ≤ j) : ubD D i ≤ ubD D j := by
  induction j with
  | zero => rw [Nat.le_zero.1 h]; exact Nat.le_refl _
  | succ j ih =>
    by_cases e : i = j + 1
    · rw [e]; exact Nat.le_refl _
    · have h1 := ih (by omega)
      have h2 : 1 * (D + 1 + ubD D j) ≤ (j + 1) * (D + 1 + ubD D j) := Nat.mul_le_mul_right _ (by omega)
      simp only [ubD]; omega
theorem lx_bz {L : Nat → Nat → Rat} {b : Nat → Rat} {n D : Nat} (hL : ∀ i j, i < n → j < n → Bz (L i j) D) (hb : ∀ i, i < n → Bz (b i) D) : ∀ k, k ≤ n → ∀ i, i < k → Bz (lxF L b k i) (ubD D i) := by
  intro k
  induction k with
  | zero => exact fun _ i hi => absurd hi (Nat.not_lt_zero _)
  | succ k ih =>
    intro hk i hi
    have ih := ih (by omega)
    simp only [lxF]
    by_cases e : i = k
    · rw [e, upd_same]
      cases k with
      | zero => exact (hb 0 (by omega)).mono (by simp only [ubD]; omega)
      | succ k =>
        have := sb_bz (a := L (k + 1)) (x := lxF L b (k + 1)) (lo := 0) (d := k + 1) (bx := ubD D k) (hb (k + 1) (by omega)) (fun j _ h => hL (k + 1) j (by omega) (by omega)) (fun j _ h => (ih j (by omega)).mono (ub_mono (by omega)))
        refine this.mono ?_
        simp only [ubD]
        have : D + ubD D k + 1 = D + 1 + ubD D k := by omega
        rw [this]; omega
    · rw [upd_other _ _ e]; exact ih i (by omega)
theorem ux_bz {U : Nat → Nat → Rat} {b : Nat → Rat} {n D : Nat} (hU : ∀ i j, i < n → j < n → Bz (U i j) D) (hb : ∀ i, i < n → Bz (b i) D) : ∀ t, t ≤ n → ∀ i, n ≤ i + t → i < n → Bz (uxF U b n t i) (ubD D (n - 1 - i)) := by
  intro t
  induction t with
  | zero => exact fun _ i h1 h2 => absurd h2 (by omega)
  | succ t ih =>
    intro ht i h1 h2
    have ih := ih (by omega)
    simp only [uxF]
    by_cases e : i = n - 1 - t
    · subst e
      rw [upd_same, show n - 1 - (n - 1 - t) = t by omega]
      have hd := hU (n - 1 - t) (n - 1 - t) h2 h2
      cases t with
      | zero => exact ((hb _ h2).div hd).mono (by simp only [ubD]; omega)
      | succ t =>
        have := sb_bz (a := U (n - 1 - (t + 1))) (x := uxF U b n (t + 1)) (lo := n - (t + 1)) (d := t + 1) (bx := ubD D t) (hb _ h2) (fun j _ h => hU _ j h2 (by omega)) (fun j h h' => (ih j (by omega) (by omega)).mono (ub_mono (by omega)))
        refine (this.div hd).mono ?_
        simp only [ubD]
        have : D + ubD D t + 1 = D + 1 + ubD D t := by omega
        rw [this]; omega
    · rw [upd_other _ _ e]; exact ih i (by omega) h2
end Go.Proofs.Ytjfcphohgicolaa

namespace Go.Proofs.Ytjfcphohgicolaa
open Go
set_option linter.unusedVariables false
set_option linter.unusedSimpArgs false
set_option maxRecDepth 10000
end Go.Proofs.Ytjfcphohgicolaa

namespace Go.Proofs.Ytjfcphohgicolaa
set_option linter.unusedVariables false
theorem pev_sm : ∀ (n : Nat) (c : Nat → Rat) (X : Rat), sm (n + 1) (fun k => X ^ k * c k) = pev n c X := by
  intro n
  induction n with
  | zero => intro c X; show (0 : Rat) + X ^ 0 * c 0 = c 0; rw [Rat.pow_zero]; grind
  | succ n ih =>
    intro c X
    rw [sm_first, pev, ← ih, ← sm_smul, Rat.pow_zero, Rat.one_mul]
    congr 1
    exact sm_congr fun k _ => by rw [Rat.pow_succ]; grind
theorem pw_eq (X : Rat) : ∀ j, pw X j = X ^ j
  | 0 => (Rat.pow_zero ..).symm
  | j + 1 => by rw [pw, pw_eq X j, Rat.pow_succ]; grind
theorem thr_det {n : Nat} {x : Nat → Rat} : (elim (n + 1) (fun i k => x i ^ k) (n + 1)).det ≠ 0 ↔ Inj x (n + 1) := by
  constructor
  · intro h i j hi hj e
    have h1 := slv_ok (A := fun i k => x i ^ k) (y := fun k => if k = i then 1 else 0) h i hi
    have h2 := slv_ok (A := fun i k => x i ^ k) (y := fun k => if k = i then 1 else 0) h j hj
    rw [e] at h1
    rw [h1, if_pos rfl] at h2
    by_cases e2 : j = i
    · exact e2.symm
    · rw [if_neg e2] at h2; exact absurd h2 (by decide)
  · intro h e
    obtain ⟨v, ⟨k, hk, hv⟩, hK⟩ := ker0 e
    have := thr_unique (n := n) (x := x) (f := fun _ => 0) (c := v) h fun l hl => by
      have := hK l (by omega); rw [pev_sm] at this; exact this
    have h2 := thr_unique (n := n) (x := x) (f := fun _ => 0) (c := fun _ => 0) h fun l hl => by
      rw [← pev_sm]; exact sm_zero fun k _ => Rat.mul_zero _
    exact hv (by rw [← this k (by omega), h2 k (by omega)])
theorem mom_ker {n : Nat} {x w : Nat → Rat} (h : Inj x (n + 1)) (hK : ∀ j, j < n + 1 → sm (n + 1) (fun i => x i ^ j * w i) = 0) : ∀ i, i < n + 1 → w i = 0 := by
  intro l hl
  -- every polynomial's values, weighed, come to nought
  have h2 : ∀ c : Nat → Rat, sm (n + 1) (fun i => w i * pev n c (x i)) = 0 := by
    intro c
    have : ∀ m, m ≤ n + 1 → sm (n + 1) (fun i => w i * sm m (fun k => x i ^ k * c k)) = 0 := by
      intro m
      induction m with
      | zero => intro _; exact sm_zero fun i _ => Rat.mul_zero _
      | succ m ih =>
        intro hm
        have e : (fun i => w i * sm (m + 1) (fun k => x i ^ k * c k)) = fun i => w i * sm m (fun k => x i ^ k * c k) + c m * (x i ^ m * w i) := by
          funext i; show w i * (sm m _ + x i ^ m * c m) = _; grind
        rw [e, sm_add, ih (by omega), sm_smul, hK m (by omega)]; grind
    rw [← this (n + 1) (Nat.le_refl _)]
    exact sm_congr fun i _ => by rw [pev_sm]
  have h3 := h2 (thrC x n fun i => if i = l then 1 else 0)
  rw [sm_congr (g := fun i => w i * (if i = l then 1 else 0)) fun i hi => by rw [thr_interp x _ h (by omega)], sm_one hl] at h3
  exact h3
theorem mom_det {n : Nat} {x : Nat → Rat} : (elim (n + 1) (fun i k => x k ^ i) (n + 1)).det ≠ 0 ↔ Inj x (n + 1) := by
  constructor
  · intro h i j hi hj e
    by_cases e2 : i = j
    · exact e2
    · have := ker1 (v := fun k => if k = i then 1 else if k = j then -1 else 0) h (fun q hq => by
        have e3 : (fun k => x k ^ q * (if k = i then (1 : Rat) else if k = j then -1 else 0)) = fun k => x k ^ q * (if k = i then 1 else 0) - x k ^ q * (if k = j then 1 else 0) := by
          funext k
          by_cases c : k = i
          · rw [if_pos c, if_pos c, if_neg (by omega)]; grind
          · rw [if_neg c, if_neg c]
            split <;> grind
        show sm (n + 1) (fun k => x k ^ q * (if k = i then (1 : Rat) else if k = j then -1 else 0)) = 0
        rw [e3, sm_sub, sm_one hi (fun k => x k ^ q), sm_one hj (fun k => x k ^ q), e]; grind) i hi
      rw [if_pos rfl] at this
      exact absurd this (by decide)
  · intro h e
    obtain ⟨v, ⟨k, hk, hv⟩, hK⟩ := ker0 e
    exact hv (mom_ker h hK k hk)
theorem both {n : Nat} {x f b c w : Nat → Rat} (h : Inj x (n + 1)) (hc : ∀ l, l ≤ n → pev n c (x l) = f l) (hw : ∀ j, j < n + 1 → sm (n + 1) (fun i => x i ^ j * w i) = b j) :
    sm (n + 1) (fun i => w i * f i) = sm (n + 1) (fun i => b i * c i) := by
  have h1 : ∀ i, i < n + 1 → thrC x n f i = c i := fun i hi => thr_unique h hc i (by omega)
  have h2 : ∀ i, i < n + 1 → momC x n b i = w i := fun i hi => slv_one (A := fun i k => x k ^ i) (mom_det.2 h) (fun j hj => by
    rw [hw j hj, ← mom_ok b h (show j ≤ n by omega)]
    exact sm_congr fun i hi => by rw [pw_eq]; grind) i hi
  have := dual x n b f
  rw [sm_congr (g := fun i => b i * c i) fun i hi => by rw [h1 i hi], sm_congr (f := fun i => momC x n b i * f i) (g := fun i => w i * f i) fun i hi => by rw [h2 i hi]] at this
  exact this.symm
end Go.Proofs.Ytjfcphohgicolaa

namespace Go.Proofs.Ytjfcphohgicolaa
open Go
set_option linter.unusedVariables false
set_option linter.unusedSimpArgs false
set_option maxRecDepth 10000
/-- A right side, its numbers in the rows' order. -/
abbrev permB (n : Nat) (A : Nat → Nat → Rat) (b : Nat → Rat) (i : Nat) : Rat := b (gO n A i)
abbrev solB (n : Nat) (A : Nat → Nat → Rat) (b : Nat → Rat) : Nat → Rat := uxF (gU n A) (lxF (gL n A) (permB n A b) n) n n
theorem ksolve_ok (q : Bool) (n : Nat) (A : Nat → Nat → Rat) (b : Nat → Rat) (n1 : 1 ≤ n) (hn : n ≤ 5) (hB : GkB n A 42100) (hp : ∀ t, t < n → gpiv n A t ≠ 0) (zb : ∀ i, i < n → Bz (b i) 5) :
    CallP Try.prog 16 [partP n A, ratsM q (lst n b)] (.tup [.p (ratsM false (lst n (solB n A b))), .p (.int .i64 0)]) [] := by
  obtain ⟨o1, _, _⟩ := gk_perm (n := n) (A := A) n (Nat.le_refl _)
  have o1 : ∀ i, i < n → gO n A i < n := o1
  have zL : ∀ i j, i < n → j < n → Bz (gL n A i j) 84200 := fun i j hi _ => gM_bz hB (by decide) n (Nat.le_refl _) i j hi
  have zU : ∀ i j, i < n → j < n → Bz (gU n A i j) 20000000 := fun i j hi hj => (hB n (Nat.le_refl _) i j hi hj).mono (by decide)
  have zc : ∀ i, i < n → Bz (permB n A b i) 84200 := fun i hi => (zb _ (o1 i hi)).mono (by decide)
  have e1 : ubD 84200 4 ≤ 20000000 := by decide +kernel
  have e2 : ubD 20000000 4 ≤ 4000000000 := by decide +kernel
  have lX : ∀ k, k ≤ n → ∀ i, i < k → Bz (lxF (gL n A) (permB n A b) k i) 20000000 := fun k hk i hi => (lx_bz zL zc k hk i hi).mono (Nat.le_trans (ub_mono (by omega)) e1)
  have hlo := slowerS_ok false false true n (gL n A) (permB n A b) (by omega) zL zc lX (by omega)
  have zz : ∀ i, i < n → Bz (lxF (gL n A) (permB n A b) n i) 20000000 := fun i hi => lX n (Nat.le_refl _) i hi
  have uX : ∀ t, t ≤ n → ∀ i, n ≤ i + t → i < n → Bz (uxF (gU n A) (lxF (gL n A) (permB n A b) n) n t i) 4000000000 := fun t ht i h1 h2 => (ux_bz zU zz t ht i h1 h2).mono (Nat.le_trans (ub_mono (by omega)) e2)
  have hup := supperS_ok false false false n n (gU n A) (lxF (gL n A) (permB n A b) n) (by omega) zU zz uX (by omega) (Nat.le_refl _) (fun t ht => by rw [gU_diag (by omega)]; exact hp _ (by omega)) (fun h => absurd h (Nat.lt_irrefl _)) _ (fun h => absurd h (Nat.lt_irrefl _)) (fun _ => rfl)
  refine callG_of_vc (wr := wr0) Γok mixed Try.func16 (by kernel_rfl) rfl (by kernel_rfl) (le_of_ble rfl) (by simp) ?_
  refine SZ.mk (n : Int) (by simp [lst]) ?_
  refine SZ.mk (n : Int) (by simp) ?_
  refine SCmp.no (neF rfl) ?_
  refine SZ.mk (n : Int) (by simp [lst]) ?_
  refine SZ.mk (n : Int) rfl ?_
  refine SLt.mk (by simp) ?_
  refine SMake.rat n rfl (by omega) ?_
  refine SZ.mk (n : Int) (by simp) ?_
  refine SLoop.mk Nat (fun i => ([(1, .p (ratsM q (lst n b))), (2, .bptr 0 0), (6, .vec 1 3 0 n), (20, .p (.sl false 1 (permP n (gO n A)))), (21, .p (.int .i64 n)), (22, .p (.int .i64 (i : Nat)))], [.box 36 (partA n A), .vec 30 3 (fl n fun k => if k < i then ratP (permB n A b k) else rat0)]))
    (fun i => i ≤ n) (fun i => n - i) 0 [0, 1] (Nat.zero_le _) ⟨rfl, by simp, rfl, rfl, rfl, ⟨rfl, rfl, rfl, rfl, rfl, rfl, trivial⟩, ⟨rfl, congrArg _ ((fl_congr fun k hk => if_neg (by omega)).trans (replicate_fl n rat0).symm), trivial⟩⟩ ?_
  intro i hi
  have hi : i ≤ n := hi
  by_cases hin : i < n
  · refine SCmp.yes (decide_eq_true (by omega)) ?_
    have ho := o1 i hin
    refine SIdx.perm i rfl hin ?_
    refine SCmp.no (decide_eq_false (by omega)) ?_
    refine SZ.mk (n : Int) (by simp [lst]) ?_
    refine SCmp.no (decide_eq_false (by omega)) ?_
    refine SIdx.rf (gO n A i) rfl ho ?_
    refine SPos.mk i rfl hin ?_
    refine SLt.mk (by simp; omega) <| SEs.mk _ (row_step (f := permB n A b) hin) ?_
    refine SWrap.i64z ((i + 1 : Nat) : Int) (by omega) (by omega) ?_
    exact ⟨i + 1, [0, 1], hin, by show n - (i + 1) < n - i; omega, ⟨rfl, by simp, rfl, rfl, rfl, ⟨rfl, rfl, rfl, rfl, rfl, rfl, trivial⟩, ⟨rfl, rfl, trivial⟩⟩⟩
  · refine SCmp.no (decide_eq_false (by omega)) ?_
    obtain rfl : i = n := by omega
    refine SView.mk (rats (lst i (permB i A b))) (by rw [List.drop_zero, row_full']; exact List.take_of_length_le (by simp)) (by simp) ?_
    refine SCall.pure (hlo) ?_
    refine SZ.mk (i : Int) (by simp [lst]) ?_
    refine SZ.mk (i : Int) rfl ?_
    refine SCmp.no (neF rfl) ?_
    refine SCall.pureT (hup) (fun _ => rfl) ?_
    refine SRet.pure (.tup rfl fun a c d e1 e2 => ?_)
    match a, e1, e2 with
    | 0, e1, e2 => cases e1; cases e2; exact .p _ (.sl _ _ (pers_rats _))
    | 1, e1, e2 => cases e1; cases e2; exact .p _ (.int _ _)
end Go.Proofs.Ytjfcphohgicolaa

namespace Go.Proofs.Ytjfcphohgicolaa
open Go
set_option linter.unusedVariables false
set_option linter.unusedSimpArgs false
set_option maxRecDepth 10000
def c2 (a b : Rat) : Nat → Rat := fun i => if i = 0 then a else b
def mA : Nat → Bool := fun _ => true
def gk1 : GV := ⟨7, 2, 1, c2 ((1 : Int) : Rat) ((2 : Int) : Rat), c2 0 ((3 : Int) : Rat), c2 ((1 : Int) : Rat) ((4 : Int) : Rat), c2 ((1 : Int) : Rat) ((2 : Int) : Rat)⟩
def gk2 : GV := { gk1 with G := c2 0 ((4 : Int) : Rat) }
theorem c2_bz {a b : Rat} {k : Nat} (ha : Bz a k) (hb : Bz b k) (i : Nat) : Bz (c2 a b i) k := by
  unfold c2; split
  · exact ha
  · exact hb
theorem i5 {z : Int} (h : bitLen z.natAbs ≤ 5) : Bz ((z : Int) : Rat) 5 := int_bz h (by decide)
theorem wf_gk1 : Wf gk1 5 13 where
  k1 := by decide
  k7 := by decide
  n1 := by decide
  n6 := by decide
  r2 := by decide
  r1 := fun _ => by decide
  r0 := fun h => absurd h (by decide)
  bA := fun i _ => c2_bz (i5 (by decide)) (i5 (by decide)) i
  bB := fun i _ => (c2_bz (bz_zero.mono (by decide)) (i5 (by decide)) i).mono (by decide)
  bG := fun i _ => c2_bz (i5 (by decide)) (i5 (by decide)) i
  bH := fun i _ => c2_bz (i5 (by decide)) (i5 (by decide)) i
  ne := fun i j hi hj => by
    have hi : i < 2 := hi
    have hj : j < 2 := hj
    match i, hi with
    | 0, _ => match j, hj with
      | 0, _ => decide +kernel
      | 1, _ => decide +kernel
    | 1, _ => match j, hj with
      | 0, _ => decide +kernel
      | 1, _ => decide +kernel
  bc := by decide
  c4 := by decide
theorem wf_gk2 : Wf gk2 5 13 := { wf_gk1 with bG := fun i _ => c2_bz (bz_zero.mono (by decide)) (i5 (by decide)) i }
theorem bools5 {j : Nat} (h : j < 5) : [PV.bool true, .bool true, .bool true, .bool true, .bool true][j]? = some (.bool true) := by
  match j, h with
  | 0, _ => rfl
  | 1, _ => rfl
  | 2, _ => rfl
  | 3, _ => rfl
  | 4, _ => rfl
theorem half13_ok : CallP Try.prog 15 [.int .i64 1, .int .i64 2] (.tup [.p (ratP (1 / 2)), .p (.int .i64 0)]) [] := by
  have h := rof2_ok 1 2 (by omega) (by omega) (by omega)
  have e : mkQ (decide ((1 : Int) < 0) != decide ((2 : Int) < 0)) (1 : Int).natAbs (2 : Int).natAbs = 1 / 2 := by decide +kernel
  rwa [e] at h
set_option maxHeartbeats 1000000 in
theorem gkoKnown_ok (which : Int) (hw : I64 which) : CallP Try.prog 4 [.int .i64 which] (.p (.bool true)) [] := by
  unfold I64 at hw
  obtain ⟨A, hA⟩ : ∃ A, A = ent gk1 := ⟨_, rfl⟩
  have hB1 := gkB_wf wf_gk1 (by decide)
  have hp1 : ∀ t, t < 2 → gpiv 2 (ent gk1) t ≠ 0 := fun t ht => by
    match t, ht with
    | 0, _ => decide +kernel
    | 1, _ => decide +kernel
  have f1 := kfactor_ok mA gk1 wf_gk1 (.inr rfl) hB1 (by decide) (by decide) hp1
  have f2 := kfactorZ_ok mA gk2 wf_gk2 (.inr rfl) (gkB_wf wf_gk2 (by decide)) (by decide) (by decide) (K := 1) (by decide) (fun t ht => by
    obtain rfl : t = 0 := by omega
    decide +kernel) (by decide +kernel)
  have f3 := ksolve_ok true 2 (ent gk1) (c2 ((1 : Int) : Rat) ((2 : Int) : Rat)) (by decide) (by decide) hB1 hp1 (fun i _ => c2_bz (i5 (by decide)) (i5 (by decide)) i)
  have f1 : CallP Try.prog 11 [genP mA gk1] (.tup [.p (partP 2 (ent gk1)), .p (.int .i64 0)]) [] := f1
  have o0 : gO 2 (ent gk1) 0 = 1 := by decide +kernel
  have o1 : gO 2 (ent gk1) 1 = 0 := by decide +kernel
  have zL : ∀ i j, i < 2 → j < 2 → Bz (gL 2 (ent gk1) i j) 84200 := fun i j hi _ => gM_bz hB1 (by decide) 2 (Nat.le_refl _) i j hi
  have l00 : gL 2 (ent gk1) 0 0 = ((1 : Int) : Rat) := by decide +kernel
  have l01 : gL 2 (ent gk1) 0 1 = 0 := by decide +kernel
  have l10 : gL 2 (ent gk1) 1 0 = 1 / 2 := by decide +kernel
  have l11 : gL 2 (ent gk1) 1 1 = ((1 : Int) : Rat) := by decide +kernel
  have u00 : gU 2 (ent gk1) 0 0 = ((2 : Int) : Rat) := by decide +kernel
  have u01 : gU 2 (ent gk1) 0 1 = ((-8 : Int) : Rat) := by decide +kernel
  have u10 : gU 2 (ent gk1) 1 0 = 0 := by decide +kernel
  have u11 : gU 2 (ent gk1) 1 1 = ((3 : Int) : Rat) := by decide +kernel
  have a1 : CallP Try.prog 12 [matP false false 2 2 (gL 2 (ent gk1)), .sl true 1 [ratsM true [gL 2 (ent gk1) 0 0, gL 2 (ent gk1) 0 1], ratsM true [gL 2 (ent gk1) 1 0, gL 2 (ent gk1) 1 1]]] (.p (.bool true)) [] := rall_ok false false true true 2 2 (gL 2 (ent gk1)) zL (by decide) (by decide) (by decide)
  rw [l00, l01, l10, l11] at a1
  have a2 : CallP Try.prog 12 [matP false false 2 2 (gU 2 (ent gk1)), .sl true 1 [ratsM true [gU 2 (ent gk1) 0 0, gU 2 (ent gk1) 0 1], ratsM true [gU 2 (ent gk1) 1 0, gU 2 (ent gk1) 1 1]]] (.p (.bool true)) [] := rall_ok false false true true 2 2 (gU 2 (ent gk1)) (hB1 2 (by decide)) (by decide) (by decide) (by decide)
  rw [u00, u01, u10, u11] at a2
  have e2 : gro 2 (ent gk1) = ((1 : Int) : Rat) := by decide +kernel
  have b1 : Bz (gro 2 (ent gk1)) 5 := by rw [e2]; exact i5 (by decide)
  have s1 := rsame_ok (gro 2 (ent gk1)) ((1 : Int) : Rat) b1 (i5 (by decide)) (by decide)
  rw [decide_eq_true e2] at s1
  have x0 : solB 2 (ent gk1) (c2 ((1 : Int) : Rat) ((2 : Int) : Rat)) 0 = ((1 : Int) : Rat) := by decide +kernel
  have x1 : solB 2 (ent gk1) (c2 ((1 : Int) : Rat) ((2 : Int) : Rat)) 1 = 0 := by decide +kernel
  have f3 : CallP Try.prog 16 [partP 2 (ent gk1), ratsM true [((1 : Int) : Rat), ((2 : Int) : Rat)]] (.tup [.p (ratsM false [solB 2 (ent gk1) (c2 ((1 : Int) : Rat) ((2 : Int) : Rat)) 0, solB 2 (ent gk1) (c2 ((1 : Int) : Rat) ((2 : Int) : Rat)) 1]), .p (.int .i64 0)]) [] := f3
  rw [x0, x1] at f3
  have bl : Bl [((1 : Int) : Rat), 0] 5 := fun i hi => by
    match i, hi with
    | 0, _ => exact i5 (by decide)
    | 1, _ => exact bz_zero.mono (by decide)
  have rw1 := rrows_ok false true [((1 : Int) : Rat), 0] [((1 : Int) : Rat), 0] bl bl (by decide) (by decide)
  rw [decide_eq_true rfl] at rw1
  obtain ⟨j, hj, hj5⟩ : ∃ j : Nat, which % 5 = (j : Int) ∧ j < 5 := ⟨(which % 5).toNat, by omega, by omega⟩
  refine callG_of_vc (wr := wr0) Γok mixed Try.func4 (by kernel_rfl) rfl (by kernel_rfl) (le_of_ble rfl) (by simp) ?_
  refine SCall.pure (known13_ok) ?_
  refine SCmp.no (rfl) ?_
  refine SCall.pure (rint_ok 1 (by decide)) ?_
  refine SCall.pure (rint_ok 2 (by decide)) ?_
  refine SDraw.mkX (by kernel_rfl) ?_
  repeat refine SOp.mk _ _ (And.intro rfl rfl) rfl ?_
  refine SOp.mk _ _ (SCall.pure (rzero_ok) (And.intro rfl rfl)) rfl ?_
  refine SOp.mk _ _ (SCall.pure (rint_ok 3 (by decide)) (And.intro rfl rfl)) rfl ?_
  repeat refine SOp.mk _ _ (And.intro rfl rfl) rfl ?_
  refine SOp.mk _ _ (SCall.pure (rint_ok 4 (by decide)) (And.intro rfl rfl)) rfl ?_
  repeat refine SOp.mk _ _ (And.intro rfl rfl) rfl ?_
  refine SFin.mk (by kernel_rfl) ?_
  refine SView.all rfl <| SView.all rfl <| SView.all rfl <| SView.all rfl <| SCall.pureT (pvs := [.agg [.int .i64 7, .int .i64 2, .int .i64 1, ratsM true (lst 2 gk1.A), ratsM true (lst 2 gk1.B), ratsM true (lst 2 gk1.G), ratsM true (lst 2 gk1.H)]]) (CallG.weak1 f1 (.gen rfl rfl rfl (.refl _) (.refl _) (.refl _) (.refl _))) (fun _ => rfl) ?_
  refine SCall.pure (rzero_ok) ?_
  refine SCall.pure (rint_ok 4 (by decide)) ?_
  refine SView.all rfl <| SView.all rfl <| SView.all rfl <| SView.all rfl <| SCall.pureT (pvs := [.agg [.int .i64 7, .int .i64 2, .int .i64 1, ratsM true (lst 2 gk2.A), ratsM true (lst 2 gk2.B), ratsM true (lst 2 gk2.G), ratsM true (lst 2 gk2.H)]]) (CallG.weak1 f2 (.gen rfl rfl rfl (.refl _) (.refl _) (.refl _) (.refl _))) (fun _ => rfl) ?_
  refine SCall.pureT (half13_ok) (fun _ => rfl) ?_
  refine SView.all rfl <| SCall.pureT (pvs := [partP 2 (ent gk1), ratsM true [((1 : Int) : Rat), ((2 : Int) : Rat)]]) f3 (fun _ => rfl) ?_
  refine SDraw.mkX (by kernel_rfl) ?_
  repeat refine SOp.mk _ _ (And.intro rfl rfl) rfl ?_
  refine SOp.mk _ _ (SCmp.yes (eqT rfl) (And.intro rfl rfl)) rfl ?_
  repeat refine SOp.mk _ _ (And.intro rfl rfl) rfl ?_
  refine SOp.mk _ _ (SZ.mk 2 rfl (And.intro rfl rfl)) rfl ?_
  refine SOp.mk _ _ (SCmp.yes (eqT rfl) (And.intro rfl rfl)) rfl ?_
  repeat refine SOp.mk _ _ (And.intro rfl rfl) rfl ?_
  refine SOp.mk _ _ (SIdx.perm 0 rfl (by decide) (And.intro rfl rfl)) rfl ?_
  repeat refine SOp.mk _ _ (And.intro rfl rfl) rfl ?_
  refine SOp.mk _ _ (SCmp.yes (eqT (by rw [o0]; rfl)) (And.intro rfl rfl)) rfl ?_
  repeat refine SOp.mk _ _ (And.intro rfl rfl) rfl ?_
  refine SOp.mk _ _ (SIdx.perm 1 rfl (by decide) (And.intro rfl rfl)) rfl ?_
  repeat refine SOp.mk _ _ (And.intro rfl rfl) rfl ?_
  refine SOp.mk _ _ (SCmp.yes (eqT (by rw [o1]; rfl)) (And.intro rfl rfl)) rfl ?_
  repeat refine SOp.mk _ _ (And.intro rfl rfl) rfl ?_
  refine SOp.mk _ _ (SCall.pure (rzero_ok) (And.intro rfl rfl)) rfl ?_
  repeat refine SOp.mk _ _ (And.intro rfl rfl) rfl ?_
  refine SOp.mk _ _ (SLendR.mk [ratsM true [((1 : Int) : Rat), 0], ratsM true [1 / 2, ((1 : Int) : Rat)]] rfl rfl (fun i c p e1 e2 => by
    match i, e1, e2 with
    | 0, e1, e2 => cases e1; cases e2; exact .vec (es := rats [((1 : Int) : Rat), 0]) rfl (by decide)
    | 1, e1, e2 => cases e1; cases e2; exact .vec (es := rats [1 / 2, ((1 : Int) : Rat)]) rfl (by decide)) <| SCall.pure a1 (And.intro rfl rfl)) rfl ?_
  repeat refine SOp.mk _ _ (And.intro rfl rfl) rfl ?_
  refine SOp.mk _ _ (SCall.pure (rint_ok (-8) (by decide)) (And.intro rfl rfl)) rfl ?_
  repeat refine SOp.mk _ _ (And.intro rfl rfl) rfl ?_
  refine SOp.mk _ _ (SCall.pure (rzero_ok) (And.intro rfl rfl)) rfl ?_
  refine SOp.mk _ _ (SCall.pure (rint_ok 3 (by decide)) (And.intro rfl rfl)) rfl ?_
  repeat refine SOp.mk _ _ (And.intro rfl rfl) rfl ?_
  refine SOp.mk _ _ (SLendR.mk [ratsM true [((2 : Int) : Rat), ((-8 : Int) : Rat)], ratsM true [0, ((3 : Int) : Rat)]] rfl rfl (fun i c p e1 e2 => by
    match i, e1, e2 with
    | 0, e1, e2 => cases e1; cases e2; exact .vec (es := rats [((2 : Int) : Rat), ((-8 : Int) : Rat)]) rfl (by decide)
    | 1, e1, e2 => cases e1; cases e2; exact .vec (es := rats [0, ((3 : Int) : Rat)]) rfl (by decide)) <| SCall.pure a2 (And.intro rfl rfl)) rfl ?_
  repeat refine SOp.mk _ _ (And.intro rfl rfl) rfl ?_
  refine SOp.mk _ _ (SCall.pure (s1) (And.intro rfl rfl)) rfl ?_
  repeat refine SOp.mk _ _ (And.intro rfl rfl) rfl ?_
  refine SOp.mk _ _ (SCmp.yes (eqT rfl) (And.intro rfl rfl)) rfl ?_
  repeat refine SOp.mk _ _ (And.intro rfl rfl) rfl ?_
  refine SOp.mk _ _ (SCmp.yes (eqT rfl) (And.intro rfl rfl)) rfl ?_
  repeat refine SOp.mk _ _ (And.intro rfl rfl) rfl ?_
  refine SOp.mk _ _ (SCall.pure (rzero_ok) (And.intro rfl rfl)) rfl ?_
  repeat refine SOp.mk _ _ (And.intro rfl rfl) rfl ?_
  refine SOp.mk _ _ (SView.all rfl <| SCall.pure rw1 (And.intro rfl rfl)) rfl ?_
  repeat refine SOp.mk _ _ (And.intro rfl rfl) rfl ?_
  refine SFin.mk (by kernel_rfl) ?_
  refine SZ.mk 5 rfl ?_
  refine SCall.pure (within13_ok which 5 (by omega) (by omega)) ?_
  refine SPos.mk j hj hj5 ?_
  refine SIdx.mk (j + 0) (.bool true) rfl (bools5 hj5) ?_
  exact SRet.pure (.p _ (.bool _))
end Go.Proofs.Ytjfcphohgicolaa

namespace Go.Proofs.Ytjfcphohgicolaa
open Go Go.ChangeShapes Go.WideShapes Go.ChangeAt Go.RowKit Go.WideElems
set_option linter.unusedVariables false
set_option linter.unusedSimpArgs false
theorem Try.own : ownKnob Try.prog.godebug = none := by kernel_rfl
theorem Try.laidOut : laidOutB Try.prog = true := by kernel_rfl
abbrev oldF (W : World) : Nat → Prop := fun b => b < W.heap.size
theorem law_call {P : Program} {f : FuncId} {pvs : List PV} (hc : CallP P f pvs (.p (.bool true)) []) {W : World} {vs : List Value} (hl : vs.length = pvs.length) (hv : ∀ (i : Nat) p v, pvs[i]? = some p → vs[i]? = some v → PR W (FBof noBor (oldF W)) p v) :
    Calls P f vs.toArray W fun e W' => e = .returned (.bool true) ∧ Below W.heap.size W W' := by
  refine (hc.run W (oldF W) noBor (fun _ => (none, 0)) vs ⟨by simp [hl], fun i a v e1 e2 => ?_, fun h => by rw [look_nil]; trivial, fun b h => h, fun b h => h.elim, fun h b hl => ?_, fun h h' b hl => ?_, fun a ha k hk => ?_, fun h k hk => ?_⟩).mono ?_
  · rw [List.getElem?_map] at e1
    cases hp : pvs[i]? with
    | none => rw [hp] at e1; cases e1
    | some p => rw [hp] at e1; cases e1; exact .p (hv i p v hp e2)
  · rw [look_nil] at hl; exact hl.elim
  · rw [look_nil] at hl; exact hl.elim
  · obtain ⟨p, _, rfl⟩ := List.mem_map.1 ha; simp only [AV.men] at hk
  · rw [look_nil] at hk; exact hk.elim
  · intro e W' ⟨v, F', β', he, hr⟩
    subst he
    refine ⟨?_, hr.os, hr.tape, hr.output, hr.size, fun b hb => hr.same b hb fun h hl => ?_⟩
    · have := hr.rel
      cases this with | p h => cases h; rfl
    · rw [look_nil] at hl; exact hl.elim
section
variable {H : Type} {enc : TypeId × Value → H} {P : Program} {W : World} {base : Nat} {sp : Nat → Bool} {held : Bool}
theorem openInt {t : TypeId} {r : Go.Reach} {b0 : Nat} {v : Value} {d : DataW H} {ps : List MemPlace} (ht : P.underlying t = some (.int .i64)) (hval : Value.okWide P W r b0 t v) (hd : DataW.Trod enc P W base sp held t v d ps) :
    ∃ n, v = .int .i64 n ∧ I64 n := by
  obtain ⟨n, h1, h2, h3, h4⟩ := open_int ht hval hd
  refine ⟨n, h1, ?_⟩
  simp [Lit.wf, IntKind.min, IntKind.max, IntKind.signed, IntKind.bits] at h4
  exact ⟨by omega, by omega⟩
end
end Go.Proofs.Ytjfcphohgicolaa

