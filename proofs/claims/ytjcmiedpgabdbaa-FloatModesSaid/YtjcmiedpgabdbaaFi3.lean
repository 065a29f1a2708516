/- FloatNexts, FloatRoots: the walks. -/
import Derived.Test.YtjcmiedpgabdbaaFi1
import Derived.Test.YtjcmiedpgabdbaaFe2
namespace Go.Proofs.Ytjcmiedpgabdbaa
open Go
set_option linter.unusedVariables false
set_option linter.unusedSimpArgs false
set_option maxRecDepth 10000

theorem cmpQ_lt0 {p q : Rat} : (cmpQ p q < 0) ↔ p < q := by
  unfold cmpQ
  split
  · rename_i h; exact ⟨fun _ => h, fun _ => by omega⟩
  · rename_i h; split
    · exact ⟨fun h => by omega, fun h2 => absurd h2 h⟩
    · exact ⟨fun h => by omega, fun h2 => absurd h2 h⟩
theorem cmpQ_le0 {p q : Rat} (h : p ≤ q) : decide (cmpQ p q > 0) = false := by
  unfold cmpQ
  split
  · rfl
  · rename_i h1
    have : p = q := by grind
    rw [if_pos this]; rfl
theorem FinF.bz {x : Nat} {q : Rat} (h : FinF x q) : Bz q 1080 := by have := fvq_bz x; rwa [h.val] at this
theorem not_bad {x : Nat} (hx : x < 18446744073709551616) (h : ¬ (isNan x = true ∨ isInf x = true)) : FinF x (fvq x) :=
  ⟨hx, by cases h1 : isNan x with | false => rfl | true => exact absurd (.inl h1) h, by cases h1 : isInf x with | false => rfl | true => exact absurd (.inr h1) h, rfl⟩
theorem half_ok : CallP Try.prog 38 [.int .i64 1, .int .i64 2] (.tup [.p (ratP (1 / 2)), .p (.int .i64 0)]) [] := by
  have h := rof2_ok 1 2 (by omega) (by omega) (by omega)
  have e : mkQ (decide ((1 : Int) < 0) != decide ((2 : Int) < 0)) (1 : Int).natAbs (2 : Int).natAbs = 1 / 2 := by
    rw [mkQ_val]; simp
  rwa [e] at h
theorem half_bz : Bz (1 / 2 : Rat) 2 := ⟨by decide +kernel, by decide +kernel⟩

theorem floatNexts_ok (f : Nat) (n : Int) (up : Bool) (hf : f < 18446744073709551616) :
    CallP Try.prog 5 [.int .u64 f, .int .i64 n, .bool up] (.p (.bool true)) [] := by
  refine callG_of_vc (wr := wr0) Γok mixed Try.func5 (by kernel_rfl) rfl (by kernel_rfl) (le_of_ble rfl) (by simp) ?_
  refine SCall.pure (known3_ok) ?_
  refine SCmp.no (rfl) ?_
  have hx := mkF_lt hf n
  have c0 := make3_ok f n hf
  obtain ⟨x, hxd⟩ : ∃ x, x = mkF f n := ⟨_, rfl⟩
  rw [← hxd] at hx c0
  refine SCall.pure (c0) ?_
  have hy := ok_next hx up
  have c1 := sfnext_ok x hx up
  have hN := next_ok hx up
  have c2 := rfnext_ok x hx up
  obtain ⟨y, hyd⟩ : ∃ y, y = nextF x up := ⟨_, rfl⟩
  rw [← hyd] at hy c1 hN c2
  refine SCall.pure (c1) ?_
  by_cases hbx : isNan x = true ∨ isInf x = true
  · refine SCall.pureT (rfrat_no x hx hbx) (fun _ => rfl) ?_
    by_cases hby : isNan y = true ∨ isInf y = true
    · refine SCall.pureT (rfrat_no y hy hby) (fun _ => rfl) ?_
      refine SCmp.yes (rfl) ?_
      refine SCall.pure (c2) ?_
      refine SCmp.yes (eqT rfl) ?_
      exact SRet.pure (.tf _)
    · refine SCall.pureT (rfrat_fin (not_bad hy hby)) (fun _ => rfl) ?_
      refine SCmp.yes (rfl) ?_
      refine SCall.pure (c2) ?_
      refine SCmp.yes (eqT rfl) ?_
      exact SRet.pure (.tf _)
  · have fx := not_bad hx hbx
    refine SCall.pureT (rfrat_fin fx) (fun _ => rfl) ?_
    by_cases hby : isNan y = true ∨ isInf y = true
    · refine SCall.pureT (rfrat_no y hy hby) (fun _ => rfl) ?_
      refine SCmp.no (rfl) ?_
      refine SCmp.yes (rfl) ?_
      refine SCall.pure (c2) ?_
      refine SCmp.yes (eqT rfl) ?_
      exact SRet.pure (.tf _)
    · have fy := not_bad hy hby
      refine SCall.pureT (rfrat_fin fy) (fun _ => rfl) ?_
      refine SCmp.no (rfl) ?_
      refine SCmp.no (rfl) ?_
      refine SCall.pureT (half_ok) (fun _ => rfl) ?_
      have N := hN fx.mag fy.mag
      obtain ⟨a, ha⟩ : ∃ a, a = fvq x := ⟨_, rfl⟩
      obtain ⟨b, hb⟩ : ∃ b, b = fvq y := ⟨_, rfl⟩
      have ba := fx.bz
      have bb := fy.bz
      rw [← ha] at ba ⊢
      rw [← hb] at bb ⊢
      obtain ⟨N1, N2, N3, N4⟩ := N
      rw [← ha, ← hb] at N1 N2 N4
      have c3 := rfof_ok ((a + b) * (1 / 2)) 0 (k := 4000) ((ba.add bb).mul half_bz |>.mono (by omega)) (by omega)
      have hm := ok_of ((a + b) * (1 / 2)) 0
      obtain ⟨⟨m, g⟩, hr⟩ : ∃ r, r = ofF ((a + b) * (1 / 2)) 0 := ⟨_, rfl⟩
      rw [← hr] at c3 hm N4
      have hm : Ok64 m := hm
      have N4 : m = x ∨ m = y ∨ mag m = 0 := N4
      refine SDraw.mk (by kernel_rfl) ?_
      repeat refine SOp.mk _ _ (And.intro rfl rfl) rfl ?_
      refine SOp.mk _ _ (SCall.pure (raddq_ok a b ba bb (by omega)) (And.intro rfl rfl)) rfl ?_
      repeat refine SOp.mk _ _ (And.intro rfl rfl) rfl ?_
      refine SOp.mk _ _ (SCall.pure (rmulq_ok (a + b) (1 / 2) (ba.add bb) half_bz (by omega)) (And.intro rfl rfl)) rfl ?_
      refine SOp.mk _ _ (SCall.pureT (c3) (fun _ => rfl) (And.intro rfl rfl)) rfl ?_
      repeat refine SOp.mk _ _ (And.intro rfl rfl) rfl ?_
      have c4 := sfnext_ok y hy (!up)
      have hc := ok_next hy (!up)
      obtain ⟨c, hcd⟩ : ∃ c, c = nextF y (!up) := ⟨_, rfl⟩
      rw [← hcd] at c4 hc N3
      refine SCmp.sym ?_
      refine SCall.pure (c4) ?_
      have hab : a ≠ b := by
        cases up with
        | true => have := N1 rfl; grind
        | false => have := N2 rfl; grind
      have hS := rsame_ok a b ba bb (by omega)
      rw [decide_eq_false hab] at hS
      by_cases hcx : c = x
      · refine SCmp.yes (eqT (by rw [hcx])) ?_
        refine SCall.pure (rcmpq_ok a b ba bb (by omega)) ?_
        cases up with
        | true =>
          refine SCmp.yes (decide_eq_true (cmpQ_lt0.2 (N1 rfl))) ?_
          refine SCmp.yes (rfl) ?_
          refine SCall.pure (hS) ?_
          refine SCmp.yes (rfl) ?_
          by_cases h1 : m = x
          · refine SCmp.yes (eqT (by rw [h1])) ?_
            exact SRet.pure (.tf _)
          · refine SCmp.no (eqF (by show (m : Int) ≠ (x : Int); omega)) ?_
            by_cases h2 : m = y
            · refine SCmp.yes (eqT (by rw [h2])) ?_
              exact SRet.pure (.tf _)
            · refine SCmp.no (eqF (by show (m : Int) ≠ (y : Int); omega)) ?_
              have z3 : m % 9223372036854775808 = 0 := (N4.resolve_left h1).resolve_left h2
              refine SWrap.nosign m rfl rfl hm.1 ?_
              refine SCmp.yes (eqT (by omega)) ?_
              exact SRet.pure (.tf _)
        | false =>
          refine SCmp.no (decide_eq_false (mt cmpQ_lt0.1 (by have := N2 rfl; grind))) ?_
          refine SCmp.yes (rfl) ?_
          refine SCall.pure (hS) ?_
          refine SCmp.yes (rfl) ?_
          by_cases h1 : m = x
          · refine SCmp.yes (eqT (by rw [h1])) ?_
            exact SRet.pure (.tf _)
          · refine SCmp.no (eqF (by show (m : Int) ≠ (x : Int); omega)) ?_
            by_cases h2 : m = y
            · refine SCmp.yes (eqT (by rw [h2])) ?_
              exact SRet.pure (.tf _)
            · refine SCmp.no (eqF (by show (m : Int) ≠ (y : Int); omega)) ?_
              have z3 : m % 9223372036854775808 = 0 := (N4.resolve_left h1).resolve_left h2
              refine SWrap.nosign m rfl rfl hm.1 ?_
              refine SCmp.yes (eqT (by omega)) ?_
              exact SRet.pure (.tf _)
      · refine SCmp.no (eqF (by show (c : Int) ≠ (x : Int); omega)) ?_
        have N3 := N3.resolve_left hcx
        have z1 : x % 9223372036854775808 = 0 := N3.1
        have z2 : c % 9223372036854775808 = 0 := N3.2
        refine SWrap.nosign x rfl rfl hx ?_
        refine SCmp.yes (eqT (by omega)) ?_
        refine SWrap.nosign c rfl rfl hc ?_
        refine SCmp.yes (eqT (by omega)) ?_
        refine SCall.pure (rcmpq_ok a b ba bb (by omega)) ?_
        cases up with
        | true =>
          refine SCmp.yes (decide_eq_true (cmpQ_lt0.2 (N1 rfl))) ?_
          refine SCmp.yes (rfl) ?_
          refine SCall.pure (hS) ?_
          refine SCmp.yes (rfl) ?_
          by_cases h1 : m = x
          · refine SCmp.yes (eqT (by rw [h1])) ?_
            exact SRet.pure (.tf _)
          · refine SCmp.no (eqF (by show (m : Int) ≠ (x : Int); omega)) ?_
            by_cases h2 : m = y
            · refine SCmp.yes (eqT (by rw [h2])) ?_
              exact SRet.pure (.tf _)
            · refine SCmp.no (eqF (by show (m : Int) ≠ (y : Int); omega)) ?_
              have z3 : m % 9223372036854775808 = 0 := (N4.resolve_left h1).resolve_left h2
              refine SWrap.nosign m rfl rfl hm.1 ?_
              refine SCmp.yes (eqT (by omega)) ?_
              exact SRet.pure (.tf _)
        | false =>
          refine SCmp.no (decide_eq_false (mt cmpQ_lt0.1 (by have := N2 rfl; grind))) ?_
          refine SCmp.yes (rfl) ?_
          refine SCall.pure (hS) ?_
          refine SCmp.yes (rfl) ?_
          by_cases h1 : m = x
          · refine SCmp.yes (eqT (by rw [h1])) ?_
            exact SRet.pure (.tf _)
          · refine SCmp.no (eqF (by show (m : Int) ≠ (x : Int); omega)) ?_
            by_cases h2 : m = y
            · refine SCmp.yes (eqT (by rw [h2])) ?_
              exact SRet.pure (.tf _)
            · refine SCmp.no (eqF (by show (m : Int) ≠ (y : Int); omega)) ?_
              have z3 : m % 9223372036854775808 = 0 := (N4.resolve_left h1).resolve_left h2
              refine SWrap.nosign m rfl rfl hm.1 ?_
              refine SCmp.yes (eqT (by omega)) ?_
              exact SRet.pure (.tf _)
end Go.Proofs.Ytjcmiedpgabdbaa
