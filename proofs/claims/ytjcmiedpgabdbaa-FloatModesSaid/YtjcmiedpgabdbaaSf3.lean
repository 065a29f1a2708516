/- Floats: a value is rounded as its code says. -/
import Derived.Test.YtjcmiedpgabdbaaSf2
namespace Go.Proofs.Ytjcmiedpgabdbaa
open Go
set_option linter.unusedVariables false
set_option linter.unusedSimpArgs false
set_option maxRecDepth 10000

theorem max_ite (a b : Int) : (if b > a then b else a) = max a b := by split <;> omega
theorem min_ite (a b : Int) : (if b < a then b else a) = min a b := by split <;> omega
abbrev fpair (r : Nat × Int) : AV := .tup [.p (.int .u64 (r.1 : Int)), .p (.int .i64 r.2)]
theorem out_over {neg : Bool} {c : Nat} {sm : Bool} {half mode : Int} (h : 9218868437227405312 ≤ upc neg c sm half mode) : out neg c sm half mode = (sg neg (lim neg mode), 5) := by rw [out, if_pos h]
theorem out_fin {neg : Bool} {c : Nat} {sm : Bool} {half mode : Int} (h : upc neg c sm half mode < 9218868437227405312) : out neg c sm half mode = (sg neg (upc neg c sm half mode), if sm then (if c < 4503599627370496 then 3 else 1) else 0) := by rw [out, if_neg (by omega)]

-- the code's end, from w times 2^(T - 1074) on
-- w, T are final

theorem round_neg {neg : Bool} {m : Nat} {e A : Int} {more : Bool} {mode : Int} {v t : Nat} {sm : Bool} {half : Int} (hm : m ≠ 0) (hmb : bitLen m ≤ 262144) (he : -262144 ≤ e ∧ e ≤ 262144) (hA' : A = max ((bitLen m : Int) - 1 + e - 52) (-1074)) (hk : A - e < 0)
    (hq : m * 2 ^ (e - A).toNat = v)
    (hrest : CallP Try.prog 124 [numP neg m e more, natP (m / 2 ^ (max (A - e) 0).toNat), .int .i64 (A - e)] (.p (partP sm half)) [])
    (ht : A = (t : Int) - 1074) (hv : v < 9007199254740992) (hvt : 4503599627370496 ≤ v ∨ t = 0) (hund : (bitLen m : Int) - 1 + e < -1022 ↔ v + t * 4503599627370496 < 4503599627370496) :
    CallP Try.prog 76 [numP neg m e more, .int .i64 mode] (fpair (out neg (v + t * 4503599627370496) sm half mode)) [] := by
  have hnm := nlen_bitLen m
  have hbl0 : bitLen m ≠ 0 := mt bitLen_zero_iff.1 hm
  refine callG_of_vc (wr := wr0) Γok mixed Try.func76 (by kernel_rfl) rfl (by kernel_rfl) (le_of_ble rfl) (by simp) ?_
  refine SDraw.mk (by kernel_rfl) ?_
  repeat refine SOp.mk _ _ (And.intro rfl rfl) rfl ?_
  refine SOp.mk _ _ (SCall.pure (nbits_ok false m (by omega)) (And.intro rfl rfl)) rfl ?_
  refine SOp.mk _ _ (SWrap.i64z ((bitLen m : Int) - 1) rfl (by omega) (And.intro rfl rfl)) rfl ?_
  repeat refine SOp.mk _ _ (And.intro rfl rfl) rfl ?_
  refine SOp.mk _ _ (SWrap.i64z ((bitLen m : Int) - 1 + e) rfl (by omega) (And.intro rfl rfl)) rfl ?_
  repeat refine SOp.mk _ _ (And.intro rfl rfl) rfl ?_
  refine SWrap.i64z ((bitLen m : Int) - 1 + e - 52) rfl (by omega) ?_
  refine SZ.mk A ((max_ite _ _).trans hA'.symm) ?_
  refine SWrap.i64z (A - e) rfl (by omega) ?_
  refine SZ.mk (((max (A - e) 0).toNat : Nat) : Int) ((max_ite _ _).trans (by omega)) ?_
  refine SCall.pure (fshr_ok false m (max (A - e) 0).toNat (by omega) (by omega)) ?_
  refine SCall.pure (hrest) ?_
  refine SCmp.yes (decide_eq_true (by omega)) ?_
  refine SWrap.i64z (((e - A).toNat : Nat) : Int) (by omega) (by omega) ?_
  refine SCall.pure (fshl_ok false m (e - A).toNat (by omega) (by omega)) ?_
  rw [hq]
  refine SCall.pureT (nsmall_ok false v (by omega)) (fun _ => rfl) ?_
  subst ht
  refine SWrap.and v 1 _ rfl rfl (by omega) (by omega) (low1 v) ?_
  have hpar : v % 2 = (v + t * 4503599627370496) % 2 := by omega
  have hup := up_ok sm half mode neg
  have hu : upc neg (v + t * 4503599627370496) sm half mode = if goUp mode neg sm (decide ((v + t * 4503599627370496) % 2 = 1)) half then v + t * 4503599627370496 + 1 else v + t * 4503599627370496 := rfl
  refine SCmp.sym ?_
  obtain ⟨od, hod⟩ : ∃ od, od = (((v % 2 : Nat) : Int) == 1) := ⟨_, rfl⟩
  rw [show decide ((v + t * 4503599627370496) % 2 = 1) = od by
    rw [hod]
    by_cases h : v % 2 = 1
    · rw [decide_eq_true (by omega), eqT (by omega)]
    · rw [decide_eq_false (by omega), eqF (by omega)]] at hu
  rw [← hod]
  refine SCall.pure (hup od) ?_
  refine SCond.mk (fun hg => ?_) (fun hg => ?_)
  · rw [hg, if_pos rfl] at hu
    refine SWrap.u64z (v + 1) (by omega) (by omega) ?_
    by_cases htop : (v + 1) = 9007199254740992
    · refine SCmp.yes (eqT (by omega)) ?_
      refine SWrap.i64z (((t + 1 : Nat) : Int) - 1074) (by omega) (by omega) ?_
      have hupc : upc neg (v + t * 4503599627370496) sm half mode = 4503599627370496 + (t + 1) * 4503599627370496 := by omega
      refine SCmp.yes (decide_eq_true (by omega)) ?_
      refine SWrap.i64z (((t + 1 : Nat) : Int) - 1022) (by omega) (by omega) ?_
      by_cases hT : 2046 ≤ t + 1
      · refine SCmp.yes (decide_eq_true (by omega)) ?_
        rw [out_over (by omega)]
        refine SCall.pureT (beyond_ok neg mode) (fun _ => rfl) ?_
        exact SRet.pure (.tup rfl fun i c d e1 e2 => by
          match i, e1, e2 with
          | 0, e1, e2 => cases e1; cases e2; exact .p _ (.int _ _)
          | 1, e1, e2 => cases e1; cases e2; exact .p _ (.int _ _))
      · refine SCmp.no (decide_eq_false (by omega)) ?_
        rw [out_fin (by omega), hupc]
        refine SCond.mk (fun hsm => ?_) (fun hsm => ?_)
        · by_cases hund0 : (bitLen m : Int) - 1 + e < -1022
          · refine SCmp.yes (decide_eq_true (by omega)) ?_
            refine SWrap.i64z 3 (by decide) (by omega) ?_
            rw [hsm, if_pos rfl, if_pos (hund.1 hund0)]
            by_cases hw2 : 4503599627370496 ≤ 4503599627370496
            · refine SCmp.yes (decide_eq_true (by omega)) ?_
              refine SWrap.i64z (((t + 1) + 1 : Nat) : Int) (by omega) (by omega) ?_
              refine SWrap.i64z (((t + 1) : Nat) : Int) (by omega) (by omega) ?_
              refine SWrap.u64z ((t + 1)) (by omega) (by omega) ?_
              refine SGe.mk (by decide) ?_
              refine SWrap.u64z ((t + 1) * 4503599627370496) (by show (((t + 1) : Nat) : Int) * 4503599627370496 = _; omega) (by omega) ?_
              refine SWrap.u64z (4503599627370496 + (t + 1) * 4503599627370496) (by omega) (by omega) ?_
              refine SCall.pure (signed_ok (4503599627370496 + (t + 1) * 4503599627370496) (by omega) neg) ?_
              exact SRet.pure (.tup rfl fun i c d e1 e2 => by
                match i, e1, e2 with
                | 0, e1, e2 => cases e1; cases e2; exact .p _ (.int _ _)
                | 1, e1, e2 => cases e1; cases e2; exact .p _ (.int _ _))
            · refine SCmp.no (decide_eq_false (by omega)) ?_
              have hT0 : 4503599627370496 + (t + 1) * 4503599627370496 = 4503599627370496 := by omega
              rw [hT0]
              refine SCall.pure (signed_ok (4503599627370496) (by omega) neg) ?_
              exact SRet.pure (.tup rfl fun i c d e1 e2 => by
                match i, e1, e2 with
                | 0, e1, e2 => cases e1; cases e2; exact .p _ (.int _ _)
                | 1, e1, e2 => cases e1; cases e2; exact .p _ (.int _ _))
          · refine SCmp.no (decide_eq_false (by omega)) ?_
            rw [hsm, if_pos rfl, if_neg (mt hund.2 hund0)]
            by_cases hw2 : 4503599627370496 ≤ 4503599627370496
            · refine SCmp.yes (decide_eq_true (by omega)) ?_
              refine SWrap.i64z (((t + 1) + 1 : Nat) : Int) (by omega) (by omega) ?_
              refine SWrap.i64z (((t + 1) : Nat) : Int) (by omega) (by omega) ?_
              refine SWrap.u64z ((t + 1)) (by omega) (by omega) ?_
              refine SGe.mk (by decide) ?_
              refine SWrap.u64z ((t + 1) * 4503599627370496) (by show (((t + 1) : Nat) : Int) * 4503599627370496 = _; omega) (by omega) ?_
              refine SWrap.u64z (4503599627370496 + (t + 1) * 4503599627370496) (by omega) (by omega) ?_
              refine SCall.pure (signed_ok (4503599627370496 + (t + 1) * 4503599627370496) (by omega) neg) ?_
              exact SRet.pure (.tup rfl fun i c d e1 e2 => by
                match i, e1, e2 with
                | 0, e1, e2 => cases e1; cases e2; exact .p _ (.int _ _)
                | 1, e1, e2 => cases e1; cases e2; exact .p _ (.int _ _))
            · refine SCmp.no (decide_eq_false (by omega)) ?_
              have hT0 : 4503599627370496 + (t + 1) * 4503599627370496 = 4503599627370496 := by omega
              rw [hT0]
              refine SCall.pure (signed_ok (4503599627370496) (by omega) neg) ?_
              exact SRet.pure (.tup rfl fun i c d e1 e2 => by
                match i, e1, e2 with
                | 0, e1, e2 => cases e1; cases e2; exact .p _ (.int _ _)
                | 1, e1, e2 => cases e1; cases e2; exact .p _ (.int _ _))
        · rw [hsm, if_neg Bool.false_ne_true]
          by_cases hw2 : 4503599627370496 ≤ 4503599627370496
          · refine SCmp.yes (decide_eq_true (by omega)) ?_
            refine SWrap.i64z (((t + 1) + 1 : Nat) : Int) (by omega) (by omega) ?_
            refine SWrap.i64z (((t + 1) : Nat) : Int) (by omega) (by omega) ?_
            refine SWrap.u64z ((t + 1)) (by omega) (by omega) ?_
            refine SGe.mk (by decide) ?_
            refine SWrap.u64z ((t + 1) * 4503599627370496) (by show (((t + 1) : Nat) : Int) * 4503599627370496 = _; omega) (by omega) ?_
            refine SWrap.u64z (4503599627370496 + (t + 1) * 4503599627370496) (by omega) (by omega) ?_
            refine SCall.pure (signed_ok (4503599627370496 + (t + 1) * 4503599627370496) (by omega) neg) ?_
            exact SRet.pure (.tup rfl fun i c d e1 e2 => by
              match i, e1, e2 with
              | 0, e1, e2 => cases e1; cases e2; exact .p _ (.int _ _)
              | 1, e1, e2 => cases e1; cases e2; exact .p _ (.int _ _))
          · refine SCmp.no (decide_eq_false (by omega)) ?_
            have hT0 : 4503599627370496 + (t + 1) * 4503599627370496 = 4503599627370496 := by omega
            rw [hT0]
            refine SCall.pure (signed_ok (4503599627370496) (by omega) neg) ?_
            exact SRet.pure (.tup rfl fun i c d e1 e2 => by
              match i, e1, e2 with
              | 0, e1, e2 => cases e1; cases e2; exact .p _ (.int _ _)
              | 1, e1, e2 => cases e1; cases e2; exact .p _ (.int _ _))
    · refine SCmp.no (eqF (by omega)) ?_
      have hupc : upc neg (v + t * 4503599627370496) sm half mode = (v + 1) + t * 4503599627370496 := by omega
      by_cases hw : 4503599627370496 ≤ (v + 1)
      · refine SCmp.yes (decide_eq_true (by omega)) ?_
        refine SWrap.i64z ((t : Int) - 1022) (by omega) (by omega) ?_
        by_cases hT : 2046 ≤ t
        · refine SCmp.yes (decide_eq_true (by omega)) ?_
          rw [out_over (by omega)]
          refine SCall.pureT (beyond_ok neg mode) (fun _ => rfl) ?_
          exact SRet.pure (.tup rfl fun i c d e1 e2 => by
            match i, e1, e2 with
            | 0, e1, e2 => cases e1; cases e2; exact .p _ (.int _ _)
            | 1, e1, e2 => cases e1; cases e2; exact .p _ (.int _ _))
        · refine SCmp.no (decide_eq_false (by omega)) ?_
          rw [out_fin (by omega), hupc]
          refine SCond.mk (fun hsm => ?_) (fun hsm => ?_)
          · by_cases hund0 : (bitLen m : Int) - 1 + e < -1022
            · refine SCmp.yes (decide_eq_true (by omega)) ?_
              refine SWrap.i64z 3 (by decide) (by omega) ?_
              rw [hsm, if_pos rfl, if_pos (hund.1 hund0)]
              by_cases hw2 : 4503599627370496 ≤ (v + 1)
              · refine SCmp.yes (decide_eq_true (by omega)) ?_
                refine SWrap.i64z ((t + 1 : Nat) : Int) (by omega) (by omega) ?_
                refine SWrap.i64z ((t : Nat) : Int) (by omega) (by omega) ?_
                refine SWrap.u64z (t) (by omega) (by omega) ?_
                refine SGe.mk (by decide) ?_
                refine SWrap.u64z (t * 4503599627370496) (by show ((t : Nat) : Int) * 4503599627370496 = _; omega) (by omega) ?_
                refine SWrap.u64z ((v + 1) + t * 4503599627370496) (by omega) (by omega) ?_
                refine SCall.pure (signed_ok ((v + 1) + t * 4503599627370496) (by omega) neg) ?_
                exact SRet.pure (.tup rfl fun i c d e1 e2 => by
                  match i, e1, e2 with
                  | 0, e1, e2 => cases e1; cases e2; exact .p _ (.int _ _)
                  | 1, e1, e2 => cases e1; cases e2; exact .p _ (.int _ _))
              · refine SCmp.no (decide_eq_false (by omega)) ?_
                have hT0 : (v + 1) + t * 4503599627370496 = (v + 1) := by omega
                rw [hT0]
                refine SCall.pure (signed_ok ((v + 1)) (by omega) neg) ?_
                exact SRet.pure (.tup rfl fun i c d e1 e2 => by
                  match i, e1, e2 with
                  | 0, e1, e2 => cases e1; cases e2; exact .p _ (.int _ _)
                  | 1, e1, e2 => cases e1; cases e2; exact .p _ (.int _ _))
            · refine SCmp.no (decide_eq_false (by omega)) ?_
              rw [hsm, if_pos rfl, if_neg (mt hund.2 hund0)]
              by_cases hw2 : 4503599627370496 ≤ (v + 1)
              · refine SCmp.yes (decide_eq_true (by omega)) ?_
                refine SWrap.i64z ((t + 1 : Nat) : Int) (by omega) (by omega) ?_
                refine SWrap.i64z ((t : Nat) : Int) (by omega) (by omega) ?_
                refine SWrap.u64z (t) (by omega) (by omega) ?_
                refine SGe.mk (by decide) ?_
                refine SWrap.u64z (t * 4503599627370496) (by show ((t : Nat) : Int) * 4503599627370496 = _; omega) (by omega) ?_
                refine SWrap.u64z ((v + 1) + t * 4503599627370496) (by omega) (by omega) ?_
                refine SCall.pure (signed_ok ((v + 1) + t * 4503599627370496) (by omega) neg) ?_
                exact SRet.pure (.tup rfl fun i c d e1 e2 => by
                  match i, e1, e2 with
                  | 0, e1, e2 => cases e1; cases e2; exact .p _ (.int _ _)
                  | 1, e1, e2 => cases e1; cases e2; exact .p _ (.int _ _))
              · refine SCmp.no (decide_eq_false (by omega)) ?_
                have hT0 : (v + 1) + t * 4503599627370496 = (v + 1) := by omega
                rw [hT0]
                refine SCall.pure (signed_ok ((v + 1)) (by omega) neg) ?_
                exact SRet.pure (.tup rfl fun i c d e1 e2 => by
                  match i, e1, e2 with
                  | 0, e1, e2 => cases e1; cases e2; exact .p _ (.int _ _)
                  | 1, e1, e2 => cases e1; cases e2; exact .p _ (.int _ _))
          · rw [hsm, if_neg Bool.false_ne_true]
            by_cases hw2 : 4503599627370496 ≤ (v + 1)
            · refine SCmp.yes (decide_eq_true (by omega)) ?_
              refine SWrap.i64z ((t + 1 : Nat) : Int) (by omega) (by omega) ?_
              refine SWrap.i64z ((t : Nat) : Int) (by omega) (by omega) ?_
              refine SWrap.u64z (t) (by omega) (by omega) ?_
              refine SGe.mk (by decide) ?_
              refine SWrap.u64z (t * 4503599627370496) (by show ((t : Nat) : Int) * 4503599627370496 = _; omega) (by omega) ?_
              refine SWrap.u64z ((v + 1) + t * 4503599627370496) (by omega) (by omega) ?_
              refine SCall.pure (signed_ok ((v + 1) + t * 4503599627370496) (by omega) neg) ?_
              exact SRet.pure (.tup rfl fun i c d e1 e2 => by
                match i, e1, e2 with
                | 0, e1, e2 => cases e1; cases e2; exact .p _ (.int _ _)
                | 1, e1, e2 => cases e1; cases e2; exact .p _ (.int _ _))
            · refine SCmp.no (decide_eq_false (by omega)) ?_
              have hT0 : (v + 1) + t * 4503599627370496 = (v + 1) := by omega
              rw [hT0]
              refine SCall.pure (signed_ok ((v + 1)) (by omega) neg) ?_
              exact SRet.pure (.tup rfl fun i c d e1 e2 => by
                match i, e1, e2 with
                | 0, e1, e2 => cases e1; cases e2; exact .p _ (.int _ _)
                | 1, e1, e2 => cases e1; cases e2; exact .p _ (.int _ _))
      · refine SCmp.no (decide_eq_false (by omega)) ?_
        rw [out_fin (by omega), hupc]
        refine SCond.mk (fun hsm => ?_) (fun hsm => ?_)
        · by_cases hund0 : (bitLen m : Int) - 1 + e < -1022
          · refine SCmp.yes (decide_eq_true (by omega)) ?_
            refine SWrap.i64z 3 (by decide) (by omega) ?_
            rw [hsm, if_pos rfl, if_pos (hund.1 hund0)]
            by_cases hw2 : 4503599627370496 ≤ (v + 1)
            · refine SCmp.yes (decide_eq_true (by omega)) ?_
              refine SWrap.i64z ((t + 1 : Nat) : Int) (by omega) (by omega) ?_
              refine SWrap.i64z ((t : Nat) : Int) (by omega) (by omega) ?_
              refine SWrap.u64z (t) (by omega) (by omega) ?_
              refine SGe.mk (by decide) ?_
              refine SWrap.u64z (t * 4503599627370496) (by show ((t : Nat) : Int) * 4503599627370496 = _; omega) (by omega) ?_
              refine SWrap.u64z ((v + 1) + t * 4503599627370496) (by omega) (by omega) ?_
              refine SCall.pure (signed_ok ((v + 1) + t * 4503599627370496) (by omega) neg) ?_
              exact SRet.pure (.tup rfl fun i c d e1 e2 => by
                match i, e1, e2 with
                | 0, e1, e2 => cases e1; cases e2; exact .p _ (.int _ _)
                | 1, e1, e2 => cases e1; cases e2; exact .p _ (.int _ _))
            · refine SCmp.no (decide_eq_false (by omega)) ?_
              have hT0 : (v + 1) + t * 4503599627370496 = (v + 1) := by omega
              rw [hT0]
              refine SCall.pure (signed_ok ((v + 1)) (by omega) neg) ?_
              exact SRet.pure (.tup rfl fun i c d e1 e2 => by
                match i, e1, e2 with
                | 0, e1, e2 => cases e1; cases e2; exact .p _ (.int _ _)
                | 1, e1, e2 => cases e1; cases e2; exact .p _ (.int _ _))
          · refine SCmp.no (decide_eq_false (by omega)) ?_
            rw [hsm, if_pos rfl, if_neg (mt hund.2 hund0)]
            by_cases hw2 : 4503599627370496 ≤ (v + 1)
            · refine SCmp.yes (decide_eq_true (by omega)) ?_
              refine SWrap.i64z ((t + 1 : Nat) : Int) (by omega) (by omega) ?_
              refine SWrap.i64z ((t : Nat) : Int) (by omega) (by omega) ?_
              refine SWrap.u64z (t) (by omega) (by omega) ?_
              refine SGe.mk (by decide) ?_
              refine SWrap.u64z (t * 4503599627370496) (by show ((t : Nat) : Int) * 4503599627370496 = _; omega) (by omega) ?_
              refine SWrap.u64z ((v + 1) + t * 4503599627370496) (by omega) (by omega) ?_
              refine SCall.pure (signed_ok ((v + 1) + t * 4503599627370496) (by omega) neg) ?_
              exact SRet.pure (.tup rfl fun i c d e1 e2 => by
                match i, e1, e2 with
                | 0, e1, e2 => cases e1; cases e2; exact .p _ (.int _ _)
                | 1, e1, e2 => cases e1; cases e2; exact .p _ (.int _ _))
            · refine SCmp.no (decide_eq_false (by omega)) ?_
              have hT0 : (v + 1) + t * 4503599627370496 = (v + 1) := by omega
              rw [hT0]
              refine SCall.pure (signed_ok ((v + 1)) (by omega) neg) ?_
              exact SRet.pure (.tup rfl fun i c d e1 e2 => by
                match i, e1, e2 with
                | 0, e1, e2 => cases e1; cases e2; exact .p _ (.int _ _)
                | 1, e1, e2 => cases e1; cases e2; exact .p _ (.int _ _))
        · rw [hsm, if_neg Bool.false_ne_true]
          by_cases hw2 : 4503599627370496 ≤ (v + 1)
          · refine SCmp.yes (decide_eq_true (by omega)) ?_
            refine SWrap.i64z ((t + 1 : Nat) : Int) (by omega) (by omega) ?_
            refine SWrap.i64z ((t : Nat) : Int) (by omega) (by omega) ?_
            refine SWrap.u64z (t) (by omega) (by omega) ?_
            refine SGe.mk (by decide) ?_
            refine SWrap.u64z (t * 4503599627370496) (by show ((t : Nat) : Int) * 4503599627370496 = _; omega) (by omega) ?_
            refine SWrap.u64z ((v + 1) + t * 4503599627370496) (by omega) (by omega) ?_
            refine SCall.pure (signed_ok ((v + 1) + t * 4503599627370496) (by omega) neg) ?_
            exact SRet.pure (.tup rfl fun i c d e1 e2 => by
              match i, e1, e2 with
              | 0, e1, e2 => cases e1; cases e2; exact .p _ (.int _ _)
              | 1, e1, e2 => cases e1; cases e2; exact .p _ (.int _ _))
          · refine SCmp.no (decide_eq_false (by omega)) ?_
            have hT0 : (v + 1) + t * 4503599627370496 = (v + 1) := by omega
            rw [hT0]
            refine SCall.pure (signed_ok ((v + 1)) (by omega) neg) ?_
            exact SRet.pure (.tup rfl fun i c d e1 e2 => by
              match i, e1, e2 with
              | 0, e1, e2 => cases e1; cases e2; exact .p _ (.int _ _)
              | 1, e1, e2 => cases e1; cases e2; exact .p _ (.int _ _))
  · rw [hg, if_neg Bool.false_ne_true] at hu
    by_cases htop : v = 9007199254740992
    · refine SCmp.yes (eqT (by omega)) ?_
      refine SWrap.i64z (((t + 1 : Nat) : Int) - 1074) (by omega) (by omega) ?_
      have hupc : upc neg (v + t * 4503599627370496) sm half mode = 4503599627370496 + (t + 1) * 4503599627370496 := by omega
      refine SCmp.yes (decide_eq_true (by omega)) ?_
      refine SWrap.i64z (((t + 1 : Nat) : Int) - 1022) (by omega) (by omega) ?_
      by_cases hT : 2046 ≤ t + 1
      · refine SCmp.yes (decide_eq_true (by omega)) ?_
        rw [out_over (by omega)]
        refine SCall.pureT (beyond_ok neg mode) (fun _ => rfl) ?_
        exact SRet.pure (.tup rfl fun i c d e1 e2 => by
          match i, e1, e2 with
          | 0, e1, e2 => cases e1; cases e2; exact .p _ (.int _ _)
          | 1, e1, e2 => cases e1; cases e2; exact .p _ (.int _ _))
      · refine SCmp.no (decide_eq_false (by omega)) ?_
        rw [out_fin (by omega), hupc]
        refine SCond.mk (fun hsm => ?_) (fun hsm => ?_)
        · by_cases hund0 : (bitLen m : Int) - 1 + e < -1022
          · refine SCmp.yes (decide_eq_true (by omega)) ?_
            refine SWrap.i64z 3 (by decide) (by omega) ?_
            rw [hsm, if_pos rfl, if_pos (hund.1 hund0)]
            by_cases hw2 : 4503599627370496 ≤ 4503599627370496
            · refine SCmp.yes (decide_eq_true (by omega)) ?_
              refine SWrap.i64z (((t + 1) + 1 : Nat) : Int) (by omega) (by omega) ?_
              refine SWrap.i64z (((t + 1) : Nat) : Int) (by omega) (by omega) ?_
              refine SWrap.u64z ((t + 1)) (by omega) (by omega) ?_
              refine SGe.mk (by decide) ?_
              refine SWrap.u64z ((t + 1) * 4503599627370496) (by show (((t + 1) : Nat) : Int) * 4503599627370496 = _; omega) (by omega) ?_
              refine SWrap.u64z (4503599627370496 + (t + 1) * 4503599627370496) (by omega) (by omega) ?_
              refine SCall.pure (signed_ok (4503599627370496 + (t + 1) * 4503599627370496) (by omega) neg) ?_
              exact SRet.pure (.tup rfl fun i c d e1 e2 => by
                match i, e1, e2 with
                | 0, e1, e2 => cases e1; cases e2; exact .p _ (.int _ _)
                | 1, e1, e2 => cases e1; cases e2; exact .p _ (.int _ _))
            · refine SCmp.no (decide_eq_false (by omega)) ?_
              have hT0 : 4503599627370496 + (t + 1) * 4503599627370496 = 4503599627370496 := by omega
              rw [hT0]
              refine SCall.pure (signed_ok (4503599627370496) (by omega) neg) ?_
              exact SRet.pure (.tup rfl fun i c d e1 e2 => by
                match i, e1, e2 with
                | 0, e1, e2 => cases e1; cases e2; exact .p _ (.int _ _)
                | 1, e1, e2 => cases e1; cases e2; exact .p _ (.int _ _))
          · refine SCmp.no (decide_eq_false (by omega)) ?_
            rw [hsm, if_pos rfl, if_neg (mt hund.2 hund0)]
            by_cases hw2 : 4503599627370496 ≤ 4503599627370496
            · refine SCmp.yes (decide_eq_true (by omega)) ?_
              refine SWrap.i64z (((t + 1) + 1 : Nat) : Int) (by omega) (by omega) ?_
              refine SWrap.i64z (((t + 1) : Nat) : Int) (by omega) (by omega) ?_
              refine SWrap.u64z ((t + 1)) (by omega) (by omega) ?_
              refine SGe.mk (by decide) ?_
              refine SWrap.u64z ((t + 1) * 4503599627370496) (by show (((t + 1) : Nat) : Int) * 4503599627370496 = _; omega) (by omega) ?_
              refine SWrap.u64z (4503599627370496 + (t + 1) * 4503599627370496) (by omega) (by omega) ?_
              refine SCall.pure (signed_ok (4503599627370496 + (t + 1) * 4503599627370496) (by omega) neg) ?_
              exact SRet.pure (.tup rfl fun i c d e1 e2 => by
                match i, e1, e2 with
                | 0, e1, e2 => cases e1; cases e2; exact .p _ (.int _ _)
                | 1, e1, e2 => cases e1; cases e2; exact .p _ (.int _ _))
            · refine SCmp.no (decide_eq_false (by omega)) ?_
              have hT0 : 4503599627370496 + (t + 1) * 4503599627370496 = 4503599627370496 := by omega
              rw [hT0]
              refine SCall.pure (signed_ok (4503599627370496) (by omega) neg) ?_
              exact SRet.pure (.tup rfl fun i c d e1 e2 => by
                match i, e1, e2 with
                | 0, e1, e2 => cases e1; cases e2; exact .p _ (.int _ _)
                | 1, e1, e2 => cases e1; cases e2; exact .p _ (.int _ _))
        · rw [hsm, if_neg Bool.false_ne_true]
          by_cases hw2 : 4503599627370496 ≤ 4503599627370496
          · refine SCmp.yes (decide_eq_true (by omega)) ?_
            refine SWrap.i64z (((t + 1) + 1 : Nat) : Int) (by omega) (by omega) ?_
            refine SWrap.i64z (((t + 1) : Nat) : Int) (by omega) (by omega) ?_
            refine SWrap.u64z ((t + 1)) (by omega) (by omega) ?_
            refine SGe.mk (by decide) ?_
            refine SWrap.u64z ((t + 1) * 4503599627370496) (by show (((t + 1) : Nat) : Int) * 4503599627370496 = _; omega) (by omega) ?_
            refine SWrap.u64z (4503599627370496 + (t + 1) * 4503599627370496) (by omega) (by omega) ?_
            refine SCall.pure (signed_ok (4503599627370496 + (t + 1) * 4503599627370496) (by omega) neg) ?_
            exact SRet.pure (.tup rfl fun i c d e1 e2 => by
              match i, e1, e2 with
              | 0, e1, e2 => cases e1; cases e2; exact .p _ (.int _ _)
              | 1, e1, e2 => cases e1; cases e2; exact .p _ (.int _ _))
          · refine SCmp.no (decide_eq_false (by omega)) ?_
            have hT0 : 4503599627370496 + (t + 1) * 4503599627370496 = 4503599627370496 := by omega
            rw [hT0]
            refine SCall.pure (signed_ok (4503599627370496) (by omega) neg) ?_
            exact SRet.pure (.tup rfl fun i c d e1 e2 => by
              match i, e1, e2 with
              | 0, e1, e2 => cases e1; cases e2; exact .p _ (.int _ _)
              | 1, e1, e2 => cases e1; cases e2; exact .p _ (.int _ _))
    · refine SCmp.no (eqF (by omega)) ?_
      have hupc : upc neg (v + t * 4503599627370496) sm half mode = v + t * 4503599627370496 := by omega
      by_cases hw : 4503599627370496 ≤ v
      · refine SCmp.yes (decide_eq_true (by omega)) ?_
        refine SWrap.i64z ((t : Int) - 1022) (by omega) (by omega) ?_
        by_cases hT : 2046 ≤ t
        · refine SCmp.yes (decide_eq_true (by omega)) ?_
          rw [out_over (by omega)]
          refine SCall.pureT (beyond_ok neg mode) (fun _ => rfl) ?_
          exact SRet.pure (.tup rfl fun i c d e1 e2 => by
            match i, e1, e2 with
            | 0, e1, e2 => cases e1; cases e2; exact .p _ (.int _ _)
            | 1, e1, e2 => cases e1; cases e2; exact .p _ (.int _ _))
        · refine SCmp.no (decide_eq_false (by omega)) ?_
          rw [out_fin (by omega), hupc]
          refine SCond.mk (fun hsm => ?_) (fun hsm => ?_)
          · by_cases hund0 : (bitLen m : Int) - 1 + e < -1022
            · refine SCmp.yes (decide_eq_true (by omega)) ?_
              refine SWrap.i64z 3 (by decide) (by omega) ?_
              rw [hsm, if_pos rfl, if_pos (hund.1 hund0)]
              by_cases hw2 : 4503599627370496 ≤ v
              · refine SCmp.yes (decide_eq_true (by omega)) ?_
                refine SWrap.i64z ((t + 1 : Nat) : Int) (by omega) (by omega) ?_
                refine SWrap.i64z ((t : Nat) : Int) (by omega) (by omega) ?_
                refine SWrap.u64z (t) (by omega) (by omega) ?_
                refine SGe.mk (by decide) ?_
                refine SWrap.u64z (t * 4503599627370496) (by show ((t : Nat) : Int) * 4503599627370496 = _; omega) (by omega) ?_
                refine SWrap.u64z (v + t * 4503599627370496) (by omega) (by omega) ?_
                refine SCall.pure (signed_ok (v + t * 4503599627370496) (by omega) neg) ?_
                exact SRet.pure (.tup rfl fun i c d e1 e2 => by
                  match i, e1, e2 with
                  | 0, e1, e2 => cases e1; cases e2; exact .p _ (.int _ _)
                  | 1, e1, e2 => cases e1; cases e2; exact .p _ (.int _ _))
              · refine SCmp.no (decide_eq_false (by omega)) ?_
                have hT0 : v + t * 4503599627370496 = v := by omega
                rw [hT0]
                refine SCall.pure (signed_ok (v) (by omega) neg) ?_
                exact SRet.pure (.tup rfl fun i c d e1 e2 => by
                  match i, e1, e2 with
                  | 0, e1, e2 => cases e1; cases e2; exact .p _ (.int _ _)
                  | 1, e1, e2 => cases e1; cases e2; exact .p _ (.int _ _))
            · refine SCmp.no (decide_eq_false (by omega)) ?_
              rw [hsm, if_pos rfl, if_neg (mt hund.2 hund0)]
              by_cases hw2 : 4503599627370496 ≤ v
              · refine SCmp.yes (decide_eq_true (by omega)) ?_
                refine SWrap.i64z ((t + 1 : Nat) : Int) (by omega) (by omega) ?_
                refine SWrap.i64z ((t : Nat) : Int) (by omega) (by omega) ?_
                refine SWrap.u64z (t) (by omega) (by omega) ?_
                refine SGe.mk (by decide) ?_
                refine SWrap.u64z (t * 4503599627370496) (by show ((t : Nat) : Int) * 4503599627370496 = _; omega) (by omega) ?_
                refine SWrap.u64z (v + t * 4503599627370496) (by omega) (by omega) ?_
                refine SCall.pure (signed_ok (v + t * 4503599627370496) (by omega) neg) ?_
                exact SRet.pure (.tup rfl fun i c d e1 e2 => by
                  match i, e1, e2 with
                  | 0, e1, e2 => cases e1; cases e2; exact .p _ (.int _ _)
                  | 1, e1, e2 => cases e1; cases e2; exact .p _ (.int _ _))
              · refine SCmp.no (decide_eq_false (by omega)) ?_
                have hT0 : v + t * 4503599627370496 = v := by omega
                rw [hT0]
                refine SCall.pure (signed_ok (v) (by omega) neg) ?_
                exact SRet.pure (.tup rfl fun i c d e1 e2 => by
                  match i, e1, e2 with
                  | 0, e1, e2 => cases e1; cases e2; exact .p _ (.int _ _)
                  | 1, e1, e2 => cases e1; cases e2; exact .p _ (.int _ _))
          · rw [hsm, if_neg Bool.false_ne_true]
            by_cases hw2 : 4503599627370496 ≤ v
            · refine SCmp.yes (decide_eq_true (by omega)) ?_
              refine SWrap.i64z ((t + 1 : Nat) : Int) (by omega) (by omega) ?_
              refine SWrap.i64z ((t : Nat) : Int) (by omega) (by omega) ?_
              refine SWrap.u64z (t) (by omega) (by omega) ?_
              refine SGe.mk (by decide) ?_
              refine SWrap.u64z (t * 4503599627370496) (by show ((t : Nat) : Int) * 4503599627370496 = _; omega) (by omega) ?_
              refine SWrap.u64z (v + t * 4503599627370496) (by omega) (by omega) ?_
              refine SCall.pure (signed_ok (v + t * 4503599627370496) (by omega) neg) ?_
              exact SRet.pure (.tup rfl fun i c d e1 e2 => by
                match i, e1, e2 with
                | 0, e1, e2 => cases e1; cases e2; exact .p _ (.int _ _)
                | 1, e1, e2 => cases e1; cases e2; exact .p _ (.int _ _))
            · refine SCmp.no (decide_eq_false (by omega)) ?_
              have hT0 : v + t * 4503599627370496 = v := by omega
              rw [hT0]
              refine SCall.pure (signed_ok (v) (by omega) neg) ?_
              exact SRet.pure (.tup rfl fun i c d e1 e2 => by
                match i, e1, e2 with
                | 0, e1, e2 => cases e1; cases e2; exact .p _ (.int _ _)
                | 1, e1, e2 => cases e1; cases e2; exact .p _ (.int _ _))
      · refine SCmp.no (decide_eq_false (by omega)) ?_
        rw [out_fin (by omega), hupc]
        refine SCond.mk (fun hsm => ?_) (fun hsm => ?_)
        · by_cases hund0 : (bitLen m : Int) - 1 + e < -1022
          · refine SCmp.yes (decide_eq_true (by omega)) ?_
            refine SWrap.i64z 3 (by decide) (by omega) ?_
            rw [hsm, if_pos rfl, if_pos (hund.1 hund0)]
            by_cases hw2 : 4503599627370496 ≤ v
            · refine SCmp.yes (decide_eq_true (by omega)) ?_
              refine SWrap.i64z ((t + 1 : Nat) : Int) (by omega) (by omega) ?_
              refine SWrap.i64z ((t : Nat) : Int) (by omega) (by omega) ?_
              refine SWrap.u64z (t) (by omega) (by omega) ?_
              refine SGe.mk (by decide) ?_
              refine SWrap.u64z (t * 4503599627370496) (by show ((t : Nat) : Int) * 4503599627370496 = _; omega) (by omega) ?_
              refine SWrap.u64z (v + t * 4503599627370496) (by omega) (by omega) ?_
              refine SCall.pure (signed_ok (v + t * 4503599627370496) (by omega) neg) ?_
              exact SRet.pure (.tup rfl fun i c d e1 e2 => by
                match i, e1, e2 with
                | 0, e1, e2 => cases e1; cases e2; exact .p _ (.int _ _)
                | 1, e1, e2 => cases e1; cases e2; exact .p _ (.int _ _))
            · refine SCmp.no (decide_eq_false (by omega)) ?_
              have hT0 : v + t * 4503599627370496 = v := by omega
              rw [hT0]
              refine SCall.pure (signed_ok (v) (by omega) neg) ?_
              exact SRet.pure (.tup rfl fun i c d e1 e2 => by
                match i, e1, e2 with
                | 0, e1, e2 => cases e1; cases e2; exact .p _ (.int _ _)
                | 1, e1, e2 => cases e1; cases e2; exact .p _ (.int _ _))
          · refine SCmp.no (decide_eq_false (by omega)) ?_
            rw [hsm, if_pos rfl, if_neg (mt hund.2 hund0)]
            by_cases hw2 : 4503599627370496 ≤ v
            · refine SCmp.yes (decide_eq_true (by omega)) ?_
              refine SWrap.i64z ((t + 1 : Nat) : Int) (by omega) (by omega) ?_
              refine SWrap.i64z ((t : Nat) : Int) (by omega) (by omega) ?_
              refine SWrap.u64z (t) (by omega) (by omega) ?_
              refine SGe.mk (by decide) ?_
              refine SWrap.u64z (t * 4503599627370496) (by show ((t : Nat) : Int) * 4503599627370496 = _; omega) (by omega) ?_
              refine SWrap.u64z (v + t * 4503599627370496) (by omega) (by omega) ?_
              refine SCall.pure (signed_ok (v + t * 4503599627370496) (by omega) neg) ?_
              exact SRet.pure (.tup rfl fun i c d e1 e2 => by
                match i, e1, e2 with
                | 0, e1, e2 => cases e1; cases e2; exact .p _ (.int _ _)
                | 1, e1, e2 => cases e1; cases e2; exact .p _ (.int _ _))
            · refine SCmp.no (decide_eq_false (by omega)) ?_
              have hT0 : v + t * 4503599627370496 = v := by omega
              rw [hT0]
              refine SCall.pure (signed_ok (v) (by omega) neg) ?_
              exact SRet.pure (.tup rfl fun i c d e1 e2 => by
                match i, e1, e2 with
                | 0, e1, e2 => cases e1; cases e2; exact .p _ (.int _ _)
                | 1, e1, e2 => cases e1; cases e2; exact .p _ (.int _ _))
        · rw [hsm, if_neg Bool.false_ne_true]
          by_cases hw2 : 4503599627370496 ≤ v
          · refine SCmp.yes (decide_eq_true (by omega)) ?_
            refine SWrap.i64z ((t + 1 : Nat) : Int) (by omega) (by omega) ?_
            refine SWrap.i64z ((t : Nat) : Int) (by omega) (by omega) ?_
            refine SWrap.u64z (t) (by omega) (by omega) ?_
            refine SGe.mk (by decide) ?_
            refine SWrap.u64z (t * 4503599627370496) (by show ((t : Nat) : Int) * 4503599627370496 = _; omega) (by omega) ?_
            refine SWrap.u64z (v + t * 4503599627370496) (by omega) (by omega) ?_
            refine SCall.pure (signed_ok (v + t * 4503599627370496) (by omega) neg) ?_
            exact SRet.pure (.tup rfl fun i c d e1 e2 => by
              match i, e1, e2 with
              | 0, e1, e2 => cases e1; cases e2; exact .p _ (.int _ _)
              | 1, e1, e2 => cases e1; cases e2; exact .p _ (.int _ _))
          · refine SCmp.no (decide_eq_false (by omega)) ?_
            have hT0 : v + t * 4503599627370496 = v := by omega
            rw [hT0]
            refine SCall.pure (signed_ok (v) (by omega) neg) ?_
            exact SRet.pure (.tup rfl fun i c d e1 e2 => by
              match i, e1, e2 with
              | 0, e1, e2 => cases e1; cases e2; exact .p _ (.int _ _)
              | 1, e1, e2 => cases e1; cases e2; exact .p _ (.int _ _))
theorem round_pos {neg : Bool} {m : Nat} {e A : Int} {more : Bool} {mode : Int} {v t : Nat} {sm : Bool} {half : Int} (hm : m ≠ 0) (hmb : bitLen m ≤ 262144) (he : -262144 ≤ e ∧ e ≤ 262144) (hA' : A = max ((bitLen m : Int) - 1 + e - 52) (-1074)) (hk : ¬ A - e < 0)
    (hq : m / 2 ^ (A - e).toNat = v)
    (hrest : CallP Try.prog 124 [numP neg m e more, natP (m / 2 ^ (max (A - e) 0).toNat), .int .i64 (A - e)] (.p (partP sm half)) [])
    (ht : A = (t : Int) - 1074) (hv : v < 9007199254740992) (hvt : 4503599627370496 ≤ v ∨ t = 0) (hund : (bitLen m : Int) - 1 + e < -1022 ↔ v + t * 4503599627370496 < 4503599627370496) :
    CallP Try.prog 76 [numP neg m e more, .int .i64 mode] (fpair (out neg (v + t * 4503599627370496) sm half mode)) [] := by
  have hnm := nlen_bitLen m
  have hbl0 : bitLen m ≠ 0 := mt bitLen_zero_iff.1 hm
  refine callG_of_vc (wr := wr0) Γok mixed Try.func76 (by kernel_rfl) rfl (by kernel_rfl) (le_of_ble rfl) (by simp) ?_
  refine SDraw.mk (by kernel_rfl) ?_
  repeat refine SOp.mk _ _ (And.intro rfl rfl) rfl ?_
  refine SOp.mk _ _ (SCall.pure (nbits_ok false m (by omega)) (And.intro rfl rfl)) rfl ?_
  refine SOp.mk _ _ (SWrap.i64z ((bitLen m : Int) - 1) rfl (by omega) (And.intro rfl rfl)) rfl ?_
  repeat refine SOp.mk _ _ (And.intro rfl rfl) rfl ?_
  refine SOp.mk _ _ (SWrap.i64z ((bitLen m : Int) - 1 + e) rfl (by omega) (And.intro rfl rfl)) rfl ?_
  repeat refine SOp.mk _ _ (And.intro rfl rfl) rfl ?_
  refine SWrap.i64z ((bitLen m : Int) - 1 + e - 52) rfl (by omega) ?_
  refine SZ.mk A ((max_ite _ _).trans hA'.symm) ?_
  refine SWrap.i64z (A - e) rfl (by omega) ?_
  refine SZ.mk (((max (A - e) 0).toNat : Nat) : Int) ((max_ite _ _).trans (by omega)) ?_
  refine SCall.pure (fshr_ok false m (max (A - e) 0).toNat (by omega) (by omega)) ?_
  refine SCall.pure (hrest) ?_
  refine SCmp.no (decide_eq_false (by omega)) ?_
  rw [show (max (A - e) 0).toNat = (A - e).toNat by omega, hq]
  refine SCall.pureT (nsmall_ok false v (by omega)) (fun _ => rfl) ?_
  subst ht
  refine SWrap.and v 1 _ rfl rfl (by omega) (by omega) (low1 v) ?_
  have hpar : v % 2 = (v + t * 4503599627370496) % 2 := by omega
  have hup := up_ok sm half mode neg
  have hu : upc neg (v + t * 4503599627370496) sm half mode = if goUp mode neg sm (decide ((v + t * 4503599627370496) % 2 = 1)) half then v + t * 4503599627370496 + 1 else v + t * 4503599627370496 := rfl
  refine SCmp.sym ?_
  obtain ⟨od, hod⟩ : ∃ od, od = (((v % 2 : Nat) : Int) == 1) := ⟨_, rfl⟩
  rw [show decide ((v + t * 4503599627370496) % 2 = 1) = od by
    rw [hod]
    by_cases h : v % 2 = 1
    · rw [decide_eq_true (by omega), eqT (by omega)]
    · rw [decide_eq_false (by omega), eqF (by omega)]] at hu
  rw [← hod]
  refine SCall.pure (hup od) ?_
  refine SCond.mk (fun hg => ?_) (fun hg => ?_)
  · rw [hg, if_pos rfl] at hu
    refine SWrap.u64z (v + 1) (by omega) (by omega) ?_
    by_cases htop : (v + 1) = 9007199254740992
    · refine SCmp.yes (eqT (by omega)) ?_
      refine SWrap.i64z (((t + 1 : Nat) : Int) - 1074) (by omega) (by omega) ?_
      have hupc : upc neg (v + t * 4503599627370496) sm half mode = 4503599627370496 + (t + 1) * 4503599627370496 := by omega
      refine SCmp.yes (decide_eq_true (by omega)) ?_
      refine SWrap.i64z (((t + 1 : Nat) : Int) - 1022) (by omega) (by omega) ?_
      by_cases hT : 2046 ≤ t + 1
      · refine SCmp.yes (decide_eq_true (by omega)) ?_
        rw [out_over (by omega)]
        refine SCall.pureT (beyond_ok neg mode) (fun _ => rfl) ?_
        exact SRet.pure (.tup rfl fun i c d e1 e2 => by
          match i, e1, e2 with
          | 0, e1, e2 => cases e1; cases e2; exact .p _ (.int _ _)
          | 1, e1, e2 => cases e1; cases e2; exact .p _ (.int _ _))
      · refine SCmp.no (decide_eq_false (by omega)) ?_
        rw [out_fin (by omega), hupc]
        refine SCond.mk (fun hsm => ?_) (fun hsm => ?_)
        · by_cases hund0 : (bitLen m : Int) - 1 + e < -1022
          · refine SCmp.yes (decide_eq_true (by omega)) ?_
            refine SWrap.i64z 3 (by decide) (by omega) ?_
            rw [hsm, if_pos rfl, if_pos (hund.1 hund0)]
            by_cases hw2 : 4503599627370496 ≤ 4503599627370496
            · refine SCmp.yes (decide_eq_true (by omega)) ?_
              refine SWrap.i64z (((t + 1) + 1 : Nat) : Int) (by omega) (by omega) ?_
              refine SWrap.i64z (((t + 1) : Nat) : Int) (by omega) (by omega) ?_
              refine SWrap.u64z ((t + 1)) (by omega) (by omega) ?_
              refine SGe.mk (by decide) ?_
              refine SWrap.u64z ((t + 1) * 4503599627370496) (by show (((t + 1) : Nat) : Int) * 4503599627370496 = _; omega) (by omega) ?_
              refine SWrap.u64z (4503599627370496 + (t + 1) * 4503599627370496) (by omega) (by omega) ?_
              refine SCall.pure (signed_ok (4503599627370496 + (t + 1) * 4503599627370496) (by omega) neg) ?_
              exact SRet.pure (.tup rfl fun i c d e1 e2 => by
                match i, e1, e2 with
                | 0, e1, e2 => cases e1; cases e2; exact .p _ (.int _ _)
                | 1, e1, e2 => cases e1; cases e2; exact .p _ (.int _ _))
            · refine SCmp.no (decide_eq_false (by omega)) ?_
              have hT0 : 4503599627370496 + (t + 1) * 4503599627370496 = 4503599627370496 := by omega
              rw [hT0]
              refine SCall.pure (signed_ok (4503599627370496) (by omega) neg) ?_
              exact SRet.pure (.tup rfl fun i c d e1 e2 => by
                match i, e1, e2 with
                | 0, e1, e2 => cases e1; cases e2; exact .p _ (.int _ _)
                | 1, e1, e2 => cases e1; cases e2; exact .p _ (.int _ _))
          · refine SCmp.no (decide_eq_false (by omega)) ?_
            rw [hsm, if_pos rfl, if_neg (mt hund.2 hund0)]
            by_cases hw2 : 4503599627370496 ≤ 4503599627370496
            · refine SCmp.yes (decide_eq_true (by omega)) ?_
              refine SWrap.i64z (((t + 1) + 1 : Nat) : Int) (by omega) (by omega) ?_
              refine SWrap.i64z (((t + 1) : Nat) : Int) (by omega) (by omega) ?_
              refine SWrap.u64z ((t + 1)) (by omega) (by omega) ?_
              refine SGe.mk (by decide) ?_
              refine SWrap.u64z ((t + 1) * 4503599627370496) (by show (((t + 1) : Nat) : Int) * 4503599627370496 = _; omega) (by omega) ?_
              refine SWrap.u64z (4503599627370496 + (t + 1) * 4503599627370496) (by omega) (by omega) ?_
              refine SCall.pure (signed_ok (4503599627370496 + (t + 1) * 4503599627370496) (by omega) neg) ?_
              exact SRet.pure (.tup rfl fun i c d e1 e2 => by
                match i, e1, e2 with
                | 0, e1, e2 => cases e1; cases e2; exact .p _ (.int _ _)
                | 1, e1, e2 => cases e1; cases e2; exact .p _ (.int _ _))
            · refine SCmp.no (decide_eq_false (by omega)) ?_
              have hT0 : 4503599627370496 + (t + 1) * 4503599627370496 = 4503599627370496 := by omega
              rw [hT0]
              refine SCall.pure (signed_ok (4503599627370496) (by omega) neg) ?_
              exact SRet.pure (.tup rfl fun i c d e1 e2 => by
                match i, e1, e2 with
                | 0, e1, e2 => cases e1; cases e2; exact .p _ (.int _ _)
                | 1, e1, e2 => cases e1; cases e2; exact .p _ (.int _ _))
        · rw [hsm, if_neg Bool.false_ne_true]
          by_cases hw2 : 4503599627370496 ≤ 4503599627370496
          · refine SCmp.yes (decide_eq_true (by omega)) ?_
            refine SWrap.i64z (((t + 1) + 1 : Nat) : Int) (by omega) (by omega) ?_
            refine SWrap.i64z (((t + 1) : Nat) : Int) (by omega) (by omega) ?_
            refine SWrap.u64z ((t + 1)) (by omega) (by omega) ?_
            refine SGe.mk (by decide) ?_
            refine SWrap.u64z ((t + 1) * 4503599627370496) (by show (((t + 1) : Nat) : Int) * 4503599627370496 = _; omega) (by omega) ?_
            refine SWrap.u64z (4503599627370496 + (t + 1) * 4503599627370496) (by omega) (by omega) ?_
            refine SCall.pure (signed_ok (4503599627370496 + (t + 1) * 4503599627370496) (by omega) neg) ?_
            exact SRet.pure (.tup rfl fun i c d e1 e2 => by
              match i, e1, e2 with
              | 0, e1, e2 => cases e1; cases e2; exact .p _ (.int _ _)
              | 1, e1, e2 => cases e1; cases e2; exact .p _ (.int _ _))
          · refine SCmp.no (decide_eq_false (by omega)) ?_
            have hT0 : 4503599627370496 + (t + 1) * 4503599627370496 = 4503599627370496 := by omega
            rw [hT0]
            refine SCall.pure (signed_ok (4503599627370496) (by omega) neg) ?_
            exact SRet.pure (.tup rfl fun i c d e1 e2 => by
              match i, e1, e2 with
              | 0, e1, e2 => cases e1; cases e2; exact .p _ (.int _ _)
              | 1, e1, e2 => cases e1; cases e2; exact .p _ (.int _ _))
    · refine SCmp.no (eqF (by omega)) ?_
      have hupc : upc neg (v + t * 4503599627370496) sm half mode = (v + 1) + t * 4503599627370496 := by omega
      by_cases hw : 4503599627370496 ≤ (v + 1)
      · refine SCmp.yes (decide_eq_true (by omega)) ?_
        refine SWrap.i64z ((t : Int) - 1022) (by omega) (by omega) ?_
        by_cases hT : 2046 ≤ t
        · refine SCmp.yes (decide_eq_true (by omega)) ?_
          rw [out_over (by omega)]
          refine SCall.pureT (beyond_ok neg mode) (fun _ => rfl) ?_
          exact SRet.pure (.tup rfl fun i c d e1 e2 => by
            match i, e1, e2 with
            | 0, e1, e2 => cases e1; cases e2; exact .p _ (.int _ _)
            | 1, e1, e2 => cases e1; cases e2; exact .p _ (.int _ _))
        · refine SCmp.no (decide_eq_false (by omega)) ?_
          rw [out_fin (by omega), hupc]
          refine SCond.mk (fun hsm => ?_) (fun hsm => ?_)
          · by_cases hund0 : (bitLen m : Int) - 1 + e < -1022
            · refine SCmp.yes (decide_eq_true (by omega)) ?_
              refine SWrap.i64z 3 (by decide) (by omega) ?_
              rw [hsm, if_pos rfl, if_pos (hund.1 hund0)]
              by_cases hw2 : 4503599627370496 ≤ (v + 1)
              · refine SCmp.yes (decide_eq_true (by omega)) ?_
                refine SWrap.i64z ((t + 1 : Nat) : Int) (by omega) (by omega) ?_
                refine SWrap.i64z ((t : Nat) : Int) (by omega) (by omega) ?_
                refine SWrap.u64z (t) (by omega) (by omega) ?_
                refine SGe.mk (by decide) ?_
                refine SWrap.u64z (t * 4503599627370496) (by show ((t : Nat) : Int) * 4503599627370496 = _; omega) (by omega) ?_
                refine SWrap.u64z ((v + 1) + t * 4503599627370496) (by omega) (by omega) ?_
                refine SCall.pure (signed_ok ((v + 1) + t * 4503599627370496) (by omega) neg) ?_
                exact SRet.pure (.tup rfl fun i c d e1 e2 => by
                  match i, e1, e2 with
                  | 0, e1, e2 => cases e1; cases e2; exact .p _ (.int _ _)
                  | 1, e1, e2 => cases e1; cases e2; exact .p _ (.int _ _))
              · refine SCmp.no (decide_eq_false (by omega)) ?_
                have hT0 : (v + 1) + t * 4503599627370496 = (v + 1) := by omega
                rw [hT0]
                refine SCall.pure (signed_ok ((v + 1)) (by omega) neg) ?_
                exact SRet.pure (.tup rfl fun i c d e1 e2 => by
                  match i, e1, e2 with
                  | 0, e1, e2 => cases e1; cases e2; exact .p _ (.int _ _)
                  | 1, e1, e2 => cases e1; cases e2; exact .p _ (.int _ _))
            · refine SCmp.no (decide_eq_false (by omega)) ?_
              rw [hsm, if_pos rfl, if_neg (mt hund.2 hund0)]
              by_cases hw2 : 4503599627370496 ≤ (v + 1)
              · refine SCmp.yes (decide_eq_true (by omega)) ?_
                refine SWrap.i64z ((t + 1 : Nat) : Int) (by omega) (by omega) ?_
                refine SWrap.i64z ((t : Nat) : Int) (by omega) (by omega) ?_
                refine SWrap.u64z (t) (by omega) (by omega) ?_
                refine SGe.mk (by decide) ?_
                refine SWrap.u64z (t * 4503599627370496) (by show ((t : Nat) : Int) * 4503599627370496 = _; omega) (by omega) ?_
                refine SWrap.u64z ((v + 1) + t * 4503599627370496) (by omega) (by omega) ?_
                refine SCall.pure (signed_ok ((v + 1) + t * 4503599627370496) (by omega) neg) ?_
                exact SRet.pure (.tup rfl fun i c d e1 e2 => by
                  match i, e1, e2 with
                  | 0, e1, e2 => cases e1; cases e2; exact .p _ (.int _ _)
                  | 1, e1, e2 => cases e1; cases e2; exact .p _ (.int _ _))
              · refine SCmp.no (decide_eq_false (by omega)) ?_
                have hT0 : (v + 1) + t * 4503599627370496 = (v + 1) := by omega
                rw [hT0]
                refine SCall.pure (signed_ok ((v + 1)) (by omega) neg) ?_
                exact SRet.pure (.tup rfl fun i c d e1 e2 => by
                  match i, e1, e2 with
                  | 0, e1, e2 => cases e1; cases e2; exact .p _ (.int _ _)
                  | 1, e1, e2 => cases e1; cases e2; exact .p _ (.int _ _))
          · rw [hsm, if_neg Bool.false_ne_true]
            by_cases hw2 : 4503599627370496 ≤ (v + 1)
            · refine SCmp.yes (decide_eq_true (by omega)) ?_
              refine SWrap.i64z ((t + 1 : Nat) : Int) (by omega) (by omega) ?_
              refine SWrap.i64z ((t : Nat) : Int) (by omega) (by omega) ?_
              refine SWrap.u64z (t) (by omega) (by omega) ?_
              refine SGe.mk (by decide) ?_
              refine SWrap.u64z (t * 4503599627370496) (by show ((t : Nat) : Int) * 4503599627370496 = _; omega) (by omega) ?_
              refine SWrap.u64z ((v + 1) + t * 4503599627370496) (by omega) (by omega) ?_
              refine SCall.pure (signed_ok ((v + 1) + t * 4503599627370496) (by omega) neg) ?_
              exact SRet.pure (.tup rfl fun i c d e1 e2 => by
                match i, e1, e2 with
                | 0, e1, e2 => cases e1; cases e2; exact .p _ (.int _ _)
                | 1, e1, e2 => cases e1; cases e2; exact .p _ (.int _ _))
            · refine SCmp.no (decide_eq_false (by omega)) ?_
              have hT0 : (v + 1) + t * 4503599627370496 = (v + 1) := by omega
              rw [hT0]
              refine SCall.pure (signed_ok ((v + 1)) (by omega) neg) ?_
              exact SRet.pure (.tup rfl fun i c d e1 e2 => by
                match i, e1, e2 with
                | 0, e1, e2 => cases e1; cases e2; exact .p _ (.int _ _)
                | 1, e1, e2 => cases e1; cases e2; exact .p _ (.int _ _))
      · refine SCmp.no (decide_eq_false (by omega)) ?_
        rw [out_fin (by omega), hupc]
        refine SCond.mk (fun hsm => ?_) (fun hsm => ?_)
        · by_cases hund0 : (bitLen m : Int) - 1 + e < -1022
          · refine SCmp.yes (decide_eq_true (by omega)) ?_
            refine SWrap.i64z 3 (by decide) (by omega) ?_
            rw [hsm, if_pos rfl, if_pos (hund.1 hund0)]
            by_cases hw2 : 4503599627370496 ≤ (v + 1)
            · refine SCmp.yes (decide_eq_true (by omega)) ?_
              refine SWrap.i64z ((t + 1 : Nat) : Int) (by omega) (by omega) ?_
              refine SWrap.i64z ((t : Nat) : Int) (by omega) (by omega) ?_
              refine SWrap.u64z (t) (by omega) (by omega) ?_
              refine SGe.mk (by decide) ?_
              refine SWrap.u64z (t * 4503599627370496) (by show ((t : Nat) : Int) * 4503599627370496 = _; omega) (by omega) ?_
              refine SWrap.u64z ((v + 1) + t * 4503599627370496) (by omega) (by omega) ?_
              refine SCall.pure (signed_ok ((v + 1) + t * 4503599627370496) (by omega) neg) ?_
              exact SRet.pure (.tup rfl fun i c d e1 e2 => by
                match i, e1, e2 with
                | 0, e1, e2 => cases e1; cases e2; exact .p _ (.int _ _)
                | 1, e1, e2 => cases e1; cases e2; exact .p _ (.int _ _))
            · refine SCmp.no (decide_eq_false (by omega)) ?_
              have hT0 : (v + 1) + t * 4503599627370496 = (v + 1) := by omega
              rw [hT0]
              refine SCall.pure (signed_ok ((v + 1)) (by omega) neg) ?_
              exact SRet.pure (.tup rfl fun i c d e1 e2 => by
                match i, e1, e2 with
                | 0, e1, e2 => cases e1; cases e2; exact .p _ (.int _ _)
                | 1, e1, e2 => cases e1; cases e2; exact .p _ (.int _ _))
          · refine SCmp.no (decide_eq_false (by omega)) ?_
            rw [hsm, if_pos rfl, if_neg (mt hund.2 hund0)]
            by_cases hw2 : 4503599627370496 ≤ (v + 1)
            · refine SCmp.yes (decide_eq_true (by omega)) ?_
              refine SWrap.i64z ((t + 1 : Nat) : Int) (by omega) (by omega) ?_
              refine SWrap.i64z ((t : Nat) : Int) (by omega) (by omega) ?_
              refine SWrap.u64z (t) (by omega) (by omega) ?_
              refine SGe.mk (by decide) ?_
              refine SWrap.u64z (t * 4503599627370496) (by show ((t : Nat) : Int) * 4503599627370496 = _; omega) (by omega) ?_
              refine SWrap.u64z ((v + 1) + t * 4503599627370496) (by omega) (by omega) ?_
              refine SCall.pure (signed_ok ((v + 1) + t * 4503599627370496) (by omega) neg) ?_
              exact SRet.pure (.tup rfl fun i c d e1 e2 => by
                match i, e1, e2 with
                | 0, e1, e2 => cases e1; cases e2; exact .p _ (.int _ _)
                | 1, e1, e2 => cases e1; cases e2; exact .p _ (.int _ _))
            · refine SCmp.no (decide_eq_false (by omega)) ?_
              have hT0 : (v + 1) + t * 4503599627370496 = (v + 1) := by omega
              rw [hT0]
              refine SCall.pure (signed_ok ((v + 1)) (by omega) neg) ?_
              exact SRet.pure (.tup rfl fun i c d e1 e2 => by
                match i, e1, e2 with
                | 0, e1, e2 => cases e1; cases e2; exact .p _ (.int _ _)
                | 1, e1, e2 => cases e1; cases e2; exact .p _ (.int _ _))
        · rw [hsm, if_neg Bool.false_ne_true]
          by_cases hw2 : 4503599627370496 ≤ (v + 1)
          · refine SCmp.yes (decide_eq_true (by omega)) ?_
            refine SWrap.i64z ((t + 1 : Nat) : Int) (by omega) (by omega) ?_
            refine SWrap.i64z ((t : Nat) : Int) (by omega) (by omega) ?_
            refine SWrap.u64z (t) (by omega) (by omega) ?_
            refine SGe.mk (by decide) ?_
            refine SWrap.u64z (t * 4503599627370496) (by show ((t : Nat) : Int) * 4503599627370496 = _; omega) (by omega) ?_
            refine SWrap.u64z ((v + 1) + t * 4503599627370496) (by omega) (by omega) ?_
            refine SCall.pure (signed_ok ((v + 1) + t * 4503599627370496) (by omega) neg) ?_
            exact SRet.pure (.tup rfl fun i c d e1 e2 => by
              match i, e1, e2 with
              | 0, e1, e2 => cases e1; cases e2; exact .p _ (.int _ _)
              | 1, e1, e2 => cases e1; cases e2; exact .p _ (.int _ _))
          · refine SCmp.no (decide_eq_false (by omega)) ?_
            have hT0 : (v + 1) + t * 4503599627370496 = (v + 1) := by omega
            rw [hT0]
            refine SCall.pure (signed_ok ((v + 1)) (by omega) neg) ?_
            exact SRet.pure (.tup rfl fun i c d e1 e2 => by
              match i, e1, e2 with
              | 0, e1, e2 => cases e1; cases e2; exact .p _ (.int _ _)
              | 1, e1, e2 => cases e1; cases e2; exact .p _ (.int _ _))
  · rw [hg, if_neg Bool.false_ne_true] at hu
    by_cases htop : v = 9007199254740992
    · refine SCmp.yes (eqT (by omega)) ?_
      refine SWrap.i64z (((t + 1 : Nat) : Int) - 1074) (by omega) (by omega) ?_
      have hupc : upc neg (v + t * 4503599627370496) sm half mode = 4503599627370496 + (t + 1) * 4503599627370496 := by omega
      refine SCmp.yes (decide_eq_true (by omega)) ?_
      refine SWrap.i64z (((t + 1 : Nat) : Int) - 1022) (by omega) (by omega) ?_
      by_cases hT : 2046 ≤ t + 1
      · refine SCmp.yes (decide_eq_true (by omega)) ?_
        rw [out_over (by omega)]
        refine SCall.pureT (beyond_ok neg mode) (fun _ => rfl) ?_
        exact SRet.pure (.tup rfl fun i c d e1 e2 => by
          match i, e1, e2 with
          | 0, e1, e2 => cases e1; cases e2; exact .p _ (.int _ _)
          | 1, e1, e2 => cases e1; cases e2; exact .p _ (.int _ _))
      · refine SCmp.no (decide_eq_false (by omega)) ?_
        rw [out_fin (by omega), hupc]
        refine SCond.mk (fun hsm => ?_) (fun hsm => ?_)
        · by_cases hund0 : (bitLen m : Int) - 1 + e < -1022
          · refine SCmp.yes (decide_eq_true (by omega)) ?_
            refine SWrap.i64z 3 (by decide) (by omega) ?_
            rw [hsm, if_pos rfl, if_pos (hund.1 hund0)]
            by_cases hw2 : 4503599627370496 ≤ 4503599627370496
            · refine SCmp.yes (decide_eq_true (by omega)) ?_
              refine SWrap.i64z (((t + 1) + 1 : Nat) : Int) (by omega) (by omega) ?_
              refine SWrap.i64z (((t + 1) : Nat) : Int) (by omega) (by omega) ?_
              refine SWrap.u64z ((t + 1)) (by omega) (by omega) ?_
              refine SGe.mk (by decide) ?_
              refine SWrap.u64z ((t + 1) * 4503599627370496) (by show (((t + 1) : Nat) : Int) * 4503599627370496 = _; omega) (by omega) ?_
              refine SWrap.u64z (4503599627370496 + (t + 1) * 4503599627370496) (by omega) (by omega) ?_
              refine SCall.pure (signed_ok (4503599627370496 + (t + 1) * 4503599627370496) (by omega) neg) ?_
              exact SRet.pure (.tup rfl fun i c d e1 e2 => by
                match i, e1, e2 with
                | 0, e1, e2 => cases e1; cases e2; exact .p _ (.int _ _)
                | 1, e1, e2 => cases e1; cases e2; exact .p _ (.int _ _))
            · refine SCmp.no (decide_eq_false (by omega)) ?_
              have hT0 : 4503599627370496 + (t + 1) * 4503599627370496 = 4503599627370496 := by omega
              rw [hT0]
              refine SCall.pure (signed_ok (4503599627370496) (by omega) neg) ?_
              exact SRet.pure (.tup rfl fun i c d e1 e2 => by
                match i, e1, e2 with
                | 0, e1, e2 => cases e1; cases e2; exact .p _ (.int _ _)
                | 1, e1, e2 => cases e1; cases e2; exact .p _ (.int _ _))
          · refine SCmp.no (decide_eq_false (by omega)) ?_
            rw [hsm, if_pos rfl, if_neg (mt hund.2 hund0)]
            by_cases hw2 : 4503599627370496 ≤ 4503599627370496
            · refine SCmp.yes (decide_eq_true (by omega)) ?_
              refine SWrap.i64z (((t + 1) + 1 : Nat) : Int) (by omega) (by omega) ?_
              refine SWrap.i64z (((t + 1) : Nat) : Int) (by omega) (by omega) ?_
              refine SWrap.u64z ((t + 1)) (by omega) (by omega) ?_
              refine SGe.mk (by decide) ?_
              refine SWrap.u64z ((t + 1) * 4503599627370496) (by show (((t + 1) : Nat) : Int) * 4503599627370496 = _; omega) (by omega) ?_
              refine SWrap.u64z (4503599627370496 + (t + 1) * 4503599627370496) (by omega) (by omega) ?_
              refine SCall.pure (signed_ok (4503599627370496 + (t + 1) * 4503599627370496) (by omega) neg) ?_
              exact SRet.pure (.tup rfl fun i c d e1 e2 => by
                match i, e1, e2 with
                | 0, e1, e2 => cases e1; cases e2; exact .p _ (.int _ _)
                | 1, e1, e2 => cases e1; cases e2; exact .p _ (.int _ _))
            · refine SCmp.no (decide_eq_false (by omega)) ?_
              have hT0 : 4503599627370496 + (t + 1) * 4503599627370496 = 4503599627370496 := by omega
              rw [hT0]
              refine SCall.pure (signed_ok (4503599627370496) (by omega) neg) ?_
              exact SRet.pure (.tup rfl fun i c d e1 e2 => by
                match i, e1, e2 with
                | 0, e1, e2 => cases e1; cases e2; exact .p _ (.int _ _)
                | 1, e1, e2 => cases e1; cases e2; exact .p _ (.int _ _))
        · rw [hsm, if_neg Bool.false_ne_true]
          by_cases hw2 : 4503599627370496 ≤ 4503599627370496
          · refine SCmp.yes (decide_eq_true (by omega)) ?_
            refine SWrap.i64z (((t + 1) + 1 : Nat) : Int) (by omega) (by omega) ?_
            refine SWrap.i64z (((t + 1) : Nat) : Int) (by omega) (by omega) ?_
            refine SWrap.u64z ((t + 1)) (by omega) (by omega) ?_
            refine SGe.mk (by decide) ?_
            refine SWrap.u64z ((t + 1) * 4503599627370496) (by show (((t + 1) : Nat) : Int) * 4503599627370496 = _; omega) (by omega) ?_
            refine SWrap.u64z (4503599627370496 + (t + 1) * 4503599627370496) (by omega) (by omega) ?_
            refine SCall.pure (signed_ok (4503599627370496 + (t + 1) * 4503599627370496) (by omega) neg) ?_
            exact SRet.pure (.tup rfl fun i c d e1 e2 => by
              match i, e1, e2 with
              | 0, e1, e2 => cases e1; cases e2; exact .p _ (.int _ _)
              | 1, e1, e2 => cases e1; cases e2; exact .p _ (.int _ _))
          · refine SCmp.no (decide_eq_false (by omega)) ?_
            have hT0 : 4503599627370496 + (t + 1) * 4503599627370496 = 4503599627370496 := by omega
            rw [hT0]
            refine SCall.pure (signed_ok (4503599627370496) (by omega) neg) ?_
            exact SRet.pure (.tup rfl fun i c d e1 e2 => by
              match i, e1, e2 with
              | 0, e1, e2 => cases e1; cases e2; exact .p _ (.int _ _)
              | 1, e1, e2 => cases e1; cases e2; exact .p _ (.int _ _))
    · refine SCmp.no (eqF (by omega)) ?_
      have hupc : upc neg (v + t * 4503599627370496) sm half mode = v + t * 4503599627370496 := by omega
      by_cases hw : 4503599627370496 ≤ v
      · refine SCmp.yes (decide_eq_true (by omega)) ?_
        refine SWrap.i64z ((t : Int) - 1022) (by omega) (by omega) ?_
        by_cases hT : 2046 ≤ t
        · refine SCmp.yes (decide_eq_true (by omega)) ?_
          rw [out_over (by omega)]
          refine SCall.pureT (beyond_ok neg mode) (fun _ => rfl) ?_
          exact SRet.pure (.tup rfl fun i c d e1 e2 => by
            match i, e1, e2 with
            | 0, e1, e2 => cases e1; cases e2; exact .p _ (.int _ _)
            | 1, e1, e2 => cases e1; cases e2; exact .p _ (.int _ _))
        · refine SCmp.no (decide_eq_false (by omega)) ?_
          rw [out_fin (by omega), hupc]
          refine SCond.mk (fun hsm => ?_) (fun hsm => ?_)
          · by_cases hund0 : (bitLen m : Int) - 1 + e < -1022
            · refine SCmp.yes (decide_eq_true (by omega)) ?_
              refine SWrap.i64z 3 (by decide) (by omega) ?_
              rw [hsm, if_pos rfl, if_pos (hund.1 hund0)]
              by_cases hw2 : 4503599627370496 ≤ v
              · refine SCmp.yes (decide_eq_true (by omega)) ?_
                refine SWrap.i64z ((t + 1 : Nat) : Int) (by omega) (by omega) ?_
                refine SWrap.i64z ((t : Nat) : Int) (by omega) (by omega) ?_
                refine SWrap.u64z (t) (by omega) (by omega) ?_
                refine SGe.mk (by decide) ?_
                refine SWrap.u64z (t * 4503599627370496) (by show ((t : Nat) : Int) * 4503599627370496 = _; omega) (by omega) ?_
                refine SWrap.u64z (v + t * 4503599627370496) (by omega) (by omega) ?_
                refine SCall.pure (signed_ok (v + t * 4503599627370496) (by omega) neg) ?_
                exact SRet.pure (.tup rfl fun i c d e1 e2 => by
                  match i, e1, e2 with
                  | 0, e1, e2 => cases e1; cases e2; exact .p _ (.int _ _)
                  | 1, e1, e2 => cases e1; cases e2; exact .p _ (.int _ _))
              · refine SCmp.no (decide_eq_false (by omega)) ?_
                have hT0 : v + t * 4503599627370496 = v := by omega
                rw [hT0]
                refine SCall.pure (signed_ok (v) (by omega) neg) ?_
                exact SRet.pure (.tup rfl fun i c d e1 e2 => by
                  match i, e1, e2 with
                  | 0, e1, e2 => cases e1; cases e2; exact .p _ (.int _ _)
                  | 1, e1, e2 => cases e1; cases e2; exact .p _ (.int _ _))
            · refine SCmp.no (decide_eq_false (by omega)) ?_
              rw [hsm, if_pos rfl, if_neg (mt hund.2 hund0)]
              by_cases hw2 : 4503599627370496 ≤ v
              · refine SCmp.yes (decide_eq_true (by omega)) ?_
                refine SWrap.i64z ((t + 1 : Nat) : Int) (by omega) (by omega) ?_
                refine SWrap.i64z ((t : Nat) : Int) (by omega) (by omega) ?_
                refine SWrap.u64z (t) (by omega) (by omega) ?_
                refine SGe.mk (by decide) ?_
                refine SWrap.u64z (t * 4503599627370496) (by show ((t : Nat) : Int) * 4503599627370496 = _; omega) (by omega) ?_
                refine SWrap.u64z (v + t * 4503599627370496) (by omega) (by omega) ?_
                refine SCall.pure (signed_ok (v + t * 4503599627370496) (by omega) neg) ?_
                exact SRet.pure (.tup rfl fun i c d e1 e2 => by
                  match i, e1, e2 with
                  | 0, e1, e2 => cases e1; cases e2; exact .p _ (.int _ _)
                  | 1, e1, e2 => cases e1; cases e2; exact .p _ (.int _ _))
              · refine SCmp.no (decide_eq_false (by omega)) ?_
                have hT0 : v + t * 4503599627370496 = v := by omega
                rw [hT0]
                refine SCall.pure (signed_ok (v) (by omega) neg) ?_
                exact SRet.pure (.tup rfl fun i c d e1 e2 => by
                  match i, e1, e2 with
                  | 0, e1, e2 => cases e1; cases e2; exact .p _ (.int _ _)
                  | 1, e1, e2 => cases e1; cases e2; exact .p _ (.int _ _))
          · rw [hsm, if_neg Bool.false_ne_true]
            by_cases hw2 : 4503599627370496 ≤ v
            · refine SCmp.yes (decide_eq_true (by omega)) ?_
              refine SWrap.i64z ((t + 1 : Nat) : Int) (by omega) (by omega) ?_
              refine SWrap.i64z ((t : Nat) : Int) (by omega) (by omega) ?_
              refine SWrap.u64z (t) (by omega) (by omega) ?_
              refine SGe.mk (by decide) ?_
              refine SWrap.u64z (t * 4503599627370496) (by show ((t : Nat) : Int) * 4503599627370496 = _; omega) (by omega) ?_
              refine SWrap.u64z (v + t * 4503599627370496) (by omega) (by omega) ?_
              refine SCall.pure (signed_ok (v + t * 4503599627370496) (by omega) neg) ?_
              exact SRet.pure (.tup rfl fun i c d e1 e2 => by
                match i, e1, e2 with
                | 0, e1, e2 => cases e1; cases e2; exact .p _ (.int _ _)
                | 1, e1, e2 => cases e1; cases e2; exact .p _ (.int _ _))
            · refine SCmp.no (decide_eq_false (by omega)) ?_
              have hT0 : v + t * 4503599627370496 = v := by omega
              rw [hT0]
              refine SCall.pure (signed_ok (v) (by omega) neg) ?_
              exact SRet.pure (.tup rfl fun i c d e1 e2 => by
                match i, e1, e2 with
                | 0, e1, e2 => cases e1; cases e2; exact .p _ (.int _ _)
                | 1, e1, e2 => cases e1; cases e2; exact .p _ (.int _ _))
      · refine SCmp.no (decide_eq_false (by omega)) ?_
        rw [out_fin (by omega), hupc]
        refine SCond.mk (fun hsm => ?_) (fun hsm => ?_)
        · by_cases hund0 : (bitLen m : Int) - 1 + e < -1022
          · refine SCmp.yes (decide_eq_true (by omega)) ?_
            refine SWrap.i64z 3 (by decide) (by omega) ?_
            rw [hsm, if_pos rfl, if_pos (hund.1 hund0)]
            by_cases hw2 : 4503599627370496 ≤ v
            · refine SCmp.yes (decide_eq_true (by omega)) ?_
              refine SWrap.i64z ((t + 1 : Nat) : Int) (by omega) (by omega) ?_
              refine SWrap.i64z ((t : Nat) : Int) (by omega) (by omega) ?_
              refine SWrap.u64z (t) (by omega) (by omega) ?_
              refine SGe.mk (by decide) ?_
              refine SWrap.u64z (t * 4503599627370496) (by show ((t : Nat) : Int) * 4503599627370496 = _; omega) (by omega) ?_
              refine SWrap.u64z (v + t * 4503599627370496) (by omega) (by omega) ?_
              refine SCall.pure (signed_ok (v + t * 4503599627370496) (by omega) neg) ?_
              exact SRet.pure (.tup rfl fun i c d e1 e2 => by
                match i, e1, e2 with
                | 0, e1, e2 => cases e1; cases e2; exact .p _ (.int _ _)
                | 1, e1, e2 => cases e1; cases e2; exact .p _ (.int _ _))
            · refine SCmp.no (decide_eq_false (by omega)) ?_
              have hT0 : v + t * 4503599627370496 = v := by omega
              rw [hT0]
              refine SCall.pure (signed_ok (v) (by omega) neg) ?_
              exact SRet.pure (.tup rfl fun i c d e1 e2 => by
                match i, e1, e2 with
                | 0, e1, e2 => cases e1; cases e2; exact .p _ (.int _ _)
                | 1, e1, e2 => cases e1; cases e2; exact .p _ (.int _ _))
          · refine SCmp.no (decide_eq_false (by omega)) ?_
            rw [hsm, if_pos rfl, if_neg (mt hund.2 hund0)]
            by_cases hw2 : 4503599627370496 ≤ v
            · refine SCmp.yes (decide_eq_true (by omega)) ?_
              refine SWrap.i64z ((t + 1 : Nat) : Int) (by omega) (by omega) ?_
              refine SWrap.i64z ((t : Nat) : Int) (by omega) (by omega) ?_
              refine SWrap.u64z (t) (by omega) (by omega) ?_
              refine SGe.mk (by decide) ?_
              refine SWrap.u64z (t * 4503599627370496) (by show ((t : Nat) : Int) * 4503599627370496 = _; omega) (by omega) ?_
              refine SWrap.u64z (v + t * 4503599627370496) (by omega) (by omega) ?_
              refine SCall.pure (signed_ok (v + t * 4503599627370496) (by omega) neg) ?_
              exact SRet.pure (.tup rfl fun i c d e1 e2 => by
                match i, e1, e2 with
                | 0, e1, e2 => cases e1; cases e2; exact .p _ (.int _ _)
                | 1, e1, e2 => cases e1; cases e2; exact .p _ (.int _ _))
            · refine SCmp.no (decide_eq_false (by omega)) ?_
              have hT0 : v + t * 4503599627370496 = v := by omega
              rw [hT0]
              refine SCall.pure (signed_ok (v) (by omega) neg) ?_
              exact SRet.pure (.tup rfl fun i c d e1 e2 => by
                match i, e1, e2 with
                | 0, e1, e2 => cases e1; cases e2; exact .p _ (.int _ _)
                | 1, e1, e2 => cases e1; cases e2; exact .p _ (.int _ _))
        · rw [hsm, if_neg Bool.false_ne_true]
          by_cases hw2 : 4503599627370496 ≤ v
          · refine SCmp.yes (decide_eq_true (by omega)) ?_
            refine SWrap.i64z ((t + 1 : Nat) : Int) (by omega) (by omega) ?_
            refine SWrap.i64z ((t : Nat) : Int) (by omega) (by omega) ?_
            refine SWrap.u64z (t) (by omega) (by omega) ?_
            refine SGe.mk (by decide) ?_
            refine SWrap.u64z (t * 4503599627370496) (by show ((t : Nat) : Int) * 4503599627370496 = _; omega) (by omega) ?_
            refine SWrap.u64z (v + t * 4503599627370496) (by omega) (by omega) ?_
            refine SCall.pure (signed_ok (v + t * 4503599627370496) (by omega) neg) ?_
            exact SRet.pure (.tup rfl fun i c d e1 e2 => by
              match i, e1, e2 with
              | 0, e1, e2 => cases e1; cases e2; exact .p _ (.int _ _)
              | 1, e1, e2 => cases e1; cases e2; exact .p _ (.int _ _))
          · refine SCmp.no (decide_eq_false (by omega)) ?_
            have hT0 : v + t * 4503599627370496 = v := by omega
            rw [hT0]
            refine SCall.pure (signed_ok (v) (by omega) neg) ?_
            exact SRet.pure (.tup rfl fun i c d e1 e2 => by
              match i, e1, e2 with
              | 0, e1, e2 => cases e1; cases e2; exact .p _ (.int _ _)
              | 1, e1, e2 => cases e1; cases e2; exact .p _ (.int _ _))

theorem round_ok (neg : Bool) (m : Nat) (e : Int) (more : Bool) (mode : Int) {X : Rat} (hm : m ≠ 0) (hmb : bitLen m ≤ 262144) (he : -262144 ≤ e ∧ e ≤ 262144) (h1 : (m : Rat) * p2 e ≤ X) (h2 : X < ((m : Rat) + 1) * p2 e)
    (hmore : more = decide (X ≠ (m : Rat) * p2 e)) (hbig : more = true → 54 ≤ bitLen m) :
    CallP Try.prog 76 [numP neg m e more, .int .i64 mode] (fpair (rndQ neg X mode)) [] := by
  have hnm := nlen_bitLen m
  have hbl0 : bitLen m ≠ 0 := mt bitLen_zero_iff.1 hm
  obtain ⟨A, hA⟩ : ∃ A, A = ulpOf m e := ⟨_, rfl⟩
  have hA' := hA
  rw [ulpOf] at hA'
  obtain ⟨v, t, sm, half, hq, hrest, ht, hv, hvt, hcut, hund⟩ : ∃ (v t : Nat) (sm : Bool) (half : Int), (if A - e < 0 then m * 2 ^ (e - A).toNat else m / 2 ^ (A - e).toNat) = v ∧
      CallP Try.prog 124 [numP neg m e more, natP (m / 2 ^ (max (A - e) 0).toNat), .int .i64 (A - e)] (.p (partP sm half)) [] ∧
      A = (t : Int) - 1074 ∧ v < 9007199254740992 ∧ (4503599627370496 ≤ v ∨ t = 0) ∧ Cut X (v + t * 4503599627370496) sm half ∧ ((bitLen m : Int) - 1 + e < -1022 ↔ v + t * 4503599627370496 < 4503599627370496) := by
    rcases Int.lt_or_le e A with h | h
    · obtain ⟨v, t, e1, e2, e3, e4, e5, e6⟩ := cut_more (k := (A - e).toNat) hm (by rw [← hA]; exact h) h1 h2 hmore (by rw [hA])
      refine ⟨v, t, _, _, ?_, ?_, by rw [hA]; exact e2, e3, e4, e5, e6⟩
      · rw [if_neg (by omega)]; exact e1.symm
      · have := rest_ok false neg m e (A - e).toNat more (by omega) (by omega) (by omega)
        rw [show ((A - e).toNat : Int) = A - e by omega] at this
        rw [show (max (A - e) 0).toNat = (A - e).toNat by omega]
        exact this
    · have hmr : more = false := by
        cases more with
        | false => rfl
        | true => have := hbig rfl; omega
      have hX : X = (m : Rat) * p2 e := by rw [hmr] at hmore; exact Classical.not_not.1 (of_decide_eq_false hmore.symm)
      obtain ⟨v, t, e1, e2, e3, e4, e5, e6⟩ := cut_exact hm (by rw [← hA]; exact h)
      rw [← hX] at e5
      refine ⟨v, t, _, _, ?_, ?_, by rw [hA]; exact e2, e3, e4, e5, e6⟩
      · rcases Int.lt_or_le (A - e) 0 with h3 | h3
        · rw [if_pos h3, e1, hA]
        · rw [if_neg (by omega), e1, ← hA, show (A - e).toNat = 0 by omega, show (e - A).toNat = 0 by omega]; simp
      · have := rest0_ok false neg m (m / 2 ^ (max (A - e) 0).toNat) e (A - e) more (by omega)
        rw [hmr] at this ⊢
        exact this
  rw [← hcut.out]
  by_cases hk : A - e < 0
  · exact round_neg hm hmb he hA' hk (by rw [if_pos hk] at hq; exact hq) hrest ht hv hvt hund
  · exact round_pos hm hmb he hA' hk (by rw [if_neg hk] at hq; exact hq) hrest ht hv hvt hund
end Go.Proofs.Ytjcmiedpgabdbaa
