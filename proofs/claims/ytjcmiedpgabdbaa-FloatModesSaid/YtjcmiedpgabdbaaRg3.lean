/- The document's floats: Sqrt. -/
import Derived.Test.YtjcmiedpgabdbaaRg2
namespace Go.Proofs.Ytjcmiedpgabdbaa
open Go
set_option linter.unusedVariables false
set_option linter.unusedSimpArgs false
set_option maxRecDepth 10000

theorem rfsqrt_ok (f : Nat) (mode : Int) (hf : f < 18446744073709551616) : CallP Try.prog 58 [.int .u64 f, .int .i64 mode] (fpair (sqrtF f mode)) [] := by
  refine callG_of_vc (wr := wr0) Γok mixed Try.func58 (by kernel_rfl) rfl (by kernel_rfl) (le_of_ble rfl) (by simp) ?_
  unfold sqrtF
  cases hn : isNan f with
  | true =>
    refine SCall.pure (rnone_ok f hf _ hn) ?_
    refine SCond.mk (fun _ => ?_) (fun h => by cases h)
    rw [if_pos rfl]
    exact SRet.pure (.tup rfl fun i c d e1 e2 => by
      match i, e1, e2 with
      | 0, e1, e2 => cases e1; cases e2; exact .p _ (.int _ _)
      | 1, e1, e2 => cases e1; cases e2; exact .p _ (.int _ _))
  | false =>
    refine SCall.pure (rnone_ok f hf _ hn) ?_
    refine SCond.mk (fun h => by cases h) (fun _ => ?_)
    rw [if_neg Bool.false_ne_true]
    cases hz : isZ f with
    | true =>
      refine SCall.pure (rnought3_ok f hf _ hz) ?_
      refine SCond.mk (fun _ => ?_) (fun h => by cases h)
      rw [if_pos rfl]
      exact SRet.pure (.tup rfl fun i c d e1 e2 => by
        match i, e1, e2 with
        | 0, e1, e2 => cases e1; cases e2; exact .p _ (.int _ _)
        | 1, e1, e2 => cases e1; cases e2; exact .p _ (.int _ _))
    | false =>
      refine SCall.pure (rnought3_ok f hf _ hz) ?_
      refine SCond.mk (fun h => by cases h) (fun _ => ?_)
      rw [if_neg Bool.false_ne_true]
      cases hs : ngt f with
      | true =>
        refine SCall.pure (rminus_ok f hf _ hs) ?_
        refine SCond.mk (fun _ => ?_) (fun h => by cases h)
        rw [if_pos rfl]
        exact SRet.pure (.tup rfl fun i c d e1 e2 => by
          match i, e1, e2 with
          | 0, e1, e2 => cases e1; cases e2; exact .p _ (.int _ _)
          | 1, e1, e2 => cases e1; cases e2; exact .p _ (.int _ _))
      | false =>
        refine SCall.pure (rminus_ok f hf _ hs) ?_
        refine SCond.mk (fun h => by cases h) (fun _ => ?_)
        rw [if_neg Bool.false_ne_true]
        cases hi : isInf f with
        | true =>
          refine SCall.pure (rendless_ok f hf _ hi) ?_
          refine SCond.mk (fun _ => ?_) (fun h => by cases h)
          rw [if_pos rfl]
          exact SRet.pure (.tup rfl fun i c d e1 e2 => by
            match i, e1, e2 with
            | 0, e1, e2 => cases e1; cases e2; exact .p _ (.int _ _)
            | 1, e1, e2 => cases e1; cases e2; exact .p _ (.int _ _))
        | false =>
          refine SCall.pure (rendless_ok f hf _ hi) ?_
          refine SCond.mk (fun h => by cases h) (fun _ => ?_)
          rw [if_neg Bool.false_ne_true]
          have hm : fsig (mag f) ≠ 0 := fun h => by have := isZ_iff.2 (fsig_zero.1 h); rw [this] at hz; cases hz
          have hb0 : bitLen (fsig (mag f)) ≠ 0 := mt bitLen_zero_iff.1 hm
          have e1 := fexp_le (mag_lt f)
          have e2 := fexp_ge (mag f)
          have e3 := fsig_bits (mag f)
          have e4 := fsig_lt (mag f)
          have n3 := nlen_bitLen (fsig (mag f))
          rw [fvq_sval, hs, sval, if_neg Bool.false_ne_true]
          refine SCall.pureT (rparts_ok f hf) (fun _ => rfl) ?_
          refine SCall.pure (rof_ok (fsig (mag f)) (by omega)) ?_
          refine SCall.pure (rbits_ok false (fsig (mag f)) (by omega)) ?_
          refine SWrap.i64z ((bitLen (fsig (mag f)) : Int) - 1) rfl (by omega) ?_
          refine SWrap.i64z ((bitLen (fsig (mag f)) : Int) - 1 + fexp (mag f)) rfl (by omega) ?_
          refine SNe.mk (by decide) ?_
          refine SZ.mk _ rfl ?_
          obtain ⟨p0, hp0⟩ : ∃ p0, p0 = (bitLen (fsig (mag f)) : Int) - 1 + fexp (mag f) := ⟨_, rfl⟩
          rw [← hp0]
          by_cases hpar : p0 % 2 = 0
          · obtain ⟨h, hh⟩ : ∃ h : Int, p0 = h + h := ⟨p0 / 2, by omega⟩
            refine SCmp.no (neF (Int.tmod_eq_zero_of_dvd (Int.dvd_of_emod_eq_zero hpar))) ?_
            have hp : p0 = (bitLen (fsig (mag f)) : Int) - 1 + fexp (mag f) ∨ p0 = (bitLen (fsig (mag f)) : Int) - 1 + fexp (mag f) - 1 := .inl hp0
            obtain ⟨x, hx⟩ : ∃ x, x = fsig (mag f) * 2 ^ (fexp (mag f) - 2 * (h - 52)).toNat := ⟨_, rfl⟩
            obtain ⟨x1, x2, x3⟩ := even_bits hm e3 hp hh
            rw [← hx] at x1 x2
            obtain ⟨t, ht⟩ : ∃ t : Nat, h - 52 = (t : Int) - 1074 := ⟨(h - 52 + 1074).toNat, by omega⟩
            obtain ⟨v, hv⟩ := exists_sq x
            obtain ⟨v1, v2, v3⟩ := sq_ref (h := 0) hm hx x3 x1 x2 hv ht mode
            rw [v3]
            have bx : bitLen x ≤ 106 := bitLen_le x2
            have nx := nlen_bitLen x
            have bv : bitLen v ≤ 53 := bitLen_le v2
            have nv := nlen_bitLen v
            refine SNe.mk (by decide) ?_
            refine SWrap.i64z h (by rw [hh]; exact tdiv2 h) (by omega) ?_
            refine SWrap.i64z (h - 52) rfl (by omega) ?_
            refine SCall.pure (rof_ok (fsig (mag f)) (by omega)) ?_
            refine SWrap.i64z (2 * (h - 52)) rfl (by omega) ?_
            refine SWrap.i64z (((fexp (mag f) - 2 * (h - 52)).toNat : Nat) : Int) (by omega) (by omega) ?_
            refine SCall.pure (rshl_ok false (fsig (mag f)) (fexp (mag f) - 2 * (h - 52)).toNat (by omega) (by omega)) ?_
            rw [← hx]
            refine SCall.pure (rroot_ok false x v (by omega) hv) ?_
            refine SCall.pureT (rsmall_ok false v (by omega)) (fun _ => rfl) ?_
            refine SCall.pure (rmul_ok false false v v (by omega) (by omega)) ?_
            have nvv := nlen_mul v v
            refine SCall.pure (rcmp_ok false false (v * v) x (by omega) (by omega)) ?_
            by_cases hvx : v * v = x
            · have hcz : cmpZ (v * v) x = 0 := by unfold cmpZ; rw [if_neg (by omega), if_pos hvx]
              refine SCmp.no (neF hcz) ?_
              rw [out_sq (w := v) v1 (by rw [if_neg fun h => h.1 hvx]), show (if v * v ≠ x then (1 : Int) else 0) = 0 from if_neg fun h => h hvx]
              have hpk := pack_ok false (v) t mode 0 (by omega) (by omega) (by omega)
              rw [← ht] at hpk
              refine SCall.pureT (hpk) (fun _ => rfl) ?_
              exact SRet.pure (.tup rfl fun i c d e1 e2 => by
                match i, e1, e2 with
                | 0, e1, e2 => cases e1; cases e2; exact .p _ (.int _ _)
                | 1, e1, e2 => cases e1; cases e2; exact .p _ (.int _ _))
            · have hcz : cmpZ (v * v) x ≠ 0 := by unfold cmpZ; rw [if_pos (by have := hv.1; omega)]; decide
              refine SCmp.yes (neT hcz) ?_
              have n1 := nlen_shl v 1
              have n2 := nlen_le (n := 1) (k := 1) (by decide)
              have n3 := nlen_add (v * 2 ^ 1) 1
              rw [Nat.pow_one] at n1 n3
              have hs1 := rshl_ok false v 1 (by omega) (by omega)
              rw [Nat.pow_one] at hs1
              refine SCall.pure (hs1) ?_
              refine SCall.pure (rof_ok 1 (by omega)) ?_
              refine SCall.pure (radd_ok false false (v * 2) 1 (by omega) (by omega)) ?_
              have n4 := nlen_shl x 2
              have hs2 := rshl_ok false x 2 (by omega) (by omega)
              rw [show (2 : Nat) ^ 2 = 4 from rfl] at hs2 n4
              refine SCall.pure (hs2) ?_
              have n5 := nlen_mul (v * 2 + 1) (v * 2 + 1)
              refine SCall.pure (rmul_ok false false (v * 2 + 1) (v * 2 + 1) (by omega) (by omega)) ?_
              refine SCall.pure (rcmp_ok false false (x * 4) ((v * 2 + 1) * (v * 2 + 1)) (by omega) (by omega)) ?_
              refine SNe.mk (by decide) ?_
              refine SZ.mk ((v % 2 : Nat) : Int) ((Int.tmod_eq_emod_of_nonneg (Int.natCast_nonneg v)).trans rfl) ?_
              have hup : ∀ b : Bool, goUp mode false true (((v % 2 : Nat) : Int) == 1) (cmpZ (x * 4) ((v * 2 + 1) * (v * 2 + 1))) = b → (if 9218868437227405312 ≤ (if b then v + 1 else v) + t * 4503599627370496 then (sg false (lim false mode), (5 : Int)) else (sg false ((if b then v + 1 else v) + t * 4503599627370496), 1)) = out false (v + t * 4503599627370496) (decide (v * v ≠ x)) (cmpZ (x * 4) ((v * 2 + 1) * (v * 2 + 1))) mode := fun b hb => by
                rw [show (((v % 2 : Nat) : Int) == 1) = decide (v % 2 = 1) by
                  by_cases h : v % 2 = 1
                  · rw [decide_eq_true h, eqT (by omega)]
                  · rw [decide_eq_false h, eqF (by omega)]] at hb
                rw [out_sq (w := if b then v + 1 else v) v1 ?_, if_pos hvx]
                cases b with
                | true => rw [if_pos rfl, if_pos ⟨hvx, hb⟩]
                | false => rw [if_neg Bool.false_ne_true, if_neg fun h => by rw [hb] at h; exact Bool.false_ne_true h.2]
              refine SCmp.sym ?_
              refine SCall.pure (rup_ok false (cmpZ (x * 4) ((v * 2 + 1) * (v * 2 + 1))) (((v % 2 : Nat) : Int) == 1) mode) ?_
              refine SCond.mk (fun hg => ?_) (fun hg => ?_)
              · rw [← hup _ hg, if_pos rfl]
                refine SWrap.u64z (v + 1) (by omega) (by omega) ?_
                have hpk := pack_ok false ((v + 1)) t mode 1 (by omega) (by omega) (by omega)
                rw [← ht] at hpk
                refine SCall.pureT (hpk) (fun _ => rfl) ?_
                exact SRet.pure (.tup rfl fun i c d e1 e2 => by
                  match i, e1, e2 with
                  | 0, e1, e2 => cases e1; cases e2; exact .p _ (.int _ _)
                  | 1, e1, e2 => cases e1; cases e2; exact .p _ (.int _ _))
              · rw [← hup _ hg, if_neg Bool.false_ne_true]
                have hpk := pack_ok false (v) t mode 1 (by omega) (by omega) (by omega)
                rw [← ht] at hpk
                refine SCall.pureT (hpk) (fun _ => rfl) ?_
                exact SRet.pure (.tup rfl fun i c d e1 e2 => by
                  match i, e1, e2 with
                  | 0, e1, e2 => cases e1; cases e2; exact .p _ (.int _ _)
                  | 1, e1, e2 => cases e1; cases e2; exact .p _ (.int _ _))
          · have hnz : p0.tmod 2 ≠ 0 := fun h => hpar (Int.emod_eq_zero_of_dvd (Int.dvd_of_tmod_eq_zero h))
            refine SCmp.yes (neT hnz) ?_
            refine SWrap.i64z (p0 - 1) rfl (by omega) ?_
            obtain ⟨p, hpp⟩ : ∃ p, p = p0 - 1 := ⟨_, rfl⟩
            rw [← hpp]
            obtain ⟨h, hh⟩ : ∃ h : Int, p = h + h := ⟨p / 2, by omega⟩
            have hp : p = (bitLen (fsig (mag f)) : Int) - 1 + fexp (mag f) ∨ p = (bitLen (fsig (mag f)) : Int) - 1 + fexp (mag f) - 1 := .inr (by omega)
            obtain ⟨x, hx⟩ : ∃ x, x = fsig (mag f) * 2 ^ (fexp (mag f) - 2 * (h - 52)).toNat := ⟨_, rfl⟩
            obtain ⟨x1, x2, x3⟩ := even_bits hm e3 hp hh
            rw [← hx] at x1 x2
            obtain ⟨t, ht⟩ : ∃ t : Nat, h - 52 = (t : Int) - 1074 := ⟨(h - 52 + 1074).toNat, by omega⟩
            obtain ⟨v, hv⟩ := exists_sq x
            obtain ⟨v1, v2, v3⟩ := sq_ref (h := 0) hm hx x3 x1 x2 hv ht mode
            rw [v3]
            have bx : bitLen x ≤ 106 := bitLen_le x2
            have nx := nlen_bitLen x
            have bv : bitLen v ≤ 53 := bitLen_le v2
            have nv := nlen_bitLen v
            refine SNe.mk (by decide) ?_
            refine SWrap.i64z h (by rw [hh]; exact tdiv2 h) (by omega) ?_
            refine SWrap.i64z (h - 52) rfl (by omega) ?_
            refine SCall.pure (rof_ok (fsig (mag f)) (by omega)) ?_
            refine SWrap.i64z (2 * (h - 52)) rfl (by omega) ?_
            refine SWrap.i64z (((fexp (mag f) - 2 * (h - 52)).toNat : Nat) : Int) (by omega) (by omega) ?_
            refine SCall.pure (rshl_ok false (fsig (mag f)) (fexp (mag f) - 2 * (h - 52)).toNat (by omega) (by omega)) ?_
            rw [← hx]
            refine SCall.pure (rroot_ok false x v (by omega) hv) ?_
            refine SCall.pureT (rsmall_ok false v (by omega)) (fun _ => rfl) ?_
            refine SCall.pure (rmul_ok false false v v (by omega) (by omega)) ?_
            have nvv := nlen_mul v v
            refine SCall.pure (rcmp_ok false false (v * v) x (by omega) (by omega)) ?_
            by_cases hvx : v * v = x
            · have hcz : cmpZ (v * v) x = 0 := by unfold cmpZ; rw [if_neg (by omega), if_pos hvx]
              refine SCmp.no (neF hcz) ?_
              rw [out_sq (w := v) v1 (by rw [if_neg fun h => h.1 hvx]), show (if v * v ≠ x then (1 : Int) else 0) = 0 from if_neg fun h => h hvx]
              have hpk := pack_ok false (v) t mode 0 (by omega) (by omega) (by omega)
              rw [← ht] at hpk
              refine SCall.pureT (hpk) (fun _ => rfl) ?_
              exact SRet.pure (.tup rfl fun i c d e1 e2 => by
                match i, e1, e2 with
                | 0, e1, e2 => cases e1; cases e2; exact .p _ (.int _ _)
                | 1, e1, e2 => cases e1; cases e2; exact .p _ (.int _ _))
            · have hcz : cmpZ (v * v) x ≠ 0 := by unfold cmpZ; rw [if_pos (by have := hv.1; omega)]; decide
              refine SCmp.yes (neT hcz) ?_
              have n1 := nlen_shl v 1
              have n2 := nlen_le (n := 1) (k := 1) (by decide)
              have n3 := nlen_add (v * 2 ^ 1) 1
              rw [Nat.pow_one] at n1 n3
              have hs1 := rshl_ok false v 1 (by omega) (by omega)
              rw [Nat.pow_one] at hs1
              refine SCall.pure (hs1) ?_
              refine SCall.pure (rof_ok 1 (by omega)) ?_
              refine SCall.pure (radd_ok false false (v * 2) 1 (by omega) (by omega)) ?_
              have n4 := nlen_shl x 2
              have hs2 := rshl_ok false x 2 (by omega) (by omega)
              rw [show (2 : Nat) ^ 2 = 4 from rfl] at hs2 n4
              refine SCall.pure (hs2) ?_
              have n5 := nlen_mul (v * 2 + 1) (v * 2 + 1)
              refine SCall.pure (rmul_ok false false (v * 2 + 1) (v * 2 + 1) (by omega) (by omega)) ?_
              refine SCall.pure (rcmp_ok false false (x * 4) ((v * 2 + 1) * (v * 2 + 1)) (by omega) (by omega)) ?_
              refine SNe.mk (by decide) ?_
              refine SZ.mk ((v % 2 : Nat) : Int) ((Int.tmod_eq_emod_of_nonneg (Int.natCast_nonneg v)).trans rfl) ?_
              have hup : ∀ b : Bool, goUp mode false true (((v % 2 : Nat) : Int) == 1) (cmpZ (x * 4) ((v * 2 + 1) * (v * 2 + 1))) = b → (if 9218868437227405312 ≤ (if b then v + 1 else v) + t * 4503599627370496 then (sg false (lim false mode), (5 : Int)) else (sg false ((if b then v + 1 else v) + t * 4503599627370496), 1)) = out false (v + t * 4503599627370496) (decide (v * v ≠ x)) (cmpZ (x * 4) ((v * 2 + 1) * (v * 2 + 1))) mode := fun b hb => by
                rw [show (((v % 2 : Nat) : Int) == 1) = decide (v % 2 = 1) by
                  by_cases h : v % 2 = 1
                  · rw [decide_eq_true h, eqT (by omega)]
                  · rw [decide_eq_false h, eqF (by omega)]] at hb
                rw [out_sq (w := if b then v + 1 else v) v1 ?_, if_pos hvx]
                cases b with
                | true => rw [if_pos rfl, if_pos ⟨hvx, hb⟩]
                | false => rw [if_neg Bool.false_ne_true, if_neg fun h => by rw [hb] at h; exact Bool.false_ne_true h.2]
              refine SCmp.sym ?_
              refine SCall.pure (rup_ok false (cmpZ (x * 4) ((v * 2 + 1) * (v * 2 + 1))) (((v % 2 : Nat) : Int) == 1) mode) ?_
              refine SCond.mk (fun hg => ?_) (fun hg => ?_)
              · rw [← hup _ hg, if_pos rfl]
                refine SWrap.u64z (v + 1) (by omega) (by omega) ?_
                have hpk := pack_ok false ((v + 1)) t mode 1 (by omega) (by omega) (by omega)
                rw [← ht] at hpk
                refine SCall.pureT (hpk) (fun _ => rfl) ?_
                exact SRet.pure (.tup rfl fun i c d e1 e2 => by
                  match i, e1, e2 with
                  | 0, e1, e2 => cases e1; cases e2; exact .p _ (.int _ _)
                  | 1, e1, e2 => cases e1; cases e2; exact .p _ (.int _ _))
              · rw [← hup _ hg, if_neg Bool.false_ne_true]
                have hpk := pack_ok false (v) t mode 1 (by omega) (by omega) (by omega)
                rw [← ht] at hpk
                refine SCall.pureT (hpk) (fun _ => rfl) ?_
                exact SRet.pure (.tup rfl fun i c d e1 e2 => by
                  match i, e1, e2 with
                  | 0, e1, e2 => cases e1; cases e2; exact .p _ (.int _ _)
                  | 1, e1, e2 => cases e1; cases e2; exact .p _ (.int _ _))
end Go.Proofs.Ytjcmiedpgabdbaa
