/- The document's floats: as numbers, their order, the next ones. -/
import Derived.Test.YtjcmiedpgabdbaaR33
namespace Go.Proofs.Ytjcmiedpgabdbaa
open Go
set_option linter.unusedVariables false
set_option linter.unusedSimpArgs false
set_option maxRecDepth 10000

theorem SCall.vecR {P : Program} {f : FuncId} {L : Nat → Blk} {base h : Nat} {K : AV → List (Nat × Blk) → Prop} {args args' : List AV} {T : TypeId} {W : Nat} {es es' : List PV} {r r' : AV} (hb : h < base) (hL : L h = .vec T W es)
    (hc : CallG P f args' [.vec T W es] r [.vec T W es']) (ha : AV.renL (renOf [h] base) args' = args) (hargs : ∀ a ∈ args', ∀ k, a.men k → k < 1) (hr : r.ren (renOf [h] base) = r') (hk : K r' [(h, .vec T W es')]) : SCall P true f args L base K := by
  refine .mk [h] args' r [.vec T W es'] (fun e => by cases e) (by simp) (fun k hk => by simp at hk; omega) ha (fun k hk => by simp at hk; subst hk; rw [hL]; trivial) (fun k hk j => by simp at hk; subst hk; rw [hL]; exact fun h => h) (Nat.le_refl _)
    (fun B hB => by simp at hB; subst hB; simp) hargs (by simpa [hL] using hc) ?_
  rw [hr]
  simpa [renOf, Blk.ren] using hk
theorem nl_one' : nl 1 = [1] := by rw [nl_pos (by omega), show 1 / 4294967296 = 0 by decide, nl_zero]
abbrev oneV : Blk := .vec 85 1 [.int .u32 1]
theorem pers_oneV : ∀ e ∈ [PV.int .u32 1], ∀ c ∈ e.cells, Pers c := fun e he c hc => by
  simp at he; subst he
  simp [PV.cells] at hc; subst hc
  exact .int _ _
theorem natM_one (m : Bool) : natM m 1 = .sl m 1 [.int .u32 1] := by show PV.sl m 1 (limbs (nl 1)) = _; rw [nl_one']; rfl

theorem rshiftV_pos (n : Nat) (k : Int) (hn : bitLen n ≤ 262144) (hk : 0 ≤ k ∧ k ≤ 262144) :
    CallG Try.prog 80 [.p (natP n), .vec 0 1 0 1, .p (.int .i64 k)] [oneV] (.tup [.p (natP (n * 2 ^ k.toNat)), .vec 0 1 0 1]) [oneV] := by
  refine callG_of_vc (wr := wr0) Γok mixed Try.func80 (by kernel_rfl) rfl (by kernel_rfl) (le_of_ble rfl) (by simp [Blk.live]) ?_
  refine SLoop.mk (Nat × Int) (fun (a, j) => ([(0, .p (natP a)), (1, .vec 0 1 0 1), (2, .p (.int .i64 j))], [oneV])) (fun (a, j) => 0 ≤ j ∧ j ≤ k ∧ a * 2 ^ j.toNat = n * 2 ^ k.toNat ∧ bitLen a ≤ 524288) (fun x => x.2.toNat) (n, k) [0]
    ⟨by omega, by omega, rfl, by omega⟩ ⟨rfl, by simp, rfl, rfl, rfl, ⟨rfl, rfl, rfl, trivial⟩, ⟨rfl, trivial⟩⟩ ?_
  intro ⟨a, j⟩ ⟨h1, h2, h3, h4⟩
  have h1 : 0 ≤ j := h1
  have h2 : j ≤ k := h2
  have h3 : a * 2 ^ j.toNat = n * 2 ^ k.toNat := h3
  have h4 : bitLen a ≤ 524288 := h4
  by_cases hj : 0 < j
  · refine SCmp.yes (decide_eq_true (by omega)) ?_
    obtain ⟨s, hs⟩ : ∃ s : Nat, s = (min j 9000).toNat := ⟨_, rfl⟩
    refine SZ.mk (s : Int) ((min_ite _ _).trans (by omega)) ?_
    have hna := nlen_bitLen a
    refine SCall.pure (rshl_ok false a s (by omega) (by omega)) ?_
    refine SWrap.i64z (j - s) rfl (by omega) ?_
    have e1 : a * 2 ^ s * 2 ^ (j - s).toNat = n * 2 ^ k.toNat := by
      rw [← h3, Nat.mul_assoc, ← Nat.pow_add, show s + (j - s).toNat = j.toNat by omega]
    refine ⟨(a * 2 ^ s, j - s), [0], ⟨by omega, by omega, e1, ?_⟩, by show (j - s).toNat < j.toNat; omega, ⟨rfl, by simp, rfl, rfl, rfl, ⟨rfl, rfl, rfl, trivial⟩, ⟨rfl, trivial⟩⟩⟩
    have h5 : a * 2 ^ s ≤ n * 2 ^ k.toNat := by rw [← e1]; exact Nat.le_mul_of_pos_right _ (Nat.two_pow_pos _)
    have h6 := bitLen_mono h5
    have h7 := bits_shl n k.toNat
    omega
  · refine SCmp.no (decide_eq_false (by omega)) ?_
    have : j = 0 := by omega
    subst this
    rw [show a = n * 2 ^ k.toNat by simpa using h3]
    refine SLoop.mk Unit (fun _ => ([(0, .p (natP (n * 2 ^ k.toNat))), (1, .vec 0 1 0 1), (2, .p (.int .i64 0))], [oneV])) (fun _ => True) (fun _ => 0) () [0] trivial ⟨rfl, by simp, rfl, rfl, rfl, ⟨rfl, rfl, rfl, trivial⟩, ⟨rfl, trivial⟩⟩ ?_
    intro _ _
    refine SCmp.no (decide_eq_false (by omega)) ?_
    exact SRet.one rfl pers_oneV (.tup rfl fun i c d e1 e2 => by
      match i, e1, e2 with
      | 0, e1, e2 => cases e1; cases e2; exact .p _ (.sl _ _ (pers_limbs _))
      | 1, e1, e2 => cases e1; cases e2; exact .vec rfl)

theorem rshiftV_neg (n : Nat) (k : Int) (hn : bitLen n ≤ 262144) (hk : -262144 ≤ k ∧ k < 0) :
    CallG Try.prog 80 [.p (natP n), .vec 0 1 0 1, .p (.int .i64 k)] [oneV] (.tup [.p (natP n), .p (natP (2 ^ (-k).toNat))]) [oneV] := by
  refine callG_of_vc (wr := wr0) Γok mixed Try.func80 (by kernel_rfl) rfl (by kernel_rfl) (le_of_ble rfl) (by simp [Blk.live]) ?_
  refine SLoop.mk Unit (fun _ => ([(0, .p (natP n)), (1, .vec 0 1 0 1), (2, .p (.int .i64 k))], [oneV])) (fun _ => True) (fun _ => 0) () [0] trivial ⟨rfl, by simp, rfl, rfl, rfl, ⟨rfl, rfl, rfl, trivial⟩, ⟨rfl, trivial⟩⟩ ?_
  intro _ _
  refine SCmp.no (decide_eq_false (by omega)) ?_
  refine SLoop.mk (Option Nat × Int) (fun (b, i) => ([(0, .p (natP n)), (1, match b with | none => .vec 0 1 0 1 | some b => .p (natP b)), (2, .p (.int .i64 i))], [oneV])) (fun (b, i) => i ≤ 0 ∧ k ≤ i ∧ (match b with | none => i = k | some b => b * 2 ^ (-i).toNat = 2 ^ (-k).toNat ∧ bitLen b ≤ 524288)) (fun x => (-x.2).toNat) (none, k) [0]
    ⟨by omega, by omega, rfl⟩ ⟨rfl, by simp, rfl, rfl, rfl, ⟨rfl, rfl, rfl, trivial⟩, ⟨rfl, trivial⟩⟩ ?_
  intro ⟨b, i⟩ ⟨h1, h0, h2⟩
  have h1 : i ≤ 0 := h1
  have h0 : k ≤ i := h0
  by_cases hi : i < 0
  · refine SCmp.yes (decide_eq_true (by omega)) ?_
    refine SWrap.i64z (0 - i) rfl (by omega) ?_
    obtain ⟨s, hs⟩ : ∃ s : Nat, s = (min (0 - i) 9000).toNat := ⟨_, rfl⟩
    refine SZ.mk (s : Int) ((min_ite _ _).trans (by omega)) ?_
    cases b with
    | none =>
      have h2 : i = k := h2
      refine SView.all rfl ?_
      have hs1 := rshl_ok true 1 s (by have := nlen_le (n := 1) (k := 1) (by decide); omega) (by omega)
      rw [natM_one, Nat.one_mul] at hs1
      refine SCall.pure (hs1) ?_
      refine SWrap.i64z (i + s) rfl (by omega) ?_
      refine ⟨(some (2 ^ s), i + s), [0], ⟨by omega, by omega, ?_, ?_⟩, by show (-(i + s)).toNat < (-i).toNat; omega, ⟨rfl, by simp, rfl, rfl, rfl, ⟨rfl, rfl, rfl, trivial⟩, ⟨rfl, trivial⟩⟩⟩
      · show 2 ^ s * 2 ^ (-(i + s)).toNat = _
        rw [← Nat.pow_add]; congr 1; omega
      · have := bits_pow s
        omega
    | some b =>
      obtain ⟨h2, h3⟩ : b * 2 ^ (-i).toNat = 2 ^ (-k).toNat ∧ bitLen b ≤ 524288 := h2
      have hnb := nlen_bitLen b
      refine SCall.pure (rshl_ok false b s (by omega) (by omega)) ?_
      refine SWrap.i64z (i + s) rfl (by omega) ?_
      have e1 : b * 2 ^ s * 2 ^ (-(i + s)).toNat = 2 ^ (-k).toNat := by
        rw [← h2, Nat.mul_assoc, ← Nat.pow_add, show s + (-(i + s)).toNat = (-i).toNat by omega]
      refine ⟨(some (b * 2 ^ s), i + s), [0], ⟨by omega, by omega, e1, ?_⟩, by show (-(i + s)).toNat < (-i).toNat; omega, ⟨rfl, by simp, rfl, rfl, rfl, ⟨rfl, rfl, rfl, trivial⟩, ⟨rfl, trivial⟩⟩⟩
      have h5 : b * 2 ^ s ≤ 2 ^ (-k).toNat := by rw [← e1]; exact Nat.le_mul_of_pos_right _ (Nat.two_pow_pos _)
      have h6 := bitLen_mono h5
      have h7 := bits_pow (-k).toNat
      omega
  · refine SCmp.no (decide_eq_false (by omega)) ?_
    have : i = 0 := by omega
    subst this
    cases b with
    | none => have h2 : 0 = k := h2; omega
    | some b =>
      obtain ⟨h2, h3⟩ : b * 2 ^ (-(0 : Int)).toNat = 2 ^ (-k).toNat ∧ bitLen b ≤ 524288 := h2
      rw [show b = 2 ^ (-k).toNat by simpa using h2]
      exact SRet.one rfl pers_oneV (.tup rfl fun i c d e1 e2 => by
        match i, e1, e2 with
        | 0, e1, e2 => cases e1; cases e2; exact .p _ (.sl _ _ (pers_limbs _))
        | 1, e1, e2 => cases e1; cases e2; exact .p _ (.sl _ _ (pers_limbs _)))

abbrev wrS : FuncId → Bool := fun f => Nat.beq f 80
theorem rfrat_ok (f : Nat) (hf : f < 18446744073709551616) (h1 : isNan f = false) (h2 : isInf f = false) : CallP Try.prog 32 [.int .u64 f] (.tup [.p (ratP (fvq f)), .p (.int .i64 0)]) [] := by
  refine callG_of_vc (wr := wrS) Γok mixed Try.func32 (by kernel_rfl) rfl (by kernel_rfl) (le_of_ble rfl) (by simp) ?_
  refine SCall.pure (rnone_ok f hf _ h1) ?_
  refine SCond.mk (fun h => by cases h) (fun _ => ?_)
  refine SCall.pure (rendless_ok f hf _ h2) ?_
  refine SCond.mk (fun h => by cases h) (fun _ => ?_)
  have e1 := fexp_le (mag_lt f)
  have e2 := fexp_ge (mag f)
  have e3 := fsig_lt (mag f)
  have b0 := fsig_bits (mag f)
  have b1 := fn_bits f
  have b2 := fd_bits f
  have hm := mkQ_fvq f
  have g1 := rmake_ok (ngt f) false true (fsig (mag f) * 2 ^ (fexp (mag f)).toNat) 1 (by omega) (by omega) (by rw [bits_one]; omega)
  rw [natM_one] at g1
  have g2 := rmake_ok (ngt f) false false (fsig (mag f)) (2 ^ (-fexp (mag f)).toNat) (Nat.ne_of_gt (Nat.two_pow_pos _)) (by omega) (by omega)
  have s1 := rshiftV_pos (fsig (mag f)) (fexp (mag f)) (by omega)
  have s2 := rshiftV_neg (fsig (mag f)) (fexp (mag f)) (by omega)
  refine SCall.pureT (rparts_ok f hf) (fun _ => rfl) ?_
  refine SCall.pure (rof_ok (fsig (mag f)) (by omega)) ?_
  rcases Int.lt_or_le (fexp (mag f)) 0 with h | h
  · refine SCall.vecR (h := 1) (by decide) rfl (s2 (by omega)) rfl (by intro a ha; simp at ha; rcases ha with rfl | rfl | rfl <;> intro k hk <;> simp only [AV.men] at hk <;> omega) rfl ?_
    refine SCall.pure (rminus_ok f hf _ rfl) ?_
    rw [show (fexp (mag f)).toNat = 0 by omega, Nat.pow_zero, Nat.mul_one] at hm
    rw [hm] at g2
    refine SCall.pureT (g2) (fun _ => rfl) ?_
    exact SRet.pure (.tup rfl fun i c d e1 e2 => by
      match i, e1, e2 with
      | 0, e1, e2 => cases e1; cases e2; exact .p _ (pers_rat _ _ _)
      | 1, e1, e2 => cases e1; cases e2; exact .p _ (.int _ _))
  · refine SCall.vecR (h := 1) (by decide) rfl (s1 (by omega)) rfl (by intro a ha; simp at ha; rcases ha with rfl | rfl | rfl <;> intro k hk <;> simp only [AV.men] at hk <;> omega) rfl ?_
    refine SCall.pure (rminus_ok f hf _ rfl) ?_
    refine SView.all rfl ?_
    rw [show (-fexp (mag f)).toNat = 0 by omega, Nat.pow_zero] at hm
    rw [hm] at g1
    refine SCall.pureT (g1) (fun _ => rfl) ?_
    exact SRet.pure (.tup rfl fun i c d e1 e2 => by
      match i, e1, e2 with
      | 0, e1, e2 => cases e1; cases e2; exact .p _ (pers_rat _ _ _)
      | 1, e1, e2 => cases e1; cases e2; exact .p _ (.int _ _))
theorem rfrat_no (f : Nat) (hf : f < 18446744073709551616) (h1 : isNan f = true ∨ isInf f = true) : CallP Try.prog 32 [.int .u64 f] (.tup [.p (.agg [.bool false, .sl false 1 [], .sl false 1 []]), .p (.int .i64 10)]) [] := by
  refine callG_of_vc (wr := wrS) Γok mixed Try.func32 (by kernel_rfl) rfl (by kernel_rfl) (le_of_ble rfl) (by simp) ?_
  cases h : isNan f with
  | true =>
    refine SCall.pure (rnone_ok f hf _ h) ?_
    refine SCond.mk (fun _ => ?_) (fun h => by cases h)
    exact SRet.pure (.tup rfl fun i c d e1 e2 => by
      match i, e1, e2 with
      | 0, e1, e2 => cases e1; cases e2; exact .p _ pers_rat0
      | 1, e1, e2 => cases e1; cases e2; exact .p _ (.int _ _))
  | false =>
    rw [h] at h1
    have h2 : isInf f = true := by simpa using h1
    refine SCall.pure (rnone_ok f hf _ h) ?_
    refine SCond.mk (fun h => by cases h) (fun _ => ?_)
    refine SCall.pure (rendless_ok f hf _ h2) ?_
    refine SCond.mk (fun _ => ?_) (fun h => by cases h)
    exact SRet.pure (.tup rfl fun i c d e1 e2 => by
      match i, e1, e2 with
      | 0, e1, e2 => cases e1; cases e2; exact .p _ pers_rat0
      | 1, e1, e2 => cases e1; cases e2; exact .p _ (.int _ _))
theorem rexact_ok (f : Nat) (hf : f < 18446744073709551616) (h1 : isNan f = false) (h2 : isInf f = false) : CallP Try.prog 103 [.int .u64 f] (.p (ratP (fvq f))) [] := by
  refine callG_of_vc (wr := wr0) Γok mixed Try.func103 (by kernel_rfl) rfl (by kernel_rfl) (le_of_ble rfl) (by simp) ?_
  refine SCall.pureT (rfrat_ok f hf h1 h2) (fun _ => rfl) ?_
  exact SRet.pure (.p _ (pers_rat _ _ _))

theorem rplace_ok (f : Nat) (hf : f < 18446744073709551616) : CallP Try.prog 102 [.int .u64 f] (.p (.int .i64 (pl f))) [] := by
  refine callG_of_vc (wr := wr0) Γok mixed Try.func102 (by kernel_rfl) rfl (by kernel_rfl) (le_of_ble rfl) (by simp) ?_
  cases h : ngt f with
  | true =>
    refine SCall.pure (rminus_ok f hf _ h) ?_
    refine SCond.mk (fun _ => ?_) (fun h => by cases h)
    refine SWrap.nosign f rfl rfl hf ?_
    have := mag_lt f
    refine SWrap.i64z (mag f : Int) rfl (by omega) ?_
    refine SWrap.i64z (-(mag f : Int)) (by omega) (by omega) ?_
    rw [pl, h, if_pos rfl]
    exact SRet.pure (.p _ (.int _ _))
  | false =>
    refine SCall.pure (rminus_ok f hf _ h) ?_
    refine SCond.mk (fun h => by cases h) (fun _ => ?_)
    have := ngt_false h
    refine SWrap.i64z (f : Int) rfl (by omega) ?_
    rw [pl, h, if_neg Bool.false_ne_true]
    exact SRet.pure (.p _ (.int _ _))
theorem rfcmp_ok (a b : Nat) (ha : a < 18446744073709551616) (hb : b < 18446744073709551616) : CallP Try.prog 46 [.int .u64 a, .int .u64 b] (cpair (cmpF a b)) [] := by
  refine callG_of_vc (wr := wr0) Γok mixed Try.func46 (by kernel_rfl) rfl (by kernel_rfl) (le_of_ble rfl) (by simp) ?_
  unfold cmpF
  cases h : isNan a with
  | true =>
    refine SCall.pure (rnone_ok a ha _ h) ?_
    refine SCond.mk (fun _ => ?_) (fun h => by cases h)
    exact SRet.pure (.tup rfl fun i c d e1 e2 => by
      match i, e1, e2 with
      | 0, e1, e2 => cases e1; cases e2; exact .p _ (.int _ _)
      | 1, e1, e2 => cases e1; cases e2; exact .tf _)
  | false =>
    refine SCall.pure (rnone_ok a ha _ h) ?_
    refine SCond.mk (fun h => by cases h) (fun _ => ?_)
    cases h2 : isNan b with
    | true =>
      refine SCall.pure (rnone_ok b hb _ h2) ?_
      refine SCond.mk (fun _ => ?_) (fun h => by cases h)
      exact SRet.pure (.tup rfl fun i c d e1 e2 => by
        match i, e1, e2 with
        | 0, e1, e2 => cases e1; cases e2; exact .p _ (.int _ _)
        | 1, e1, e2 => cases e1; cases e2; exact .tf _)
    | false =>
      refine SCall.pure (rnone_ok b hb _ h2) ?_
      refine SCond.mk (fun h => by cases h) (fun _ => ?_)
      refine SCall.pure (rplace_ok a ha) ?_
      refine SCall.pure (rplace_ok b hb) ?_
      rw [if_neg (by simp), cmpI]
      by_cases h3 : pl a < pl b
      · rw [if_pos h3]
        refine SCmp.yes (decide_eq_true (by omega)) ?_
        exact SRet.pure (.tup rfl fun i c d e1 e2 => by
          match i, e1, e2 with
          | 0, e1, e2 => cases e1; cases e2; exact .p _ (.int _ _)
          | 1, e1, e2 => cases e1; cases e2; exact .tf _)
      · rw [if_neg h3]
        refine SCmp.no (decide_eq_false (by omega)) ?_
        by_cases h4 : pl b < pl a
        · rw [if_pos h4]
          refine SCmp.yes (decide_eq_true (by omega)) ?_
          exact SRet.pure (.tup rfl fun i c d e1 e2 => by
            match i, e1, e2 with
            | 0, e1, e2 => cases e1; cases e2; exact .p _ (.int _ _)
            | 1, e1, e2 => cases e1; cases e2; exact .tf _)
        · rw [if_neg h4]
          refine SCmp.no (decide_eq_false (by omega)) ?_
          exact SRet.pure (.tup rfl fun i c d e1 e2 => by
            match i, e1, e2 with
            | 0, e1, e2 => cases e1; cases e2; exact .p _ (.int _ _)
            | 1, e1, e2 => cases e1; cases e2; exact .tf _)
theorem rfnext_ok (f : Nat) (hf : f < 18446744073709551616) (up : Bool) : CallP Try.prog 35 [.int .u64 f, .bool up] (.p (.int .u64 (nextF f up))) [] := by
  refine callG_of_vc (wr := wr0) Γok mixed Try.func35 (by kernel_rfl) rfl (by kernel_rfl) (le_of_ble rfl) (by simp) ?_
  unfold nextF
  cases h : isNan f with
  | true =>
    refine SCall.pure (rnone_ok f hf _ h) ?_
    refine SCond.mk (fun _ => ?_) (fun h => by cases h)
    rw [if_pos rfl]
    exact SRet.pure (.p _ (.int _ _))
  | false =>
    refine SCall.pure (rnone_ok f hf _ h) ?_
    refine SCond.mk (fun h => by cases h) (fun _ => ?_)
    rw [if_neg Bool.false_ne_true]
    cases h2 : isZ f with
    | true =>
      refine SCall.pure (rnought3_ok f hf _ h2) ?_
      refine SCond.mk (fun _ => ?_) (fun h => by cases h)
      rw [if_pos rfl]
      cases up with
      | true =>
        refine SCmp.no (rfl) ?_
        refine SCall.pure (rsigned_ok 1 (by omega) false) ?_
        exact SRet.pure (.p _ (.int _ _))
      | false =>
        refine SCmp.yes (rfl) ?_
        refine SCall.pure (rsigned_ok 1 (by omega) true) ?_
        exact SRet.pure (.p _ (.int _ _))
    | false =>
      refine SCall.pure (rnought3_ok f hf _ h2) ?_
      refine SCond.mk (fun h => by cases h) (fun _ => ?_)
      rw [if_neg Bool.false_ne_true]
      have hz : f % 9223372036854775808 ≠ 0 := of_decide_eq_false h2
      have hn : ¬ 9218868437227405312 < f % 9223372036854775808 := of_decide_eq_false h
      have e : CallP Try.prog 81 [.int .u64 f] (.p (.bool (ngt f))) [] := rminus_ok f hf _ rfl
      cases h3 : isInf f with
      | true =>
        refine SCall.pure (rendless_ok f hf _ h3) ?_
        refine SCond.mk (fun _ => ?_) (fun h => by cases h)
        refine SCall.pure (e) ?_
        by_cases h4 : ngt f = up
        · refine SCmp.no (by simp [h4]) ?_
          rw [if_neg (by simp [h4]), if_pos h4]
          refine SCall.pure (e) ?_
          refine SCmp.no (by simp [h4]) ?_
          refine SWrap.u64z (f - 1) (by omega) (by omega) ?_
          exact SRet.pure (.p _ (.int _ _))
        · refine SCmp.yes (by simp [h4]) ?_
          rw [if_pos (by simp [h4])]
          exact SRet.pure (.p _ (.int _ _))
      | false =>
        refine SCall.pure (rendless_ok f hf _ h3) ?_
        refine SCond.mk (fun h => by cases h) (fun _ => ?_)
        rw [if_neg (by simp)]
        refine SCall.pure (e) ?_
        by_cases h4 : ngt f = up
        · rw [if_pos h4]
          refine SCmp.no (by simp [h4]) ?_
          refine SWrap.u64z (f - 1) (by omega) (by omega) ?_
          exact SRet.pure (.p _ (.int _ _))
        · rw [if_neg h4]
          refine SCmp.yes (by simp [h4]) ?_
          refine SWrap.u64z (f + 1) (by omega) (by omega) ?_
          exact SRet.pure (.p _ (.int _ _))
end Go.Proofs.Ytjcmiedpgabdbaa
