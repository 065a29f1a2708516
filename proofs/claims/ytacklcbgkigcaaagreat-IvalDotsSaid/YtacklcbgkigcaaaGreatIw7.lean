/- Sums of products of enclosures: the walks. -/
import Derived.Test.YtacklcbgkigcaaaGreatIw5
namespace Go.Proofs.YtacklcbgkigcaaaGreat
open Go
set_option linter.unusedVariables false
set_option linter.unusedSimpArgs false
set_option maxRecDepth 10000

abbrev ivL (n : Nat) (L : Nat → IvT) : List PV := ivsP ((List.range n).map L)
theorem ivL_len (n : Nat) (L : Nat → IvT) : (ivL n L).length = n := by simp
theorem ivL_get {n k : Nat} {L : Nat → IvT} (h : k < n) : (ivL n L)[k]? = some (ivP (L k)) := by
  rw [List.getElem?_map, List.getElem?_map, List.getElem?_range h]; rfl
theorem ivL_snoc (n : Nat) (L : Nat → IvT) : ivL n L ++ [ivP (L n)] = ivL (n + 1) L := by
  rw [ivL, ivL, List.range_succ, List.map_append, ivsP, ivsP, List.map_append]; rfl
noncomputable def dotR (L M : Nat → IvT) (n m : Nat) : IvT × Int :=
  if n ≠ m ∨ n = 0 then ((0, 0), 3) else match dotI L M (n - 1) with
    | none => ((0, 0), 10)
    | some s => (s, 0)
theorem dotI_none {L M : Nat → IvT} {k : Nat} (h : dotI L M k = none) : ∀ j, k ≤ j → dotI L M j = none := by
  intro j hj
  induction j with
  | zero => rwa [show k = 0 by omega] at h
  | succ j ih =>
    by_cases e : k = j + 1
    · rwa [e] at h
    · rw [dotI, ih (by omega)]
theorem dotR_long {L M : Nat → IvT} {n m : Nat} (h : n ≠ m ∨ n = 0) : dotR L M n m = ((0, 0), 3) := if_pos h
theorem dotR_none {L M : Nat → IvT} {n : Nat} (h0 : n ≠ 0) (h : dotI L M (n - 1) = none) : dotR L M n n = ((0, 0), 10) := by
  rw [dotR, if_neg (by omega), h]
theorem dotR_some {L M : Nat → IvT} {n : Nat} {s : IvT} (h0 : n ≠ 0) (h : dotI L M (n - 1) = some s) : dotR L M n n = (s, 0) := by
  rw [dotR, if_neg (by omega), h]
theorem far_ok (i : IvT) (h1 : Num i.1) (h2 : Num i.2) (b : Bool) (hb : finI i = b) : CallP Tryz.prog 86 [ivP i] (.p (.bool (!b))) [] := by
  obtain ⟨x, y⟩ := i
  have h1 : Num x := h1
  have h2 : Num y := h2
  rw [show finI (x, y) = (!isInf x && !isInf y) from rfl] at hb
  refine callG_of_vc (wr := wr0) Γok mixed Tryz.func86 (by kernel_rfl) rfl (by kernel_rfl) (le_of_ble rfl) (by simp) ?_
  by_cases hz : x = 0 ∧ y = 0
  · obtain ⟨rfl, rfl⟩ := hz
    refine SCmp.no (by decide) ?_
    rw [show isInf 0 = false by decide] at hb
    subst hb
    exact SRet.pure (.tf _)
  · have hne : (!((((x : Nat) : Int) == 0) && ((((y : Nat) : Int) == 0) && true))) = true := by
      have : ¬ ((x : Int) = 0 ∧ (y : Int) = 0) := fun e => hz ⟨by omega, by omega⟩
      simp only [Bool.and_true, Bool.not_eq_true', Bool.and_eq_false_iff, beq_eq_false_iff_ne]
      omega
    refine SCmp.yes (hne) ?_
    have c1 := ivinf_ok x h1.lt _ rfl
    have c2 := ivinf_ok y h2.lt _ rfl
    cases f1 : isInf x with
    | true =>
      rw [f1] at c1 hb
      refine SCall.pure (c1) ?_
      refine SCond.mk (fun _ => ?_) (fun h => by cases h)
      subst hb
      exact SRet.pure (.tf _)
    | false =>
      rw [f1] at c1 hb
      refine SCall.pure (c1) ?_
      refine SCond.mk (fun h => by cases h) (fun _ => ?_)
      refine SCall.pure (c2) ?_
      subst hb
      cases f2 : isInf y <;> exact SRet.pure (.p _ (.bool _))

structure DotH (L M : Nat → IvT) (n : Nat) (A B C D : Nat → Rat) : Prop where
  l : ∀ k, k < n → FinI (L k) (A k) (B k)
  m : ∀ k, k < n → FinI (M k) (C k) (D k)
/-- What stands behind the first products. -/
structure DotS (L M : Nat → IvT) (k : Nat) (s : IvT) : Prop where
  n1 : Num s.1
  n2 : Num s.2
  fin : finI s = true → dotI L M k = some s
  far : finI s = false → dotI L M k = none
theorem dot_far {L M : Nat → IvT} {k : Nat} {s : IvT} (hs : dotI L M k = some s) (hp : finI (mulI (L (k + 1)) (M (k + 1))) = false) : dotI L M (k + 1) = none := by
  rw [dotI, hs]
  exact if_neg (by rw [hp]; exact Bool.false_ne_true)
section
variable {L M : Nat → IvT} {n : Nat} {A B C D : Nat → Rat} (h : DotH L M n A B C D)
include h
theorem dot_zero (h0 : 0 < n) : DotS L M 0 (mulI (L 0) (M 0)) where
  n1 := (mul_lo (h.l 0 h0) (h.m 0 h0)).num
  n2 := (mul_hi (h.l 0 h0) (h.m 0 h0)).num
  fin := fun hf => by rw [dotI, if_pos hf]
  far := fun hf => by rw [dotI, if_neg (by rw [hf]; exact Bool.false_ne_true)]
theorem mul_num {k : Nat} (hk : k < n) : Num (mulI (L k) (M k)).1 ∧ Num (mulI (L k) (M k)).2 := ⟨(mul_lo (h.l k hk) (h.m k hk)).num, (mul_hi (h.l k hk) (h.m k hk)).num⟩
theorem dot_next {k : Nat} {s : IvT} (hk : k + 1 < n) (hs : dotI L M k = some s) (hp : finI (mulI (L (k + 1)) (M (k + 1))) = true) : DotS L M (k + 1) (addI s (mulI (L (k + 1)) (M (k + 1)))) := by
  obtain ⟨P, Q, g1, _, _⟩ := dotI_in (l := L) (m := M) (n := n - 1) (a := A) (b := C) (fun k hk => h.l k (by omega)) (fun k hk => h.m k (by omega)) (fun k hk => ⟨Rat.le_refl, (h.l k (by omega)).le⟩) (fun k hk => ⟨Rat.le_refl, (h.m k (by omega)).le⟩) k (by omega) s hs
  obtain ⟨P', Q', g2, _, _⟩ := (mul_in (h.l _ hk) (h.m _ hk) Rat.le_refl (h.l _ hk).le Rat.le_refl (h.m _ hk).le).fin hp
  refine ⟨(add_lo g1 g2).num, (add_hi g1 g2).num, fun hf => ?_, fun hf => ?_⟩
  · rw [dotI, hs]
    show (if _ then _ else _) = _
    rw [if_pos hp, if_pos hf]
  · rw [dotI, hs]
    show (if _ then _ else _) = _
    rw [if_pos hp, if_neg (by rw [hf]; exact Bool.false_ne_true)]
end
theorem num_ok {s : IvT} (h1 : Num s.1) (h2 : Num s.2) : IvOk s := ⟨h1.lt, h2.lt⟩
theorem boxIv {T : TypeId} {a b : IvT} (h : a = b) : Blk.box T [.p (.int .u64 (a.1 : Int)), .p (.int .u64 (a.2 : Int))] = Blk.box T [.p (.int .u64 (b.1 : Int)), .p (.int .u64 (b.2 : Int))] := by rw [h]

theorem ivdot_ok (b1 b2 : Bool) (L M : Nat → IvT) (n m : Nat) {A B C D : Nat → Rat} (h : DotH L M n A B C D) (hb : n ≤ 1000) : CallP Tryz.prog 26 [.sl b1 2 (ivL n L), .sl b2 2 (ivL m M)] (qpair (dotR L M n m)) [] := by
  refine callG_of_vc (wr := wr0) Γok mixed Tryz.func26 (by kernel_rfl) rfl (by kernel_rfl) (le_of_ble rfl) (by simp) ?_
  refine SZ.mk (n : Int) (by simp) ?_
  refine SZ.mk (m : Int) (by simp) ?_
  by_cases hnm : n = m
  · subst hnm
    refine SCmp.no (neF rfl) ?_
    refine SZ.mk (n : Int) (by simp) ?_
    by_cases h0 : n = 0
    · refine SCmp.yes (eqT (by omega)) ?_
      rw [dotR_long (.inr h0)]
      exact SRet.pure (.tup rfl fun i c d e1 e2 => by
        match i, e1, e2 with
        | 0, e1, e2 => cases e1; cases e2; exact .p _ (pers_iv (0, 0))
        | 1, e1, e2 => cases e1; cases e2; exact .p _ (.int _ _))
    · refine SCmp.no (eqF (by omega)) ?_
      have hn : 0 < n := by omega
      refine SDraw.mkX (by kernel_rfl) ?_
      repeat refine SOp.mk _ _ (And.intro rfl rfl) rfl ?_
      refine SOp.mk _ _ (SIdx.mk 0 (ivP (L 0)) rfl (ivL_get hn) (And.intro rfl rfl)) rfl ?_
      repeat refine SOp.mk _ _ (And.intro rfl rfl) rfl ?_
      refine SOp.mk _ _ (SIdx.mk 0 (ivP (M 0)) rfl (ivL_get hn) (And.intro rfl rfl)) rfl ?_
      repeat refine SOp.mk _ _ (And.intro rfl rfl) rfl ?_
      refine SOp.mk _ _ (SCall.pure (ivmul_ok (L 0) (M 0) (h.l 0 hn).ok (h.m 0 hn).ok) (And.intro rfl rfl)) rfl ?_
      repeat refine SOp.mk _ _ (And.intro rfl rfl) rfl ?_
      refine SFin.mk (by kernel_rfl) ?_
      have z0 := dot_zero h hn
      refine SLoop.mk (Nat × IvT) (fun (k, s) => ([(0, .p (.sl b1 2 (ivL n L))), (1, .p (.sl b2 2 (ivL n M))), (4, .bptr 0 0), (5, .p (.int .i64 0)), (6, .bptr 1 0), (7, .p (.int .i64 ((k + 1 : Nat) : Int)))], [.box 24 [.p (.int .u64 0), .p (.int .u64 0)], .box 24 [.p (.int .u64 (s.1 : Int)), .p (.int .u64 (s.2 : Int))]]))
        (fun (k, s) => k < n ∧ DotS L M k s) (fun x => n - x.1) (0, mulI (L 0) (M 0)) [0, 1] ⟨hn, z0⟩ ⟨rfl, by simp, rfl, rfl, rfl, ⟨rfl, rfl, rfl, rfl, rfl, rfl, trivial⟩, ⟨rfl, rfl, trivial⟩⟩ ?_
      intro ⟨k, s⟩ ⟨hk, hs⟩
      have hk : k < n := hk
      refine SZ.mk (n : Int) (by simp) ?_
      cases hf : finI s with
      | false =>
        have hnone := hs.far hf
        have cf := far_ok s hs.n1 hs.n2 _ hf
        by_cases hk1 : k + 1 < n
        · refine SCmp.yes (decide_eq_true (by omega)) ?_
          refine SCall.pure (cf) ?_
          refine SCmp.no (rfl) ?_
          refine SCall.pure (cf) ?_
          refine SCond.mk (fun _ => ?_) (fun h => by cases h)
          rw [dotR_none h0 (dotI_none hnone _ (by omega))]
          exact SRet.pure (.tup rfl fun i c d e1 e2 => by
            match i, e1, e2 with
            | 0, e1, e2 => cases e1; cases e2; exact .p _ (pers_iv (0, 0))
            | 1, e1, e2 => cases e1; cases e2; exact .p _ (.int _ _))
        · refine SCmp.no (decide_eq_false (by omega)) ?_
          refine SCall.pure (cf) ?_
          refine SCond.mk (fun _ => ?_) (fun h => by cases h)
          rw [dotR_none h0 (dotI_none hnone _ (by omega))]
          exact SRet.pure (.tup rfl fun i c d e1 e2 => by
            match i, e1, e2 with
            | 0, e1, e2 => cases e1; cases e2; exact .p _ (pers_iv (0, 0))
            | 1, e1, e2 => cases e1; cases e2; exact .p _ (.int _ _))
      | true =>
        have hsome := hs.fin hf
        have cf := far_ok s hs.n1 hs.n2 _ hf
        by_cases hk1 : k + 1 < n
        · refine SCmp.yes (decide_eq_true (by omega)) ?_
          refine SCall.pure (cf) ?_
          refine SCmp.yes (rfl) ?_
          refine SDraw.mkX (by kernel_rfl) ?_
          repeat refine SOp.mk _ _ (And.intro rfl rfl) rfl ?_
          refine SOp.mk _ _ (SIdx.mk (k + 1) (ivP (L (k + 1))) rfl (ivL_get hk1) (And.intro rfl rfl)) rfl ?_
          repeat refine SOp.mk _ _ (And.intro rfl rfl) rfl ?_
          refine SOp.mk _ _ (SIdx.mk (k + 1) (ivP (M (k + 1))) rfl (ivL_get hk1) (And.intro rfl rfl)) rfl ?_
          repeat refine SOp.mk _ _ (And.intro rfl rfl) rfl ?_
          refine SOp.mk _ _ (SCall.pure (ivmul_ok (L (k + 1)) (M (k + 1)) (h.l _ hk1).ok (h.m _ hk1).ok) (And.intro rfl rfl)) rfl ?_
          repeat refine SOp.mk _ _ (And.intro rfl rfl) rfl ?_
          refine SFin.mk (by kernel_rfl) ?_
          have hpn := mul_num h hk1
          cases hp : finI (mulI (L (k + 1)) (M (k + 1))) with
          | false =>
            refine SCall.pure (far_ok _ hpn.1 hpn.2 _ hp) ?_
            refine SCond.mk (fun _ => ?_) (fun h => by cases h)
            rw [dotR_none h0 (dotI_none (dot_far hsome hp) _ (by omega))]
            exact SRet.pure (.tup rfl fun i c d e1 e2 => by
              match i, e1, e2 with
              | 0, e1, e2 => cases e1; cases e2; exact .p _ (pers_iv (0, 0))
              | 1, e1, e2 => cases e1; cases e2; exact .p _ (.int _ _))
          | true =>
            refine SCall.pure (far_ok _ hpn.1 hpn.2 _ hp) ?_
            refine SCond.mk (fun h => by cases h) (fun _ => ?_)
            refine SCall.pure (ivadd_ok s (mulI (L (k + 1)) (M (k + 1))) (num_ok hs.n1 hs.n2) (num_ok hpn.1 hpn.2)) ?_
            refine SWrap.i64z ((k + 1 + 1 : Nat) : Int) (by omega) (by omega) ?_
            exact ⟨(k + 1, addI s (mulI (L (k + 1)) (M (k + 1)))), [0, 1], ⟨hk1, dot_next h hk1 hsome hp⟩, by show n - (k + 1) < n - k; omega, ⟨rfl, by simp, rfl, rfl, rfl, ⟨rfl, rfl, rfl, rfl, rfl, rfl, trivial⟩, ⟨rfl, rfl, trivial⟩⟩⟩
        · refine SCmp.no (decide_eq_false (by omega)) ?_
          refine SCall.pure (cf) ?_
          refine SCond.mk (fun h => by cases h) (fun _ => ?_)
          have : n - 1 = k := by omega
          rw [dotR_some h0 (by rw [this]; exact hsome)]
          exact SRet.pure (.tup rfl fun i c d e1 e2 => by
            match i, e1, e2 with
            | 0, e1, e2 => cases e1; cases e2; exact .p _ (pers_iv s)
            | 1, e1, e2 => cases e1; cases e2; exact .p _ (.int _ _))
  · refine SCmp.yes (neT (by omega)) ?_
    rw [dotR_long (.inl hnm)]
    exact SRet.pure (.tup rfl fun i c d e1 e2 => by
      match i, e1, e2 with
      | 0, e1, e2 => cases e1; cases e2; exact .p _ (pers_iv (0, 0))
      | 1, e1, e2 => cases e1; cases e2; exact .p _ (.int _ _))
theorem rivdot_ok (b1 b2 : Bool) (L M : Nat → IvT) (n m : Nat) {A B C D : Nat → Rat} (h : DotH L M n A B C D) (hb : n ≤ 1000) : CallP Tryz.prog 27 [.sl b1 2 (ivL n L), .sl b2 2 (ivL m M)] (qpair (dotR L M n m)) [] := by
  refine callG_of_vc (wr := wr0) Γok mixed Tryz.func27 (by kernel_rfl) rfl (by kernel_rfl) (le_of_ble rfl) (by simp) ?_
  refine SZ.mk (n : Int) (by simp) ?_
  refine SZ.mk (m : Int) (by simp) ?_
  by_cases hnm : n = m
  · subst hnm
    refine SCmp.no (neF rfl) ?_
    refine SZ.mk (n : Int) (by simp) ?_
    by_cases h0 : n = 0
    · refine SCmp.yes (eqT (by omega)) ?_
      rw [dotR_long (.inr h0)]
      exact SRet.pure (.tup rfl fun i c d e1 e2 => by
        match i, e1, e2 with
        | 0, e1, e2 => cases e1; cases e2; exact .p _ (pers_iv (0, 0))
        | 1, e1, e2 => cases e1; cases e2; exact .p _ (.int _ _))
    · refine SCmp.no (eqF (by omega)) ?_
      have hn : 0 < n := by omega
      refine SLoop.mk (Nat × IvT) (fun (k, s) => ([(0, .p (.sl b1 2 (ivL n L))), (1, .p (.sl b2 2 (ivL n M))), (4, .bptr 0 0), (5, .p (.int .i64 0)), (6, .bptr 1 0), (7, .p (.int .i64 (k : Int)))], [.box 24 [.p (.int .u64 0), .p (.int .u64 0)], .box 24 [.p (.int .u64 (s.1 : Int)), .p (.int .u64 (s.2 : Int))]]))
        (fun (k, s) => k ≤ n ∧ (k = 0 ∨ (finI s = true ∧ dotI L M (k - 1) = some s ∧ Num s.1 ∧ Num s.2))) (fun x => n - x.1) (0, (0, 0)) [0, 1] ⟨Nat.zero_le _, .inl rfl⟩ ⟨rfl, by simp, rfl, rfl, rfl, ⟨rfl, rfl, rfl, rfl, rfl, rfl, trivial⟩, ⟨rfl, rfl, trivial⟩⟩ ?_
      intro ⟨k, s⟩ ⟨hk, hs⟩
      have hk : k ≤ n := hk
      refine SZ.mk (n : Int) (by simp) ?_
      by_cases hkn : k < n
      · refine SCmp.yes (decide_eq_true (by omega)) ?_
        refine SDraw.mkX (by kernel_rfl) ?_
        repeat refine SOp.mk _ _ (And.intro rfl rfl) rfl ?_
        refine SOp.mk _ _ (SIdx.mk k (ivP (L k)) rfl (ivL_get hkn) (And.intro rfl rfl)) rfl ?_
        repeat refine SOp.mk _ _ (And.intro rfl rfl) rfl ?_
        refine SOp.mk _ _ (SIdx.mk k (ivP (M k)) rfl (ivL_get hkn) (And.intro rfl rfl)) rfl ?_
        repeat refine SOp.mk _ _ (And.intro rfl rfl) rfl ?_
        refine SOp.mk _ _ (SCall.pure (rivmul_ok (L k) (M k) (h.l _ hkn).ok (h.m _ hkn).ok) (And.intro rfl rfl)) rfl ?_
        repeat refine SOp.mk _ _ (And.intro rfl rfl) rfl ?_
        refine SFin.mk (by kernel_rfl) ?_
        have hpn := mul_num h hkn
        by_cases hk0 : k = 0
        · subst hk0
          refine SCmp.no (decide_eq_false (by omega)) ?_
          have z0 := dot_zero h hn
          cases hp : finI (mulI (L 0) (M 0)) with
          | false =>
            have c := rfin_ok _ (num_ok hpn.1 hpn.2) hpn.1.nan hpn.2.nan
            rw [hp] at c
            refine SCall.pure (c) ?_
            refine SCmp.yes (rfl) ?_
            rw [dotR_none h0 (dotI_none (z0.far hp) _ (by omega))]
            exact SRet.pure (.tup rfl fun i c d e1 e2 => by
              match i, e1, e2 with
              | 0, e1, e2 => cases e1; cases e2; exact .p _ (pers_iv (0, 0))
              | 1, e1, e2 => cases e1; cases e2; exact .p _ (.int _ _))
          | true =>
            have c := rfin_ok _ (num_ok hpn.1 hpn.2) hpn.1.nan hpn.2.nan
            rw [hp] at c
            refine SCall.pure (c) ?_
            refine SCmp.no (rfl) ?_
            refine SWrap.i64z ((0 + 1 : Nat) : Int) (by omega) (by omega) ?_
            exact ⟨(0 + 1, mulI (L 0) (M 0)), [0, 1], ⟨by omega, .inr ⟨hp, z0.fin hp, hpn.1, hpn.2⟩⟩, by show n - (0 + 1) < n - 0; omega, ⟨rfl, by simp, rfl, rfl, rfl, ⟨rfl, rfl, rfl, rfl, rfl, rfl, trivial⟩, ⟨rfl, rfl, trivial⟩⟩⟩
        · refine SCmp.yes (decide_eq_true (by omega)) ?_
          obtain ⟨hf, hsome, s1, s2⟩ := hs.resolve_left hk0
          obtain ⟨q, hq⟩ : ∃ q, k = q + 1 := ⟨k - 1, by omega⟩
          subst hq
          have hsome : dotI L M q = some s := hsome
          cases hp : finI (mulI (L (q + 1)) (M (q + 1))) with
          | false =>
            have c := rfin_ok _ (num_ok hpn.1 hpn.2) hpn.1.nan hpn.2.nan
            rw [hp] at c
            refine SCall.pure (c) ?_
            refine SCond.mk (fun h => by cases h) (fun _ => ?_)
            refine SCall.pure (c) ?_
            refine SCmp.yes (rfl) ?_
            rw [dotR_none h0 (dotI_none (dot_far hsome hp) _ (by omega))]
            exact SRet.pure (.tup rfl fun i c d e1 e2 => by
              match i, e1, e2 with
              | 0, e1, e2 => cases e1; cases e2; exact .p _ (pers_iv (0, 0))
              | 1, e1, e2 => cases e1; cases e2; exact .p _ (.int _ _))
          | true =>
            have c := rfin_ok _ (num_ok hpn.1 hpn.2) hpn.1.nan hpn.2.nan
            rw [hp] at c
            refine SCall.pure (c) ?_
            refine SCond.mk (fun _ => ?_) (fun h => by cases h)
            refine SCall.pure (rivadd_ok s (mulI (L (q + 1)) (M (q + 1))) (num_ok s1 s2) (num_ok hpn.1 hpn.2)) ?_
            have z1 := dot_next h hkn hsome hp
            cases hp2 : finI (addI s (mulI (L (q + 1)) (M (q + 1)))) with
            | false =>
              have c := rfin_ok _ (num_ok z1.n1 z1.n2) z1.n1.nan z1.n2.nan
              rw [hp2] at c
              refine SCall.pure (c) ?_
              refine SCmp.yes (rfl) ?_
              rw [dotR_none h0 (dotI_none (z1.far hp2) _ (by omega))]
              exact SRet.pure (.tup rfl fun i c d e1 e2 => by
                match i, e1, e2 with
                | 0, e1, e2 => cases e1; cases e2; exact .p _ (pers_iv (0, 0))
                | 1, e1, e2 => cases e1; cases e2; exact .p _ (.int _ _))
            | true =>
              have c := rfin_ok _ (num_ok z1.n1 z1.n2) z1.n1.nan z1.n2.nan
              rw [hp2] at c
              refine SCall.pure (c) ?_
              refine SCmp.no (rfl) ?_
              refine SWrap.i64z ((q + 1 + 1 : Nat) : Int) (by omega) (by omega) ?_
              exact ⟨(q + 1 + 1, addI s (mulI (L (q + 1)) (M (q + 1)))), [0, 1], ⟨hkn, .inr ⟨hp2, z1.fin hp2, z1.n1, z1.n2⟩⟩, by show n - (q + 1 + 1) < n - (q + 1); omega, ⟨rfl, by simp, rfl, rfl, rfl, ⟨rfl, rfl, rfl, rfl, rfl, rfl, trivial⟩, ⟨rfl, rfl, trivial⟩⟩⟩
      · refine SCmp.no (decide_eq_false (by omega)) ?_
        have e : k = n := by omega
        obtain ⟨hf, hsome, s1, s2⟩ := hs.resolve_left (by omega)
        rw [dotR_some h0 (by rw [← e]; exact hsome)]
        exact SRet.pure (.tup rfl fun i c d e1 e2 => by
          match i, e1, e2 with
          | 0, e1, e2 => cases e1; cases e2; exact .p _ (pers_iv s)
          | 1, e1, e2 => cases e1; cases e2; exact .p _ (.int _ _))
  · refine SCmp.yes (neT (by omega)) ?_
    rw [dotR_long (.inl hnm)]
    exact SRet.pure (.tup rfl fun i c d e1 e2 => by
      match i, e1, e2 with
      | 0, e1, e2 => cases e1; cases e2; exact .p _ (pers_iv (0, 0))
      | 1, e1, e2 => cases e1; cases e2; exact .p _ (.int _ _))
end Go.Proofs.YtacklcbgkigcaaaGreat
