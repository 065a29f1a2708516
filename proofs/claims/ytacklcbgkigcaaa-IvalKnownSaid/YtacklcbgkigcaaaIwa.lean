/- IvalKnown: enclosures that are known, reckoned; the walk. -/
import Derived.Test.YtacklcbgkigcaaaIw7
namespace Go.Proofs.Ytacklcbgkigcaaa
open Go
set_option linter.unusedVariables false
set_option linter.unusedSimpArgs false
set_option maxRecDepth 100000

/-- The whole below a number: what is tried. -/
def cdc (X : Rat) : Nat :=
  if X.num = 0 then 0 else
    if 4503599627370496 ≤ X.num.natAbs * 2 ^ 1074 / (X.den * 2 ^ (((X.num.natAbs.log2 : Int) - X.den.log2 + 1022).toNat)) then
      X.num.natAbs * 2 ^ 1074 / (X.den * 2 ^ (((X.num.natAbs.log2 : Int) - X.den.log2 + 1022).toNat)) + ((X.num.natAbs.log2 : Int) - X.den.log2 + 1022).toNat * 4503599627370496
    else X.num.natAbs * 2 ^ 1074 / (X.den * 2 ^ (((X.num.natAbs.log2 : Int) - X.den.log2 + 1021).toNat)) + ((X.num.natAbs.log2 : Int) - X.den.log2 + 1021).toNat * 4503599627370496
def addK (x y : Nat) (m : Int) : Option (Nat × Int) := addFc (cdc (fvq x + fvq y).abs) x y m
def mulK (x y : Nat) (m : Int) : Option (Nat × Int) := mulFc (cdc (fvq x * fvq y).abs) x y m
def divK (x y : Nat) (m : Int) : Option (Nat × Int) := divFc (cdc (fvq x / fvq y).abs) x y m
def endsK (op : Nat → Nat → Int → Option (Nat × Int)) (i j : IvT) : Option IvT :=
  (op i.1 j.1 2).bind fun a0 => (op i.1 j.2 2).bind fun a1 => (op i.2 j.1 2).bind fun a2 => (op i.2 j.2 2).bind fun a3 =>
  (op i.1 j.1 3).bind fun b0 => (op i.1 j.2 3).bind fun b1 => (op i.2 j.1 3).bind fun b2 => (op i.2 j.2 3).bind fun b3 =>
  some (bestF (-1) a0.1 [a1.1, a2.1, a3.1], bestF 1 b0.1 [b1.1, b2.1, b3.1])
theorem endsK_ok {opk : Nat → Nat → Int → Option (Nat × Int)} {op : FOp} (h : ∀ x y m r, opk x y m = some r → op x y m = r) {i j r : IvT} (hk : endsK opk i j = some r) : endsF op i j = r := by
  unfold endsK at hk
  simp only [Option.bind_eq_some_iff] at hk
  obtain ⟨a0, h0, a1, h1, a2, h2, a3, h3, b0, g0, b1, g1, b2, g2, b3, g3, e⟩ := hk
  rw [endsF, h _ _ _ _ h0, h _ _ _ _ h1, h _ _ _ _ h2, h _ _ _ _ h3, h _ _ _ _ g0, h _ _ _ _ g1, h _ _ _ _ g2, h _ _ _ _ g3]
  exact Option.some.inj e
theorem mulI_eq {i j r : IvT} (h : endsK mulK i j = some r) : mulI i j = r := endsK_ok (fun x y m r h => mulFc_ok h) h
theorem divI_eq {i j r : IvT} (h : endsK divK i j = some r) : divI i j = r := endsK_ok (fun x y m r h => divFc_ok h) h
theorem addI_eq {i j : IvT} {a b : Nat} {f g : Int} (h : addK i.1 j.1 2 = some (a, f)) (h' : addK i.2 j.2 3 = some (b, g)) : addI i j = (a, b) := by
  rw [addI, addFc_ok h, addFc_ok h']
abbrev kA : IvT := (4607182418800017408, 4611686018427387904)
abbrev kB : IvT := (13835058055282163712, 4607182418800017408)
theorem k_mul : mulI kA kB = (13839561654909534208, 4611686018427387904) := mulI_eq (by decide +kernel)
theorem k_mulBA : mulI kB kA = (13839561654909534208, 4611686018427387904) := mulI_eq (by decide +kernel)
theorem k_mulAA : mulI kA kA = (4607182418800017408, 4616189618054758400) := mulI_eq (by decide +kernel)
theorem k_add : addI kA kB = (13830554455654793216, 4613937818241073152) := addI_eq (f := 0) (g := 0) (by decide +kernel) (by decide +kernel)
theorem k_neg : negI kA = (13835058055282163712, 13830554455654793216) := by decide
theorem k_sub : subI kA kB = (9223372036854775808, 4616189618054758400) := by
  rw [subI, show negI kB = (13830554455654793216, 4611686018427387904) by decide]
  exact addI_eq (f := 0) (g := 0) (by decide +kernel) (by decide +kernel)
theorem k_div : divI (4607182418800017408, 4607182418800017408) (4611686018427387904, 4616189618054758400) = (4598175219545276416, 4602678819172646912) := divI_eq (by decide +kernel)
theorem k_addD : addI (4607182418800017408, 4616189618054758400) (13839561654909534208, 4611686018427387904) = (13837309855095848960, 4618441417868443648) := addI_eq (f := 0) (g := 0) (by decide +kernel) (by decide +kernel)
theorem k_far : mulI (4607182418800017408, 9218868437227405311) kA = (4607182418800017408, 9218868437227405312) := mulI_eq (by decide +kernel)

theorem finK {i : IvT} (h1 : i.1 < 18446744073709551616) (h2 : i.2 < 18446744073709551616) (g1 : mag i.1 < 9218868437227405312) (g2 : mag i.2 < 9218868437227405312) (hl : fvq i.1 ≤ fvq i.2) : FinI i (fvq i.1) (fvq i.2) := ⟨.self h1 g1, .self h2 g2, hl⟩
theorem fin_kA : FinI kA (fvq kA.1) (fvq kA.2) := finK (by decide) (by decide) (by decide) (by decide) (by decide +kernel)
theorem fin_kB : FinI kB (fvq kB.1) (fvq kB.2) := finK (by decide) (by decide) (by decide) (by decide) (by decide +kernel)
abbrev kL (a b : IvT) (k : Nat) : IvT := if k = 0 then a else b
theorem kL_fin {a b : IvT} (ha : FinI a (fvq a.1) (fvq a.2)) (hb : FinI b (fvq b.1) (fvq b.2)) (k : Nat) : FinI (kL a b k) (fvq (kL a b k).1) (fvq (kL a b k).2) := by
  unfold kL; split
  · exact ha
  · exact hb
theorem k_dot : dotR (kL kA kB) (kL kA kA) 2 2 = ((13837309855095848960, 4618441417868443648), 0) := by
  have h0 : dotI (kL kA kB) (kL kA kA) 0 = some (4607182418800017408, 4616189618054758400) := by
    rw [dotI]
    show (if finI (mulI kA kA) = true then some (mulI kA kA) else none) = _
    rw [k_mulAA, if_pos (by decide)]
  refine dotR_some (by omega) ?_
  show dotI (kL kA kB) (kL kA kA) (0 + 1) = _
  rw [dotI, h0]
  show (if finI (mulI kB kA) = true then (if finI (addI _ (mulI kB kA)) = true then some (addI _ (mulI kB kA)) else none) else none) = _
  rw [k_mulBA, if_pos (by decide), k_addD, if_pos (by decide)]
abbrev kF : IvT := (4607182418800017408, 9218868437227405311)
theorem fin_kF : FinI kF (fvq kF.1) (fvq kF.2) := finK (by decide) (by decide) (by decide) (by decide) (by decide +kernel)
theorem k_dotF : dotR (kL kF kF) (kL kA kA) 1 1 = ((0, 0), 10) := by
  refine dotR_none (by omega) ?_
  show dotI (kL kF kF) (kL kA kA) 0 = none
  rw [dotI]
  show (if finI (mulI kF kA) = true then some (mulI kF kA) else none) = _
  rw [k_far, if_neg (by decide)]
theorem one2_ok (f : Nat) : CallP Try.prog 27 [.int .u64 f] (.p (ivP (f, f))) [] := by
  refine callG_of_vc (wr := wr0) Γok mixed Try.func27 (by kernel_rfl) rfl (by kernel_rfl) (le_of_ble rfl) (by simp) ?_
  exact SRet.pure (.p _ (pers_iv (f, f)))
theorem zn_bz {n : Int} (h : n.natAbs < 100) : Bz (n : Rat) 64 := zint_bz (by omega)
theorem has_k {i : IvT} (hi : FinI i (fvq i.1) (fvq i.2)) (n : Int) (hn : n.natAbs < 100) (b : Bool) (h : (decide (fvq i.1 ≤ (n : Rat)) && decide ((n : Rat) ≤ fvq i.2)) = b) : CallP Try.prog 15 [ivP i, ratP (n : Rat)] (.p (.bool b)) [] := by
  have c := ivhas_fin (n : Rat) hi (zn_bz hn) (by omega)
  rwa [hi.hasI, h] at c
theorem bools_ten (k : Nat) (h : k < 10) : ([.bool true, .bool true, .bool true, .bool true, .bool true, .bool true, .bool true, .bool true, .bool true, .bool true] : List PV)[k]? = some (.bool true) := by
  match k, h with
  | 0, _ => rfl
  | 1, _ => rfl
  | 2, _ => rfl
  | 3, _ => rfl
  | 4, _ => rfl
  | 5, _ => rfl
  | 6, _ => rfl
  | 7, _ => rfl
  | 8, _ => rfl
  | 9, _ => rfl
theorem ivalKnown_ok (which : Int) : CallP Try.prog 5 [.int .i64 which] (.p (.bool true)) [] := by
  refine callG_of_vc (wr := wr0) Γok mixed Try.func5 (by kernel_rfl) rfl (by kernel_rfl) (le_of_ble rfl) (by simp) ?_
  refine SCall.pure (known4_ok) ?_
  refine SCmp.no (rfl) ?_
  have oA := fin_kA.ok
  have oB := fin_kB.ok
  refine SCall.pure (one2_ok 4607182418800017408) ?_
  have q1 := ivquo_fin (4607182418800017408, 4607182418800017408) ⟨by decide, by decide⟩ (j := (4611686018427387904, 4616189618054758400)) (finK (by decide) (by decide) (by decide) (by decide) (by decide +kernel))
  rw [quoI_some (by decide +kernel), k_div] at q1
  refine SCall.pureT (q1) (fun _ => rfl) ?_
  have q2 := ivquo_fin kA oA fin_kB
  rw [quoI_zero (by decide +kernel)] at q2
  refine SCall.pureT (q2) (fun _ => rfl) ?_
  have q3 := ivquo_fin kA oA (j := (0, 4607182418800017408)) (finK (by decide) (by decide) (by decide) (by decide) (by decide +kernel))
  rw [quoI_zero (by decide +kernel)] at q3
  refine SCall.pureT (q3) (fun _ => rfl) ?_
  have d1 := ivdot_ok true true (kL kA kB) (kL kA kA) 2 2 ⟨fun k _ => kL_fin fin_kA fin_kB k, fun k _ => kL_fin fin_kA fin_kA k⟩ (by omega)
  rw [k_dot, show ivL 2 (kL kA kB) = [ivP kA, ivP kB] from rfl, show ivL 2 (kL kA kA) = [ivP kA, ivP kA] from rfl] at d1
  refine SView.all rfl ?_
  refine SView.all rfl ?_
  refine SCall.pureT (d1) (fun _ => rfl) ?_
  have d2 := ivdot_ok false false (kL kA kB) (kL kA kA) 0 0 ⟨fun k _ => kL_fin fin_kA fin_kB k, fun k _ => kL_fin fin_kA fin_kA k⟩ (by omega)
  rw [dotR_long (.inr rfl), show ivL 0 (kL kA kB) = [] from rfl, show ivL 0 (kL kA kA) = [] from rfl] at d2
  refine SCall.pureT (d2) (fun _ => rfl) ?_
  have d3 := ivdot_ok true true (kL kF kF) (kL kA kA) 1 1 ⟨fun k _ => kL_fin fin_kF fin_kF k, fun k _ => kL_fin fin_kA fin_kA k⟩ (by omega)
  rw [k_dotF, show ivL 1 (kL kF kF) = [ivP kF] from rfl, show ivL 1 (kL kA kA) = [ivP kA] from rfl] at d3
  refine SView.all rfl ?_
  refine SView.all rfl ?_
  refine SCall.pureT (d3) (fun _ => rfl) ?_
  have ca := ivadd_ok kA kB oA oB
  rw [k_add] at ca
  have cs := ivsub_ok kA kB oA oB
  rw [k_sub] at cs
  have cm := ivmul_ok kA kB oA oB
  rw [k_mul] at cm
  have cn := ivneg_ok kA oA
  rw [k_neg] at cn
  have h1 := has_k fin_kA 1 (by omega) true (by decide +kernel)
  have h2 := has_k fin_kA 2 (by omega) true (by decide +kernel)
  have h3 := has_k fin_kA 0 (by omega) false (by decide +kernel)
  have h4 := ivhas_ok (18442240474082181120, 9218868437227405312) ((9 : Int) : Rat) ⟨by decide, by decide⟩ (zn_bz (by omega)) (by omega)
  rw [show rightI (18442240474082181120, 9218868437227405312) = true by decide, show hasI (18442240474082181120, 9218868437227405312) ((9 : Int) : Rat) = true by decide +kernel, Bool.true_and] at h4
  have r1 := ivright_ok kA oA
  rw [show rightI kA = true by decide] at r1
  have r2 := ivright_ok (4611686018427387904, 4607182418800017408) ⟨by decide, by decide⟩
  rw [show rightI (4611686018427387904, 4607182418800017408) = false by decide] at r2
  have r3 := ivright_ok (0, 9218868437227405313) ⟨by decide, by decide⟩
  rw [show rightI (0, 9218868437227405313) = false by decide] at r3
  have r4 := ivright_ok (0, 9223372036854775808) ⟨by decide, by decide⟩
  rw [show rightI (0, 9223372036854775808) = true by decide] at r4
  refine SDraw.mkX (by kernel_rfl) ?_
  repeat refine SOp.mk _ _ (And.intro rfl rfl) rfl ?_
  refine SOp.mk _ _ (SCall.pure (ca) (And.intro rfl rfl)) rfl ?_
  repeat refine SOp.mk _ _ (And.intro rfl rfl) rfl ?_
  refine SOp.mk _ _ (SCmp.yes (by decide) (And.intro rfl rfl)) rfl ?_
  repeat refine SOp.mk _ _ (And.intro rfl rfl) rfl ?_
  refine SOp.mk _ _ (SCall.pure (cs) (And.intro rfl rfl)) rfl ?_
  repeat refine SOp.mk _ _ (And.intro rfl rfl) rfl ?_
  refine SOp.mk _ _ (SCmp.yes (by decide) (And.intro rfl rfl)) rfl ?_
  repeat refine SOp.mk _ _ (And.intro rfl rfl) rfl ?_
  refine SOp.mk _ _ (SCall.pure (cm) (And.intro rfl rfl)) rfl ?_
  repeat refine SOp.mk _ _ (And.intro rfl rfl) rfl ?_
  refine SOp.mk _ _ (SCmp.yes (by decide) (And.intro rfl rfl)) rfl ?_
  repeat refine SOp.mk _ _ (And.intro rfl rfl) rfl ?_
  refine SOp.mk _ _ (SCall.pure (cn) (And.intro rfl rfl)) rfl ?_
  repeat refine SOp.mk _ _ (And.intro rfl rfl) rfl ?_
  refine SOp.mk _ _ (SCmp.yes (by decide) (And.intro rfl rfl)) rfl ?_
  repeat refine SOp.mk _ _ (And.intro rfl rfl) rfl ?_
  refine SOp.mk _ _ (SCmp.yes (rfl) (And.intro rfl rfl)) rfl ?_
  repeat refine SOp.mk _ _ (And.intro rfl rfl) rfl ?_
  refine SOp.mk _ _ (SCmp.yes (by decide) (And.intro rfl rfl)) rfl ?_
  repeat refine SOp.mk _ _ (And.intro rfl rfl) rfl ?_
  refine SOp.mk _ _ (SCmp.yes (rfl) (And.intro rfl rfl)) rfl ?_
  repeat refine SOp.mk _ _ (And.intro rfl rfl) rfl ?_
  refine SOp.mk _ _ (SCmp.yes (rfl) (And.intro rfl rfl)) rfl ?_
  repeat refine SOp.mk _ _ (And.intro rfl rfl) rfl ?_
  refine SOp.mk _ _ (SCmp.yes (rfl) (And.intro rfl rfl)) rfl ?_
  repeat refine SOp.mk _ _ (And.intro rfl rfl) rfl ?_
  refine SOp.mk _ _ (SCmp.yes (by decide) (And.intro rfl rfl)) rfl ?_
  repeat refine SOp.mk _ _ (And.intro rfl rfl) rfl ?_
  refine SOp.mk _ _ (SCmp.yes (rfl) (And.intro rfl rfl)) rfl ?_
  repeat refine SOp.mk _ _ (And.intro rfl rfl) rfl ?_
  refine SOp.mk _ _ (SCmp.yes (rfl) (And.intro rfl rfl)) rfl ?_
  repeat refine SOp.mk _ _ (And.intro rfl rfl) rfl ?_
  refine SOp.mk _ _ (SCall.pure (rint_ok 1 (by omega)) (And.intro rfl rfl)) rfl ?_
  refine SOp.mk _ _ (SCall.pure (h1) (And.intro rfl rfl)) rfl ?_
  repeat refine SOp.mk _ _ (And.intro rfl rfl) rfl ?_
  refine SOp.mk _ _ (SCall.pure (rint_ok 2 (by omega)) (And.intro rfl rfl)) rfl ?_
  refine SOp.mk _ _ (SCall.pure (h2) (And.intro rfl rfl)) rfl ?_
  repeat refine SOp.mk _ _ (And.intro rfl rfl) rfl ?_
  refine SOp.mk _ _ (SCall.pure (rint_ok 0 (by omega)) (And.intro rfl rfl)) rfl ?_
  refine SOp.mk _ _ (SCall.pure (h3) (And.intro rfl rfl)) rfl ?_
  refine SOp.mk _ _ (SCmp.yes (rfl) (And.intro rfl rfl)) rfl ?_
  repeat refine SOp.mk _ _ (And.intro rfl rfl) rfl ?_
  refine SOp.mk _ _ (SCall.pure (rint_ok 9 (by omega)) (And.intro rfl rfl)) rfl ?_
  refine SOp.mk _ _ (SCall.pure (h4) (And.intro rfl rfl)) rfl ?_
  repeat refine SOp.mk _ _ (And.intro rfl rfl) rfl ?_
  refine SOp.mk _ _ (SCall.pure (r1) (And.intro rfl rfl)) rfl ?_
  repeat refine SOp.mk _ _ (And.intro rfl rfl) rfl ?_
  refine SOp.mk _ _ (SCall.pure (r2) (And.intro rfl rfl)) rfl ?_
  refine SOp.mk _ _ (SCmp.yes (rfl) (And.intro rfl rfl)) rfl ?_
  repeat refine SOp.mk _ _ (And.intro rfl rfl) rfl ?_
  refine SOp.mk _ _ (SCall.pure (r3) (And.intro rfl rfl)) rfl ?_
  refine SOp.mk _ _ (SCmp.yes (rfl) (And.intro rfl rfl)) rfl ?_
  repeat refine SOp.mk _ _ (And.intro rfl rfl) rfl ?_
  refine SOp.mk _ _ (SCall.pure (r4) (And.intro rfl rfl)) rfl ?_
  repeat refine SOp.mk _ _ (And.intro rfl rfl) rfl ?_
  refine SFin.mk (by kernel_rfl) ?_
  refine SZ.mk 10 rfl ?_
  have w1 := within4_ok which 10 (by omega) (by omega)
  obtain ⟨k, hk⟩ : ∃ k : Nat, (k : Int) = which % 10 := ⟨(which % 10).toNat, by omega⟩
  rw [← hk] at w1
  refine SCall.pure (w1) ?_
  refine SPos.mk k rfl (by omega) ?_
  refine SIdx.mk k (.bool true) rfl (bools_ten k (by omega)) ?_
  exact SRet.pure (.p _ (.bool _))
end Go.Proofs.Ytacklcbgkigcaaa
