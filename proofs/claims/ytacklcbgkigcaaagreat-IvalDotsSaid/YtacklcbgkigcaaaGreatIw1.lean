/- Enclosures, the program's: the walks. -/
import Derived.Test.YtacklcbgkigcaaaGreatIm3
namespace Go.Proofs.YtacklcbgkigcaaaGreat
open Go
set_option linter.unusedVariables false
set_option linter.unusedSimpArgs false
set_option maxRecDepth 10000

/-! #### a number whose limbs are lent -/
abbrev ratL (m m' : Bool) (q : Rat) : PV := .agg [.bool (decide (q.num < 0)), natM m q.num.natAbs, natM m' q.den]
theorem mark_okL (m m' : Bool) (q : Rat) : CallP Tryz.prog 164 [ratL m m' q] (.p (markP q)) [] := by
  refine callG_of_vc (wr := wr0) Γok mixed Tryz.func164 (by kernel_rfl) rfl (by kernel_rfl) (le_of_ble rfl) (by simp) ?_
  have h0 := nlen_zero_iff (n := q.num.natAbs)
  by_cases h : q.num < 0
  · rw [ratL, markP, decide_eq_true h, decide_eq_false (show ¬ q.num = 0 by omega)]
    refine SCond.mk (fun _ => ?_) (fun h => by cases h)
    refine SZ.mk (nlen q.num.natAbs : Int) (by simp) ?_
    have hp := mt h0.1 (by omega)
    refine SCmp.yes (decide_eq_true (by omega)) ?_
    refine SZ.mk (nlen q.num.natAbs : Int) (by simp) ?_
    refine SCmp.no (eqF (by omega)) ?_
    exact SRet.pure (.p _ (pers_mark _ _))
  · rw [ratL, markP, decide_eq_false h]
    refine SCond.mk (fun h => by cases h) (fun _ => ?_)
    refine SZ.mk (nlen q.num.natAbs : Int) (by simp) ?_
    by_cases hz : q.num = 0
    · have hp := h0.2 (by omega)
      refine SCmp.yes (eqT (by omega)) ?_
      rw [decide_eq_true hz]
      exact SRet.pure (.p _ (pers_mark _ _))
    · have hp := mt h0.1 (by omega)
      refine SCmp.no (eqF (by omega)) ?_
      rw [decide_eq_false hz]
      exact SRet.pure (.p _ (pers_mark _ _))
theorem ratcmp_okL (m m' : Bool) (p q : Rat) {j k : Nat} (hp : Sz p j) (hq : Sz q k) (h : j + k ≤ 137438953472) : CallP Tryz.prog 134 [ratP p, ratL m m' q] (.p (.int .i64 (cmpQ p q))) [] := by
  refine callG_of_vc (wr := wr0) Γok mixed Tryz.func134 (by kernel_rfl) rfl (by kernel_rfl) (le_of_ble rfl) (by simp) ?_
  refine SDraw.mk (by kernel_rfl) ?_
  refine SOp.mk _ _ (And.intro rfl rfl) rfl ?_
  refine SOp.mk _ _ (SCall.pure (mark_ok p) (And.intro rfl rfl)) rfl ?_
  refine SOp.mk _ _ (And.intro rfl rfl) rfl ?_
  refine SOp.mk _ _ (SCall.pure (mark_okL m m' q) (And.intro rfl rfl)) rfl ?_
  iterate 4 refine SOp.mk _ _ (And.intro rfl rfl) rfl ?_
  have hpd : (0 : Int) < (p.den : Int) := by have := p.den_nz; omega
  have hqd : (0 : Int) < (q.den : Int) := by have := q.den_nz; omega
  have h1 := hp.n
  have h2 := hp.d
  have h3 := hq.n
  have h4 := hq.d
  have hP : p.num * (q.den : Int) = sgn (decide (p.num < 0)) (p.num.natAbs * q.den) := num_x p q
  have hQ : q.num * (p.den : Int) = sgn (decide (q.num < 0)) (q.num.natAbs * p.den) := num_x q p
  have m1 := mul_ok false m' p.num.natAbs q.den (by omega) (by omega)
  have m2 := mul_ok m false q.num.natAbs p.den (by omega) (by omega)
  have x0 : p.num ≠ 0 → 0 < p.num.natAbs * q.den := fun h => Nat.mul_pos (by omega) (by omega)
  have y0 : q.num ≠ 0 → 0 < q.num.natAbs * p.den := fun h => Nat.mul_pos (by omega) (by omega)
  have xz : p.num = 0 → p.num.natAbs * q.den = 0 := fun h => by rw [h]; simp
  have yz : q.num = 0 → q.num.natAbs * p.den = 0 := fun h => by rw [h]; simp
  have hxl : nlen (p.num.natAbs * q.den) ≤ j + k := nlen_mul' h1 h4
  have hyl : nlen (q.num.natAbs * p.den) ≤ j + k := by rw [Nat.add_comm]; exact nlen_mul' h3 h2
  have m3 := cmp_ok false false (p.num.natAbs * q.den) (q.num.natAbs * p.den) (by omega) (by omega)
  rw [cmpQ_eq, hP, hQ]
  generalize hx : p.num.natAbs * q.den = x at *
  generalize hy : q.num.natAbs * p.den = y at *
  by_cases p1 : p.num < 0
  · have p2 : ¬ p.num = 0 := by omega
    have x1 := x0 p2
    rw [decide_eq_true p1, decide_eq_false p2]
    by_cases q1 : q.num < 0
    · have q2 : ¬ q.num = 0 := by omega
      rw [decide_eq_true q1, decide_eq_false q2]
      refine SCmp.no rfl ?_
      refine SDraw.mk (by kernel_rfl) ?_
      iterate 4 refine SOp.mk _ _ (And.intro rfl rfl) rfl ?_
      refine SOp.mk _ _ (SCall.pure m1 (And.intro rfl rfl)) rfl ?_
      iterate 4 refine SOp.mk _ _ (And.intro rfl rfl) rfl ?_
      refine SOp.mk _ _ (SCall.pure m2 (And.intro rfl rfl)) rfl ?_
      refine SOp.mk _ _ (SCall.pure m3 (And.intro rfl rfl)) rfl ?_
      iterate 1 refine SOp.mk _ _ (And.intro rfl rfl) rfl ?_
      refine SCond.mk (fun _ => ?_) (fun h => by cases h)
      refine SWrap.i64z (0 - cmpZ x y) rfl (by simp only [cmpZ]; split <;> (try split) <;> omega) ?_
      refine SRet.pure ?_
      rw [show (if sgn true x < sgn true y then (-1 : Int) else if sgn true x = sgn true y then 0 else 1) = 0 - cmpZ x y by
        simp only [sgn, if_true, cmpZ]
        rcases Nat.lt_trichotomy x y with h | h | h
        · rw [if_neg (by omega), if_neg (by omega), if_pos h]; rfl
        · rw [if_neg (by omega), if_pos (by omega), if_neg (by omega), if_pos h]; rfl
        · rw [if_pos (by omega), if_neg (by omega), if_neg (by omega)]; rfl]
      exact .p _ (.int _ _)
    · rw [decide_eq_false q1]
      by_cases q2 : q.num = 0
      · rw [decide_eq_true q2]
        refine SCmp.yes rfl ?_
        refine SCond.mk (fun _ => ?_) (fun h => by cases h)
        refine SRet.pure ?_
        rw [show (if sgn true x < sgn false y then (-1 : Int) else if sgn true x = sgn false y then 0 else 1) = -1 by
          simp only [sgn, if_true, Bool.false_eq_true, if_false]
          rw [if_pos (by omega)]]
        exact .p _ (.int _ _)
      · rw [decide_eq_false q2]
        refine SCmp.yes rfl ?_
        refine SCond.mk (fun _ => ?_) (fun h => by cases h)
        refine SRet.pure ?_
        rw [show (if sgn true x < sgn false y then (-1 : Int) else if sgn true x = sgn false y then 0 else 1) = -1 by
          simp only [sgn, if_true, Bool.false_eq_true, if_false]
          rw [if_pos (by omega)]]
        exact .p _ (.int _ _)
  · rw [decide_eq_false p1]
    by_cases p2 : p.num = 0
    · have x1 := xz p2
      rw [decide_eq_true p2]
      by_cases q1 : q.num < 0
      · have q2 : ¬ q.num = 0 := by omega
        have y1 := y0 q2
        rw [decide_eq_true q1, decide_eq_false q2]
        refine SCmp.yes rfl ?_
        refine SCond.mk (fun h => by cases h) (fun _ => ?_)
        refine SCond.mk (fun _ => ?_) (fun h => by cases h)
        refine SCmp.no rfl ?_
        refine SRet.pure ?_
        rw [show (if sgn false x < sgn true y then (-1 : Int) else if sgn false x = sgn true y then 0 else 1) = 1 by
          simp only [sgn, if_true, Bool.false_eq_true, if_false]
          rw [if_neg (by omega), if_neg (by omega)]]
        exact .p _ (.int _ _)
      · rw [decide_eq_false q1]
        by_cases q2 : q.num = 0
        · rw [decide_eq_true q2]
          refine SCmp.no rfl ?_
          refine SDraw.mk (by kernel_rfl) ?_
          iterate 4 refine SOp.mk _ _ (And.intro rfl rfl) rfl ?_
          refine SOp.mk _ _ (SCall.pure m1 (And.intro rfl rfl)) rfl ?_
          iterate 4 refine SOp.mk _ _ (And.intro rfl rfl) rfl ?_
          refine SOp.mk _ _ (SCall.pure m2 (And.intro rfl rfl)) rfl ?_
          refine SOp.mk _ _ (SCall.pure m3 (And.intro rfl rfl)) rfl ?_
          iterate 1 refine SOp.mk _ _ (And.intro rfl rfl) rfl ?_
          refine SCond.mk (fun h => by cases h) (fun _ => ?_)
          refine SRet.pure ?_
          rw [show (if sgn false x < sgn false y then (-1 : Int) else if sgn false x = sgn false y then 0 else 1) = cmpZ x y by
            simp only [sgn, Bool.false_eq_true, if_false, cmpZ]
            rcases Nat.lt_trichotomy x y with h | h | h
            · rw [if_pos (by omega), if_pos h]
            · rw [if_neg (by omega), if_pos (by omega), if_neg (by omega), if_pos h]
            · rw [if_neg (by omega), if_neg (by omega), if_neg (by omega), if_neg (by omega)]]
          exact .p _ (.int _ _)
        · have y1 := y0 q2
          rw [decide_eq_false q2]
          refine SCmp.yes rfl ?_
          refine SCond.mk (fun h => by cases h) (fun _ => ?_)
          refine SCond.mk (fun _ => ?_) (fun h => by cases h)
          refine SCmp.yes rfl ?_
          refine SRet.pure ?_
          rw [show (if sgn false x < sgn false y then (-1 : Int) else if sgn false x = sgn false y then 0 else 1) = -1 by
            simp only [sgn, if_true, Bool.false_eq_true, if_false]
            rw [if_pos (by omega)]]
          exact .p _ (.int _ _)
    · have x1 := x0 p2
      rw [decide_eq_false p2]
      by_cases q1 : q.num < 0
      · have q2 : ¬ q.num = 0 := by omega
        have y1 := y0 q2
        rw [decide_eq_true q1, decide_eq_false q2]
        refine SCmp.yes rfl ?_
        refine SCond.mk (fun h => by cases h) (fun _ => ?_)
        refine SCond.mk (fun h => by cases h) (fun _ => ?_)
        refine SRet.pure ?_
        rw [show (if sgn false x < sgn true y then (-1 : Int) else if sgn false x = sgn true y then 0 else 1) = 1 by
          simp only [sgn, if_true, Bool.false_eq_true, if_false]
          rw [if_neg (by omega), if_neg (by omega)]]
        exact .p _ (.int _ _)
      · rw [decide_eq_false q1]
        by_cases q2 : q.num = 0
        · have y1 := yz q2
          rw [decide_eq_true q2]
          refine SCmp.yes rfl ?_
          refine SCond.mk (fun h => by cases h) (fun _ => ?_)
          refine SCond.mk (fun h => by cases h) (fun _ => ?_)
          refine SRet.pure ?_
          rw [show (if sgn false x < sgn false y then (-1 : Int) else if sgn false x = sgn false y then 0 else 1) = 1 by
            simp only [sgn, if_true, Bool.false_eq_true, if_false]
            rw [if_neg (by omega), if_neg (by omega)]]
          exact .p _ (.int _ _)
        · have y1 := y0 q2
          rw [decide_eq_false q2]
          refine SCmp.no rfl ?_
          refine SDraw.mk (by kernel_rfl) ?_
          iterate 4 refine SOp.mk _ _ (And.intro rfl rfl) rfl ?_
          refine SOp.mk _ _ (SCall.pure m1 (And.intro rfl rfl)) rfl ?_
          iterate 4 refine SOp.mk _ _ (And.intro rfl rfl) rfl ?_
          refine SOp.mk _ _ (SCall.pure m2 (And.intro rfl rfl)) rfl ?_
          refine SOp.mk _ _ (SCall.pure m3 (And.intro rfl rfl)) rfl ?_
          iterate 1 refine SOp.mk _ _ (And.intro rfl rfl) rfl ?_
          refine SCond.mk (fun h => by cases h) (fun _ => ?_)
          refine SRet.pure ?_
          rw [show (if sgn false x < sgn false y then (-1 : Int) else if sgn false x = sgn false y then 0 else 1) = cmpZ x y by
            simp only [sgn, Bool.false_eq_true, if_false, cmpZ]
            rcases Nat.lt_trichotomy x y with h | h | h
            · rw [if_pos (by omega), if_pos h]
            · rw [if_neg (by omega), if_pos (by omega), if_neg (by omega), if_pos h]
            · rw [if_neg (by omega), if_neg (by omega), if_neg (by omega), if_neg (by omega)]]
          exact .p _ (.int _ _)
theorem zeroL_eq : ratL false true 0 = .agg [.bool false, .sl false 1 [], .sl true 1 [.int .u32 1]] := by
  show PV.agg [.bool (decide ((0 : Int) < 0)), .sl false 1 (limbs (nl (0 : Int).natAbs)), .sl true 1 (limbs (nl 1))] = _
  rw [show (0 : Int).natAbs = 0 from rfl, nl_zero, nl_one']; rfl
theorem ivinf_ok (f : Nat) (hf : f < 18446744073709551616) (b : Bool) (hb : isInf f = b) : CallP Tryz.prog 132 [.int .u64 f] (.p (.bool b)) [] := by
  refine callG_of_vc (wr := wr0) Γok mixed Tryz.func132 (by kernel_rfl) rfl (by kernel_rfl) (le_of_ble rfl) (by simp) ?_
  refine SWrap.nosign f rfl rfl hf ?_
  cases b with
  | true =>
    have := of_decide_eq_true hb
    refine SCmp.yes (eqT (by omega)) ?_
    exact SRet.pure (.tf _)
  | false =>
    have := of_decide_eq_false hb
    refine SCmp.no (eqF (by omega)) ?_
    exact SRet.pure (.tf _)
theorem ivright_ok (i : IvT) (hi : IvOk i) : CallP Tryz.prog 32 [ivP i] (.p (.bool (rightI i))) [] := by
  refine callG_of_vc (wr := wr0) Γok mixed Tryz.func32 (by kernel_rfl) rfl (by kernel_rfl) (le_of_ble rfl) (by simp) ?_
  have c := sfcmp_ok i.1 i.2 hi.lo hi.hi
  have hr : rightI i = ((cmpF i.1 i.2).2 && decide ((cmpF i.1 i.2).1 ≤ 0)) := rfl
  obtain ⟨⟨o, is⟩, he⟩ : ∃ r, r = cmpF i.1 i.2 := ⟨_, rfl⟩
  rw [← he] at c hr
  rw [hr]
  refine SCall.pureT (c) (fun _ => rfl) ?_
  cases is with
  | true =>
    refine SCond.mk (fun _ => ?_) (fun h => by cases h)
    refine SCmp.sym ?_
    rw [Bool.true_and]
    exact SRet.pure (.p _ (.bool _))
  | false =>
    refine SCond.mk (fun h => by cases h) (fun _ => ?_)
    exact SRet.pure (.tf _)
theorem ivof_ok (q : Rat) {k : Nat} (hq : Bz q k) (hk : k ≤ 65536) : CallP Tryz.prog 34 [ratP q] (.p (ivP (ofI q))) [] := by
  refine callG_of_vc (wr := wr0) Γok mixed Tryz.func34 (by kernel_rfl) rfl (by kernel_rfl) (le_of_ble rfl) (by simp) ?_
  refine SCall.pureT (sfof_ok q 2 hq hk) (fun _ => rfl) ?_
  refine SCall.pureT (sfof_ok q 3 hq hk) (fun _ => rfl) ?_
  exact SRet.pure (.p _ (pers_iv (ofI q)))
theorem ivneg_ok (i : IvT) (hi : IvOk i) : CallP Tryz.prog 18 [ivP i] (.p (ivP (negI i))) [] := by
  refine callG_of_vc (wr := wr0) Γok mixed Tryz.func18 (by kernel_rfl) rfl (by kernel_rfl) (le_of_ble rfl) (by simp) ?_
  refine SWrap.turn i.2 rfl rfl hi.hi ?_
  refine SWrap.turn i.1 rfl rfl hi.lo ?_
  exact SRet.pure (.p _ (pers_iv (negI i)))
/-- What is done to two floats. -/
structure DoesP (f : FuncId) (op : FOp) : Prop where
  call : ∀ (x y : Nat) (mode : Int), x < 18446744073709551616 → y < 18446744073709551616 → CallP Tryz.prog f [.int .u64 x, .int .u64 y, .int .i64 mode] (fpair (op x y mode)) []
  lt : ∀ (x y : Nat) (mode : Int), x < 18446744073709551616 → y < 18446744073709551616 → (op x y mode).1 < 18446744073709551616
theorem doesAdd : DoesP 74 addF := ⟨fun x y m hx hy => sfadd_ok x y m hx hy, fun x y m hx hy => (ok_add hx hy m).1⟩
theorem doesMul : DoesP 76 mulF := ⟨fun x y m hx hy => sfmul_ok x y m hx hy, fun x y m hx hy => (ok_mul x y m).1⟩
theorem doesDiv : DoesP 89 divF := ⟨fun x y m hx hy => sfdiv_ok x y m hx hy, fun x y m hx hy => (ok_div x y m).1⟩
theorem doesof_ok {f : FuncId} {op : FOp} (h : DoesP f op) (x y : Nat) (mode : Int) (hx : x < 18446744073709551616) (hy : y < 18446744073709551616) :
    CallP Tryz.prog 75 [.fn f [], .int .u64 x, .int .u64 y, .int .i64 mode] (.p (.int .u64 ((op x y mode).1 : Nat))) [] := by
  refine callG_of_vc (wr := wr0) Γok mixed Tryz.func75 (by kernel_rfl) rfl (by kernel_rfl) (le_of_ble rfl) (by simp) ?_
  refine SCall.pureT (h.call x y mode hx hy) (fun _ => rfl) ?_
  exact SRet.pure (.p _ (.int _ _))
theorem ivadd_ok (i j : IvT) (hi : IvOk i) (hj : IvOk j) : CallP Tryz.prog 15 [ivP i, ivP j] (.p (ivP (addI i j))) [] := by
  refine callG_of_vc (wr := wr0) Γok mixed Tryz.func15 (by kernel_rfl) rfl (by kernel_rfl) (le_of_ble rfl) (by simp) ?_
  refine SDraw.mkX (by kernel_rfl) ?_
  repeat refine SOp.mk _ _ (And.intro rfl rfl) rfl ?_
  refine SOp.mk _ _ (SCall.pure (doesof_ok doesAdd i.1 j.1 2 hi.lo hj.lo) (And.intro rfl rfl)) rfl ?_
  repeat refine SOp.mk _ _ (And.intro rfl rfl) rfl ?_
  refine SOp.mk _ _ (SCall.pure (doesof_ok doesAdd i.2 j.2 3 hi.hi hj.hi) (And.intro rfl rfl)) rfl ?_
  repeat refine SOp.mk _ _ (And.intro rfl rfl) rfl ?_
  refine SFin.mk (by kernel_rfl) ?_
  exact SRet.pure (.p _ (pers_iv (addI i j)))
theorem NegI.ok {i : IvT} (h : IvOk i) : IvOk (negI i) := ⟨flip_lt h.hi, flip_lt h.lo⟩
theorem ivsub_ok (i j : IvT) (hi : IvOk i) (hj : IvOk j) : CallP Tryz.prog 16 [ivP i, ivP j] (.p (ivP (subI i j))) [] := by
  refine callG_of_vc (wr := wr0) Γok mixed Tryz.func16 (by kernel_rfl) rfl (by kernel_rfl) (le_of_ble rfl) (by simp) ?_
  refine SDraw.mkX (by kernel_rfl) ?_
  repeat refine SOp.mk _ _ (And.intro rfl rfl) rfl ?_
  refine SOp.mk _ _ (SCall.pure (ivneg_ok j hj) (And.intro rfl rfl)) rfl ?_
  refine SOp.mk _ _ (SCall.pure (ivadd_ok i (negI j) hi (NegI.ok hj)) (And.intro rfl rfl)) rfl ?_
  repeat refine SOp.mk _ _ (And.intro rfl rfl) rfl ?_
  refine SFin.mk (by kernel_rfl) ?_
  exact SRet.pure (.p _ (pers_iv (subI i j)))

/-! #### the least, the greatest -/
theorem best_snoc (o : Int) (x : Nat) : ∀ (l : List Nat) (f : Nat), bestF o f (l ++ [x]) = (if (cmpF x (bestF o f l)).2 = true ∧ (cmpF x (bestF o f l)).1 = o then x else bestF o f l) := by
  intro l
  induction l with
  | nil => intro f; rfl
  | cons y l ih => intro f; exact ih _
theorem best_step {o : Int} {l : List Nat} {f i : Nat} (h : i < l.length) : bestF o f (l.take (i + 1)) = (if (cmpF (l.getD i 0) (bestF o f (l.take i))).2 = true ∧ (cmpF (l.getD i 0) (bestF o f (l.take i))).1 = o then l.getD i 0 else bestF o f (l.take i)) := by
  have e : l.take (i + 1) = l.take i ++ [l.getD i 0] := by rw [List.take_add_one, List.getElem?_eq_getElem h]; simp [List.getD, List.getElem?_eq_getElem h]
  rw [e, best_snoc]
theorem best_lt {o : Int} : ∀ {l : List Nat} {f : Nat}, f < 18446744073709551616 → (∀ x ∈ l, x < 18446744073709551616) → bestF o f l < 18446744073709551616 := by
  intro l
  induction l with
  | nil => intro f hf _; exact hf
  | cons y l ih =>
    intro f hf hl
    rw [bestF]
    refine ih ?_ fun x hx => hl x (List.mem_cons_of_mem _ hx)
    split
    · exact hl y List.mem_cons_self
    · exact hf
theorem ivbest_ok (m : Bool) (o : Int) (f : Nat) (l : List Nat) (hf : f < 18446744073709551616) (hl : ∀ x ∈ l, x < 18446744073709551616) (hn : l.length ≤ 1000) :
    CallP Tryz.prog 131 [.int .i64 o, .sl m 1 (u64s (f :: l))] (.p (.int .u64 ((bestF o f l : Nat) : Int))) [] := by
  refine callG_of_vc (wr := wr0) Γok mixed Tryz.func131 (by kernel_rfl) rfl (by kernel_rfl) (le_of_ble rfl) (by simp) ?_
  refine SIdx.ub 0 rfl (by simp) ?_
  refine SZ.mk ((l.length + 1 : Nat) : Int) (by simp) ?_
  refine SLt.mk (by simp) ?_
  refine SCut.mk 1 (l.length + 1) rfl (by simp) (by omega) (by simp) ?_
  refine SEs.mk (u64s l) (by simp; exact List.take_of_length_le (by simp)) ?_
  refine SZ.mk (l.length : Int) (by simp) ?_
  refine SLoop.mk Nat (fun i => ([(0, .p (.int .i64 o)), (5, .p (.int .u64 ((bestF o f (l.take i) : Nat) : Int))), (14, .p (.sl m 1 (u64s l))), (15, .p (.int .i64 l.length)), (16, .p (.int .i64 i))], [])) (fun i => i ≤ l.length) (fun i => l.length - i) 0 []
    (Nat.zero_le _) ⟨rfl, .nil, rfl, rfl, rfl, ⟨rfl, rfl, rfl, rfl, rfl, trivial⟩, trivial⟩ ?_
  intro i h1
  have h1 : i ≤ l.length := h1
  by_cases hi : i < l.length
  · refine SCmp.yes (decide_eq_true (by omega)) ?_
    refine SIdx.ub i rfl hi ?_
    have hx : l.getD i 0 < 18446744073709551616 := hl _ (by rw [List.getD, List.getElem?_eq_getElem hi]; exact List.getElem_mem hi)
    have hs := best_step (o := o) (f := f) hi
    have hg : bestF o f (l.take i) < 18446744073709551616 := best_lt hf fun x hx => hl x (List.mem_of_mem_take hx)
    have c := sfcmp_ok (l.getD i 0) (bestF o f (l.take i)) hx hg
    obtain ⟨x, hxd⟩ : ∃ x, x = l.getD i 0 := ⟨_, rfl⟩
    obtain ⟨g, hgd⟩ : ∃ g, g = bestF o f (l.take i) := ⟨_, rfl⟩
    rw [← hxd, ← hgd] at hs c
    rw [← hxd, ← hgd]
    obtain ⟨⟨z, is⟩, hr⟩ : ∃ r, r = cmpF x g := ⟨_, rfl⟩
    rw [← hr] at hs c
    refine SCall.pureT (c) (fun _ => rfl) ?_
    cases is with
    | true =>
      refine SCond.mk (fun _ => ?_) (fun h => by cases h)
      by_cases hz : z = o
      · refine SCmp.yes (eqT hz) ?_
        rw [if_pos ⟨rfl, hz⟩] at hs
        refine SWrap.i64z ((i + 1 : Nat) : Int) (by omega) (by omega) ?_
        exact ⟨i + 1, [], hi, by show l.length - (i + 1) < l.length - i; omega, ⟨rfl, .nil, rfl, rfl, rfl, ⟨rfl, congrArg (fun (n : Nat) => AV.p (.int .u64 (n : Int))) hs, rfl, rfl, rfl, trivial⟩, trivial⟩⟩
      · refine SCmp.no (eqF hz) ?_
        rw [if_neg (fun e => hz e.2)] at hs
        refine SWrap.i64z ((i + 1 : Nat) : Int) (by omega) (by omega) ?_
        exact ⟨i + 1, [], hi, by show l.length - (i + 1) < l.length - i; omega, ⟨rfl, .nil, rfl, rfl, rfl, ⟨rfl, congrArg (fun (n : Nat) => AV.p (.int .u64 (n : Int))) hs, rfl, rfl, rfl, trivial⟩, trivial⟩⟩
    | false =>
      refine SCond.mk (fun h => by cases h) (fun _ => ?_)
      rw [if_neg (fun e => by cases e.1)] at hs
      refine SWrap.i64z ((i + 1 : Nat) : Int) (by omega) (by omega) ?_
      exact ⟨i + 1, [], hi, by show l.length - (i + 1) < l.length - i; omega, ⟨rfl, .nil, rfl, rfl, rfl, ⟨rfl, congrArg (fun (n : Nat) => AV.p (.int .u64 (n : Int))) hs, rfl, rfl, rfl, trivial⟩, trivial⟩⟩
  · refine SCmp.no (decide_eq_false (by omega)) ?_
    have : i = l.length := by omega
    subst this
    rw [List.take_length]
    exact SRet.pure (.p _ (.int _ _))
theorem ends1_ok {f : FuncId} {op : FOp} (h : DoesP f op) (m1 m2 m3 : Bool) (i j : IvT) (hi : IvOk i) (hj : IvOk j) (mode o : Int) :
    CallP Tryz.prog 130 [.int .i64 mode, .int .i64 o, .pel m1 (.fn f []), .pel m2 (ivP i), .pel m3 (ivP j)] (.p (.int .u64 ((bestF o (op i.1 j.1 mode).1 [(op i.1 j.2 mode).1, (op i.2 j.1 mode).1, (op i.2 j.2 mode).1] : Nat) : Int))) [] := by
  refine callG_of_vc (wr := wr0) Γok mixed Tryz.func130 (by kernel_rfl) rfl (by kernel_rfl) (le_of_ble rfl) (by simp) ?_
  refine SDraw.mkX (by kernel_rfl) ?_
  repeat refine SOp.mk _ _ (And.intro rfl rfl) rfl ?_
  refine SOp.mk _ _ (SCall.pure (doesof_ok h i.1 j.1 mode hi.lo hj.lo) (And.intro rfl rfl)) rfl ?_
  repeat refine SOp.mk _ _ (And.intro rfl rfl) rfl ?_
  refine SOp.mk _ _ (SCall.pure (doesof_ok h i.1 j.2 mode hi.lo hj.hi) (And.intro rfl rfl)) rfl ?_
  repeat refine SOp.mk _ _ (And.intro rfl rfl) rfl ?_
  refine SOp.mk _ _ (SCall.pure (doesof_ok h i.2 j.1 mode hi.hi hj.lo) (And.intro rfl rfl)) rfl ?_
  repeat refine SOp.mk _ _ (And.intro rfl rfl) rfl ?_
  refine SOp.mk _ _ (SCall.pure (doesof_ok h i.2 j.2 mode hi.hi hj.hi) (And.intro rfl rfl)) rfl ?_
  repeat refine SOp.mk _ _ (And.intro rfl rfl) rfl ?_
  refine SOp.mk _ _ (SView.all rfl (SCall.pure (ivbest_ok true o _ [(op i.1 j.2 mode).1, (op i.2 j.1 mode).1, (op i.2 j.2 mode).1] (h.lt _ _ _ hi.lo hj.lo) (fun x hx => by
    simp at hx
    rcases hx with e | e | e <;> subst e
    · exact h.lt _ _ _ hi.lo hj.hi
    · exact h.lt _ _ _ hi.hi hj.lo
    · exact h.lt _ _ _ hi.hi hj.hi) (by simp)) (And.intro rfl rfl))) rfl ?_
  repeat refine SOp.mk _ _ (And.intro rfl rfl) rfl ?_
  refine SFin.mk (by kernel_rfl) ?_
  exact SRet.pure (.p _ (.int _ _))
theorem ends_lt {f : FuncId} {op : FOp} (h : DoesP f op) {i j : IvT} (hi : IvOk i) (hj : IvOk j) : IvOk (endsF op i j) := by
  refine ⟨best_lt (h.lt _ _ _ hi.lo hj.lo) fun x hx => ?_, best_lt (h.lt _ _ _ hi.lo hj.lo) fun x hx => ?_⟩ <;>
  · simp at hx
    rcases hx with e | e | e <;> subst e
    · exact h.lt _ _ _ hi.lo hj.hi
    · exact h.lt _ _ _ hi.hi hj.lo
    · exact h.lt _ _ _ hi.hi hj.hi
theorem ends_ok {f : FuncId} {op : FOp} (h : DoesP f op) (i j : IvT) (hi : IvOk i) (hj : IvOk j) : CallP Tryz.prog 77 [.fn f [], ivP i, ivP j] (.p (ivP (endsF op i j))) [] := by
  refine callG_of_vc (wr := wr0) Γok mixed Tryz.func77 (by kernel_rfl) rfl (by kernel_rfl) (le_of_ble rfl) (by simp) ?_
  refine SCall.pure (pvs := [.int .i64 2, .int .i64 (-1), .pel true (.fn f []), .pel true (ivP i), .pel true (ivP j)]) (ends1_ok h true true true i j hi hj 2 (-1)) ?_
  refine SCall.pure (pvs := [.int .i64 3, .int .i64 1, .pel true (.fn f []), .pel true (ivP i), .pel true (ivP j)]) (ends1_ok h true true true i j hi hj 3 1) ?_
  exact SRet.pure (.p _ (pers_iv (endsF op i j)))
theorem ivmul_ok (i j : IvT) (hi : IvOk i) (hj : IvOk j) : CallP Tryz.prog 17 [ivP i, ivP j] (.p (ivP (mulI i j))) [] := by
  refine callG_of_vc (wr := wr0) Γok mixed Tryz.func17 (by kernel_rfl) rfl (by kernel_rfl) (le_of_ble rfl) (by simp) ?_
  refine SCall.pure (ends_ok doesMul i j hi hj) ?_
  exact SRet.pure (.p _ (pers_iv (mulI i j)))

/-! #### what an enclosure has -/
def sideF (f : Nat) (a : Rat) : Int := if isInf f then (if ngt f then -1 else 1) else if isNan f then 0 else cmpQ (fvq f) a
theorem inf_ngt {f : Nat} (hf : f < 18446744073709551616) (h : isInf f = true) : f = 9218868437227405312 ↔ ngt f = false := by
  have h1 := of_decide_eq_true h
  unfold ngt
  rw [decide_eq_false_iff_not]
  omega
/-- A number's parts, against which numbers can be held. -/
def CmpP (x y z : PV) (a : Rat) : Prop := ∀ f : Nat, CallP Tryz.prog 134 [ratP (fvq f), .agg [x, y, z]] (.p (.int .i64 (cmpQ (fvq f) a))) []
theorem side_okL (f : Nat) (a : Rat) (hf : f < 18446744073709551616) {u v z : PV} (hc : CmpP u v z a) : CallP Tryz.prog 79 [.int .u64 f, .agg [u, v, z]] (.p (.int .i64 (sideF f a))) [] := by
  refine callG_of_vc (wr := wr0) Γok mixed Tryz.func79 (by kernel_rfl) rfl (by kernel_rfl) (le_of_ble rfl) (by simp) ?_
  unfold sideF
  cases h : isInf f with
  | true =>
    refine SCall.pure (ivinf_ok f hf _ h) ?_
    refine SCond.mk (fun _ => ?_) (fun h => by cases h)
    rw [if_pos rfl]
    cases hn : ngt f with
    | true =>
      have : f ≠ 9218868437227405312 := fun e => by rw [(inf_ngt hf h).1 e] at hn; cases hn
      refine SCmp.no (eqF (by omega)) ?_
      exact SRet.pure (.p _ (.int _ _))
    | false =>
      have := (inf_ngt hf h).2 hn
      refine SCmp.yes (eqT (by omega)) ?_
      exact SRet.pure (.p _ (.int _ _))
  | false =>
    refine SCall.pure (ivinf_ok f hf _ h) ?_
    refine SCond.mk (fun h => by cases h) (fun _ => ?_)
    rw [if_neg Bool.false_ne_true]
    cases hn : isNan f with
    | true =>
      refine SCall.pureT (sfrat_no f hf (.inl hn)) (fun _ => rfl) ?_
      refine SCmp.yes (rfl) ?_
      exact SRet.pure (.p _ (.int _ _))
    | false =>
      refine SCall.pureT (sfrat_ok f hf hn h) (fun _ => rfl) ?_
      refine SCmp.no (rfl) ?_
      refine SCall.pure (hc f) ?_
      exact SRet.pure (.p _ (.int _ _))
theorem cmpQ_le0' {p q : Rat} : (cmpQ p q ≤ 0) ↔ p ≤ q := by
  unfold cmpQ
  split
  · rename_i h; exact ⟨fun _ => by grind, fun _ => by omega⟩
  · rename_i h; split
    · rename_i e; exact ⟨fun _ => by rw [e]; exact Rat.le_refl, fun _ => by omega⟩
    · rename_i e; exact ⟨fun h => by omega, fun h2 => (e (by grind)).elim⟩
theorem cmpQ_ge0' {p q : Rat} : (0 ≤ cmpQ p q) ↔ q ≤ p := by
  unfold cmpQ
  split
  · rename_i h; exact ⟨fun h2 => by omega, fun h2 => by grind⟩
  · rename_i h; split
    · rename_i e; exact ⟨fun _ => by rw [e]; exact Rat.le_refl, fun _ => by omega⟩
    · rename_i e; exact ⟨fun _ => by grind, fun _ => by omega⟩
theorem side_le {x : Nat} {a : Rat} (h : isNan x = false) : decide (sideF x a ≤ 0) = decide (LeQ x a) := by
  apply decide_eq_decide.2
  unfold sideF LeQ
  rw [h]
  cases isInf x with
  | true => rw [if_pos rfl, if_pos rfl]; cases ngt x <;> simp
  | false => rw [if_neg Bool.false_ne_true, if_neg Bool.false_ne_true, if_neg Bool.false_ne_true]; exact cmpQ_le0'
theorem side_ge {x : Nat} {a : Rat} (h : isNan x = false) : decide (sideF x a ≥ 0) = decide (GeQ x a) := by
  apply decide_eq_decide.2
  unfold sideF GeQ
  rw [h]
  cases isInf x with
  | true => rw [if_pos rfl, if_pos rfl]; cases ngt x <;> simp
  | false => rw [if_neg Bool.false_ne_true, if_neg Bool.false_ne_true, if_neg Bool.false_ne_true]; exact cmpQ_ge0'
theorem right_num {i : IvT} (h : rightI i = true) : isNan i.1 = false ∧ isNan i.2 = false := by
  rw [rightI, cmpF, Bool.and_eq_true] at h
  have h := h.1
  split at h
  · cases h
  · rename_i e; simpa using e
theorem ivhas_okL (i : IvT) (a : Rat) (hi : IvOk i) {u v z : PV} (hc : CmpP u v z a) : CallP Tryz.prog 21 [ivP i, .agg [u, v, z]] (.p (.bool (rightI i && hasI i a))) [] := by
  refine callG_of_vc (wr := wr0) Γok mixed Tryz.func21 (by kernel_rfl) rfl (by kernel_rfl) (le_of_ble rfl) (by simp) ?_
  have c := ivright_ok i hi
  cases hr : rightI i with
  | false =>
    rw [hr] at c
    refine SCall.pure (c) ?_
    refine SCond.mk (fun h => by cases h) (fun _ => ?_)
    exact SRet.pure (.tf _)
  | true =>
    rw [hr] at c
    obtain ⟨n1, n2⟩ := right_num hr
    have e1 := side_le (a := a) n1
    have e2 := side_ge (a := a) n2
    refine SCall.pure (c) ?_
    refine SCond.mk (fun _ => ?_) (fun h => by cases h)
    refine SCall.pure (side_okL i.1 a hi.lo hc) ?_
    rw [hasI, Bool.true_and]
    cases h1 : decide (LeQ i.1 a) with
    | false =>
      rw [h1] at e1
      refine SCmp.no (e1) ?_
      exact SRet.pure (.tf _)
    | true =>
      rw [h1] at e1
      refine SCmp.yes (e1) ?_
      refine SCall.pure (side_okL i.2 a hi.hi hc) ?_
      cases h2 : decide (GeQ i.2 a) with
      | false =>
        rw [h2] at e2
        refine SCmp.no (e2) ?_
        exact SRet.pure (.tf _)
      | true =>
        rw [h2] at e2
        refine SCmp.yes (e2) ?_
        exact SRet.pure (.tf _)
theorem ivhas_ok (i : IvT) (a : Rat) (hi : IvOk i) {k : Nat} (ha : Bz a k) (hk : k ≤ 65536) : CallP Tryz.prog 21 [ivP i, ratP a] (.p (.bool (rightI i && hasI i a))) [] :=
  ivhas_okL i a hi fun f => ratcmp_ok (fvq f) a (fvq_bz f).sz ha.sz (by omega)
theorem ivhas0_ok (i : IvT) (hi : IvOk i) : CallP Tryz.prog 21 [ivP i, .agg [.bool false, .sl false 1 [], .sl true 1 [.int .u32 1]]] (.p (.bool (rightI i && hasI i 0))) [] :=
  ivhas_okL i 0 hi fun f => by
    have h0 : Bz 0 1 := ⟨by decide, by decide⟩
    have := ratcmp_okL false true (fvq f) 0 (fvq_bz f).sz h0.sz (by omega)
    rwa [zeroL_eq] at this
theorem ivquo_ok (i j : IvT) (hi : IvOk i) (hj : IvOk j) : CallP Tryz.prog 29 [ivP i, ivP j] (if (rightI j && hasI j 0) = true then .tup [.p (ivP (0, 0)), .p (.int .i64 5)] else .tup [.p (ivP (divI i j)), .p (.int .i64 0)]) [] := by
  refine callG_of_vc (wr := wr0) Γok mixed Tryz.func29 (by kernel_rfl) rfl (by kernel_rfl) (le_of_ble rfl) (by simp) ?_
  have c := ivhas0_ok j hj
  refine SView.all rfl ?_
  cases h : (rightI j && hasI j 0) with
  | true =>
    rw [h] at c
    refine SCall.pure (c) ?_
    refine SCond.mk (fun _ => ?_) (fun h => by cases h)
    rw [if_pos rfl]
    exact SRet.pure (.tup rfl fun i c d e1 e2 => by
      match i, e1, e2 with
      | 0, e1, e2 => cases e1; cases e2; exact .p _ (pers_iv (0, 0))
      | 1, e1, e2 => cases e1; cases e2; exact .p _ (.int _ _))
  | false =>
    rw [h] at c
    refine SCall.pure (c) ?_
    refine SCond.mk (fun h => by cases h) (fun _ => ?_)
    rw [if_neg Bool.false_ne_true]
    refine SCall.pure (ends_ok doesDiv i j hi hj) ?_
    exact SRet.pure (.tup rfl fun i c d e1 e2 => by
      match i, e1, e2 with
      | 0, e1, e2 => cases e1; cases e2; exact .p _ (pers_iv _)
      | 1, e1, e2 => cases e1; cases e2; exact .p _ (.int _ _))
end Go.Proofs.YtacklcbgkigcaaaGreat
