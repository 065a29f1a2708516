/- FGKnown: what its proof needs, part 5. -/
import Derived.Test.YtjfcphohgicolaaHGKnown4
set_option linter.unusedVariables false
set_option linter.unusedSimpArgs false
namespace Go.Proofs.Ytjfcphohgicolaa
open Go
set_option linter.unusedVariables false
set_option linter.unusedSimpArgs false
set_option maxRecDepth 10000
theorem ranked_ok (k : Nat) (h1 : 1 ≤ k) (h7 : k ≤ 7) : CallP Try.prog 88 [.int .i64 k] (.p (.bool (decide (k = 6 ∨ k = 7)))) [] := by
  refine callG_of_vc (wr := wr0) Γok mixed Try.func88 (by kernel_rfl) rfl (by kernel_rfl) (le_of_ble rfl) (by simp) ?_
  by_cases e6 : k = 6
  · refine SCmp.yes (decide_eq_true (by omega)) ?_
    rw [decide_eq_true (.inl e6)]
    exact SRet.pure (.tf _)
  · refine SCmp.no (decide_eq_false (by omega)) ?_
    by_cases e7 : k = 7
    · refine SCmp.yes (decide_eq_true (by omega)) ?_
      rw [decide_eq_true (.inr e7)]
      exact SRet.pure (.tf _)
    · refine SCmp.no (decide_eq_false (by omega)) ?_
      rw [decide_eq_false (by omega)]
      exact SRet.pure (.tf _)
theorem sized_ok (m : Nat → Bool) (g : GV) {b c : Nat} (h : Wf g b c) : CallP Try.prog 62 [genP m g] (.p (.bool true)) [] := by
  have h1 := h.k1
  have h7 := h.k7
  have n1 := h.n1
  have n6 := h.n6
  have r2 := h.r2
  refine callG_of_vc (wr := wr0) Γok mixed Try.func62 (by kernel_rfl) rfl (by kernel_rfl) (le_of_ble rfl) (by simp) ?_
  refine SCmp.no (decide_eq_false (by omega)) ?_
  refine SCmp.no (decide_eq_false (by omega)) ?_
  refine SCall.pure (ranked_ok g.k h1 h7) ?_
  by_cases hl : g.k = 6 ∨ g.k = 7
  · have r1 := h.r1 hl
    rw [decide_eq_true hl]
    refine SCond.mk (fun _ => ?_) (fun h => by cases h)
    refine SCmp.yes (decide_eq_true (by omega)) ?_
    refine SCmp.yes (decide_eq_true (by omega)) ?_
    exact SRet.pure (.tf _)
  · have r0 := h.r0 (by omega)
    rw [decide_eq_false hl]
    refine SCond.mk (fun h => by cases h) (fun _ => ?_)
    refine SCmp.yes (decide_eq_true (by omega)) ?_
    exact SRet.pure (.tf _)
theorem genrows_ok (m : Nat → Bool) (g : GV) : CallL Try.prog 63 [genP m g] (.agg [ratsM (m 0) (lst g.la g.A), ratsM (m 1) (lst g.lb g.B), ratsM (m 2) (lst g.lh g.G), ratsM (m 3) (lst g.lh g.H)]) := by
  refine callL_of_vc (wr := wr0) Γok mixed Try.func63 (by kernel_rfl) rfl (by kernel_rfl) (le_of_ble rfl) ?_
  exact rfl
abbrev cntK (k i : Int) : PV := .agg [.int .i64 k, .int .i64 i]
abbrev cntV (a b c : Int) : PV := .agg [.int .i64 a, .int .i64 b, .int .i64 c]
abbrev cntM : List (PV × PV) := [(cntK 1 0, cntV 2 0 (-1)), (cntK 2 0, cntV 2 0 (-1)), (cntK 3 0, cntV 1 0 0), (cntK 4 0, cntV 1 0 0), (cntK 5 0, cntV 1 0 0), (cntK 5 1, cntV 1 0 0), (cntK 6 2, cntV 0 1 0), (cntK 6 3, cntV 0 1 0), (cntK 7 0, cntV 1 0 0), (cntK 7 1, cntV 1 0 0), (cntK 7 2, cntV 0 1 0), (cntK 7 3, cntV 0 1 0)]
theorem counts_ok : CallP Try.prog 64 [] (.p (.mp false cntM)) [] := by
  refine callG_of_vc (wr := wr0) Γok mixed Try.func64 (by kernel_rfl) rfl (by kernel_rfl) (le_of_ble rfl) (by simp) ?_
  refine SDraw.mkX (by kernel_rfl) ?_
  repeat refine SOp.mk _ _ (And.intro rfl rfl) rfl ?_
  refine SOp.mk _ _ (SKeys.all rfl <| SPut.add rfl (And.intro rfl rfl)) rfl ?_
  repeat refine SOp.mk _ _ (And.intro rfl rfl) rfl ?_
  refine SOp.mk _ _ (SKeys.all rfl <| SPut.add rfl (And.intro rfl rfl)) rfl ?_
  repeat refine SOp.mk _ _ (And.intro rfl rfl) rfl ?_
  refine SOp.mk _ _ (SKeys.all rfl <| SPut.add rfl (And.intro rfl rfl)) rfl ?_
  repeat refine SOp.mk _ _ (And.intro rfl rfl) rfl ?_
  refine SOp.mk _ _ (SKeys.all rfl <| SPut.add rfl (And.intro rfl rfl)) rfl ?_
  repeat refine SOp.mk _ _ (And.intro rfl rfl) rfl ?_
  refine SOp.mk _ _ (SKeys.all rfl <| SPut.add rfl (And.intro rfl rfl)) rfl ?_
  repeat refine SOp.mk _ _ (And.intro rfl rfl) rfl ?_
  refine SOp.mk _ _ (SKeys.all rfl <| SPut.add rfl (And.intro rfl rfl)) rfl ?_
  repeat refine SOp.mk _ _ (And.intro rfl rfl) rfl ?_
  refine SOp.mk _ _ (SKeys.all rfl <| SPut.add rfl (And.intro rfl rfl)) rfl ?_
  repeat refine SOp.mk _ _ (And.intro rfl rfl) rfl ?_
  refine SOp.mk _ _ (SKeys.all rfl <| SPut.add rfl (And.intro rfl rfl)) rfl ?_
  repeat refine SOp.mk _ _ (And.intro rfl rfl) rfl ?_
  refine SOp.mk _ _ (SKeys.all rfl <| SPut.add rfl (And.intro rfl rfl)) rfl ?_
  repeat refine SOp.mk _ _ (And.intro rfl rfl) rfl ?_
  refine SOp.mk _ _ (SKeys.all rfl <| SPut.add rfl (And.intro rfl rfl)) rfl ?_
  repeat refine SOp.mk _ _ (And.intro rfl rfl) rfl ?_
  refine SOp.mk _ _ (SKeys.all rfl <| SPut.add rfl (And.intro rfl rfl)) rfl ?_
  repeat refine SOp.mk _ _ (And.intro rfl rfl) rfl ?_
  refine SOp.mk _ _ (SKeys.all rfl <| SPut.add rfl (And.intro rfl rfl)) rfl ?_
  repeat refine SOp.mk _ _ (And.intro rfl rfl) rfl ?_
  refine SFin.mkL (by kernel_rfl) ?_
  refine SLit.mk cntM rfl rfl fun es hp => ?_
  refine SRet.pure (.frzmap (es := es) rfl (by simp) hp fun e he => ?_)
  have : ∀ a b c d f : Int, Pers (cntK a b) ∧ Pers (cntV c d f) := fun a b c d f => ⟨.agg _ fun x hx => by
    simp only [List.mem_cons, List.not_mem_nil, or_false] at hx; rcases hx with rfl | rfl <;> exact .int _ _, .agg _ fun x hx => by
    simp only [List.mem_cons, List.not_mem_nil, or_false] at hx; rcases hx with rfl | rfl | rfl <;> exact .int _ _⟩
  have he := hp.mem_iff.1 he
  simp only [cntM, List.mem_cons, List.not_mem_nil, or_false] at he
  rcases he with rfl | rfl | rfl | rfl | rfl | rfl | rfl | rfl | rfl | rfl | rfl | rfl <;> exact this _ _ _ _ _
theorem bz_nlen {q : Rat} (h : Bz q 100) : nlen q.num.natAbs ≤ 4 ∧ nlen q.den ≤ 4 := by
  have : ∀ {a : Nat}, bitLen a ≤ 100 → nlen a ≤ 4 := fun {a} ha => nlen_le (Nat.lt_of_lt_of_le (bitLen_lt a) (Nat.le_trans (Nat.pow_le_pow_right (by decide) ha) (by decide)))
  exact ⟨this h.1, this h.2⟩
theorem gsmall_ok (q : Rat) (h : Bz q 100) : CallP Try.prog 67 [ratP q] (.p (.bool true)) [] := by
  obtain ⟨h1, h2⟩ := bz_nlen h
  refine callG_of_vc (wr := wr0) Γok mixed Try.func67 (by kernel_rfl) rfl (by kernel_rfl) (le_of_ble rfl) (by simp) ?_
  refine SZ.mk (nlen q.num.natAbs : Int) (by simp) ?_
  refine SCmp.yes (decide_eq_true (by omega)) ?_
  refine SZ.mk (nlen q.den : Int) (by simp) ?_
  refine SCmp.yes (decide_eq_true (by omega)) ?_
  refine SCall.pure (ratright_ok q h.sz (by omega)) ?_
  exact SRet.pure (.p _ (.bool _))
theorem check1_ok (q : Rat) (h : Bz q 100) : CallP Try.prog 66 [ratP q] (.p (.bool false)) [] := by
  refine callG_of_vc (wr := wr0) Γok mixed Try.func66 (by kernel_rfl) rfl (by kernel_rfl) (le_of_ble rfl) (by simp) ?_
  refine SCall.pure (gsmall_ok q h) ?_
  refine SCmp.no (rfl) ?_
  exact SRet.pure (.tf _)
theorem check2_ok (m : Bool) (a b : Rat) {k : Nat} (ha : Bz a k) (hb : Bz b k) (hk : k + k ≤ 1048576) : CallP Try.prog 68 [ratP b, .pel m (ratP a)] (.p (.bool (decide (a = b)))) [] := by
  refine callG_of_vc (wr := wr0) Γok mixed Try.func68 (by kernel_rfl) rfl (by kernel_rfl) (le_of_ble rfl) (by simp) ?_
  refine SCall.pure (ratsame_ok a b ha.sz hb.sz (by omega)) ?_
  exact SRet.pure (.p _ (.bool _))
theorem none1I_ok (m : Bool) (l : List Rat) (hF : ∀ i, i < l.length → CallP Try.prog 66 [ratP (l.getD i 0)] (.p (.bool false)) []) (hn : l.length ≤ 1099511627776) :
    CallP Try.prog 89 [ratsM m l, .fn 66 []] (.p (.int .i64 (-1))) [] := by
  refine callG_of_vc (wr := wr0) Γok mixed Try.func89 (by kernel_rfl) rfl (by kernel_rfl) (le_of_ble rfl) (by simp) ?_
  refine SZ.mk (l.length : Int) (by simp) ?_
  refine SLoop.mk Nat (fun i => ([(0, .p (ratsM m l)), (1, .p (.fn 66 [])), (7, .p (.int .i64 l.length)), (8, .p (.int .i64 i))], []))
    (fun i => i ≤ l.length) (fun i => l.length - i) 0 [] (Nat.zero_le _) ⟨rfl, .nil, rfl, rfl, rfl, ⟨rfl, rfl, rfl, rfl, trivial⟩, trivial⟩ ?_
  intro i h1
  have h1 : i ≤ l.length := h1
  by_cases hi : i < l.length
  · refine SCmp.yes (decide_eq_true (by omega)) ?_
    refine SIdx.rb i rfl hi ?_
    refine SCall.pure (pvs := [ratP (l.getD i 0)]) (hF i hi) ?_
    refine SCond.mk (fun h => by cases h) (fun _ => ?_)
    refine SWrap.i64z ((i + 1 : Nat) : Int) (by omega) (by omega) ?_
    exact ⟨i + 1, [], hi, by show l.length - (i + 1) < l.length - i; omega, ⟨rfl, .nil, rfl, rfl, rfl, ⟨rfl, rfl, rfl, rfl, trivial⟩, trivial⟩⟩
  · refine SCmp.no (decide_eq_false (by omega)) ?_
    exact SRet.pure (.p _ (.int _ _))
theorem none1_ok (m : Bool) (l : List Rat) (hF : ∀ i, i < l.length → CallP Try.prog 66 [ratP (l.getD i 0)] (.p (.bool false)) []) (hn : l.length ≤ 1099511627776) :
    CallP Try.prog 65 [ratsM m l, .fn 66 []] (.p (.bool false)) [] := by
  refine callG_of_vc (wr := wr0) Γok mixed Try.func65 (by kernel_rfl) rfl (by kernel_rfl) (le_of_ble rfl) (by simp) ?_
  refine SCall.pure (pvs := [ratsM m l, .fn 66 []]) (none1I_ok m l hF hn) ?_
  refine SCmp.no (rfl) ?_
  exact SRet.pure (.tf _)
theorem none2I_ok (m : Bool) (m2 : Bool) (a : Rat) (l : List Rat) (hF : ∀ i, i < l.length → CallP Try.prog 68 [ratP (l.getD i 0), .pel m2 (ratP a)] (.p (.bool false)) []) (hn : l.length ≤ 1099511627776) :
    CallP Try.prog 89 [ratsM m l, .fn 68 [.pel m2 (ratP a)]] (.p (.int .i64 (-1))) [] := by
  refine callG_of_vc (wr := wr0) Γok mixed Try.func89 (by kernel_rfl) rfl (by kernel_rfl) (le_of_ble rfl) (by simp) ?_
  refine SZ.mk (l.length : Int) (by simp) ?_
  refine SLoop.mk Nat (fun i => ([(0, .p (ratsM m l)), (1, .p (.fn 68 [.pel m2 (ratP a)])), (7, .p (.int .i64 l.length)), (8, .p (.int .i64 i))], []))
    (fun i => i ≤ l.length) (fun i => l.length - i) 0 [] (Nat.zero_le _) ⟨rfl, .nil, rfl, rfl, rfl, ⟨rfl, rfl, rfl, rfl, trivial⟩, trivial⟩ ?_
  intro i h1
  have h1 : i ≤ l.length := h1
  by_cases hi : i < l.length
  · refine SCmp.yes (decide_eq_true (by omega)) ?_
    refine SIdx.rb i rfl hi ?_
    refine SCall.pure (pvs := [ratP (l.getD i 0), .pel m2 (ratP a)]) (hF i hi) ?_
    refine SCond.mk (fun h => by cases h) (fun _ => ?_)
    refine SWrap.i64z ((i + 1 : Nat) : Int) (by omega) (by omega) ?_
    exact ⟨i + 1, [], hi, by show l.length - (i + 1) < l.length - i; omega, ⟨rfl, .nil, rfl, rfl, rfl, ⟨rfl, rfl, rfl, rfl, trivial⟩, trivial⟩⟩
  · refine SCmp.no (decide_eq_false (by omega)) ?_
    exact SRet.pure (.p _ (.int _ _))
theorem none2_ok (m : Bool) (m2 : Bool) (a : Rat) (l : List Rat) (hF : ∀ i, i < l.length → CallP Try.prog 68 [ratP (l.getD i 0), .pel m2 (ratP a)] (.p (.bool false)) []) (hn : l.length ≤ 1099511627776) :
    CallP Try.prog 65 [ratsM m l, .fn 68 [.pel m2 (ratP a)]] (.p (.bool false)) [] := by
  refine callG_of_vc (wr := wr0) Γok mixed Try.func65 (by kernel_rfl) rfl (by kernel_rfl) (le_of_ble rfl) (by simp) ?_
  refine SCall.pure (pvs := [ratsM m l, .fn 68 [.pel m2 (ratP a)]]) (none2I_ok m m2 a l hF hn) ?_
  refine SCmp.no (rfl) ?_
  exact SRet.pure (.tf _)
end Go.Proofs.Ytjfcphohgicolaa

namespace Go.Proofs.Ytjfcphohgicolaa
open Go
set_option linter.unusedVariables false
set_option linter.unusedSimpArgs false
set_option maxRecDepth 10000
abbrev pairP (i k : Nat) : PV := .agg [.int .i64 (i : Int), .int .i64 (k : Int)]
theorem keq_pair (a b c d : Nat) : PV.keq (pairP a b) (pairP c d) = decide (a = c ∧ b = d) := by
  show (decide (IntKind.i64 = IntKind.i64) && (((a : Int) == (c : Int)) && (decide (IntKind.i64 = IntKind.i64) && (((b : Int) == (d : Int)) && true)))) = _
  have hd : decide (IntKind.i64 = IntKind.i64) = true := rfl
  rw [hd, Bool.true_and, Bool.true_and, Bool.and_true]
  by_cases e1 : a = c
  · by_cases e2 : b = d
    · rw [decide_eq_true (show a = c ∧ b = d from ⟨e1, e2⟩), e1, e2]; simp
    · rw [decide_eq_false (show ¬ (a = c ∧ b = d) from fun h => e2 h.2), beq_eq_false_iff_ne.2 (show (b : Int) ≠ d by omega), Bool.and_false]
  · rw [decide_eq_false (show ¬ (a = c ∧ b = d) from fun h => e1 h.1), beq_eq_false_iff_ne.2 (show (a : Int) ≠ c by omega), Bool.false_and]
theorem pers_pair (i k : Nat) : Pers (pairP i k) := .agg _ fun x hx => by
  simp only [List.mem_cons, List.not_mem_nil, or_false] at hx; rcases hx with rfl | rfl <;> exact .int _ _
end Go.Proofs.Ytjfcphohgicolaa

namespace Go.Proofs.Ytjfcphohgicolaa
open Go
set_option linter.unusedVariables false
set_option linter.unusedSimpArgs false
/-- A call that makes blocks and answers with them. -/
theorem SCall.news {P : Program} {wr : Bool} {f : FuncId} {L : Hd → Blk} {base : Nat} {K : AV → List (Hd × Blk) → Prop} {pvs : List PV} {r : AV} {nb : List Blk} (hc : CallP P f pvs r nb) (hf : ∀ B ∈ nb, B ≠ .free)
    (hk : K (r.ren (renOf [] base)) (nb.zipIdx.map fun x => (.t (renN [] base x.2), x.1.ren (renOf [] base)))) {raw : List AV} : SCall P wr f raw (pvs.map .p) L base K :=
  .mk [] (pvs.map .p) r [] nb (fun _ => rfl) .nil (fun _ h => by simp at h) (by rw [AV.renL_eq, List.map_map]; exact List.map_congr_left fun _ _ => rfl) rfl (fun i h B e => by simp at e) (fun _ h => by simp at h) (fun _ h => by simp at h) (Nat.zero_le _) hf
    (fun a ha k hk => by obtain ⟨v, _, rfl⟩ := List.mem_map.1 ha; simp only [AV.men] at hk) hc hk
end Go.Proofs.Ytjfcphohgicolaa

namespace Go.Proofs.Ytjfcphohgicolaa
/-- The first place from p on, among so many, with no nought in column j. -/
def pvG (A : Nat → Nat → Rat) (j : Nat) : Nat → Nat → Nat
  | 0, p => p
  | d + 1, p => if A p j = 0 then pvG A j d (p + 1) else p
def pv (A : Nat → Nat → Rat) (j n r : Nat) : Nat := pvG A j (n - r) r
theorem pvG_eq {A : Nat → Nat → Rat} {j : Nat} : ∀ (d r p : Nat), r ≤ p → p ≤ r + d → (∀ i, r ≤ i → i < p → A i j = 0) → (p = r + d ∨ A p j ≠ 0) → pvG A j d r = p := by
  intro d
  induction d with
  | zero => intro r p h1 h2 _ _; simp only [pvG]; omega
  | succ d ih =>
    intro r p h1 h2 h3 h4
    simp only [pvG]
    by_cases e : r = p
    · subst e
      rcases h4 with h4 | h4
      · omega
      · rw [if_neg h4]
    · rw [if_pos (h3 r (Nat.le_refl _) (by omega))]
      exact ih (r + 1) p (by omega) (by omega) (fun i hi => h3 i (by omega)) (h4.imp (fun h => by omega) id)
theorem pv_eq {A : Nat → Nat → Rat} {j n r p : Nat} (h1 : r ≤ p) (h2 : p ≤ n) (h3 : ∀ i, r ≤ i → i < p → A i j = 0) (h4 : p = n ∨ A p j ≠ 0) : pv A j n r = p :=
  pvG_eq _ _ _ h1 (by omega) h3 (h4.imp (fun h => by omega) id)
theorem pvG_spec {A : Nat → Nat → Rat} {j : Nat} : ∀ (d r : Nat), r ≤ pvG A j d r ∧ pvG A j d r ≤ r + d ∧ (∀ i, r ≤ i → i < pvG A j d r → A i j = 0) ∧ (pvG A j d r = r + d ∨ A (pvG A j d r) j ≠ 0) := by
  intro d
  induction d with
  | zero => intro r; simp only [pvG]; exact ⟨Nat.le_refl _, Nat.le_refl _, fun i h1 h2 => by omega, .inl rfl⟩
  | succ d ih =>
    intro r
    simp only [pvG]
    by_cases e : A r j = 0
    · rw [if_pos e]
      obtain ⟨h1, h2, h3, h4⟩ := ih (r + 1)
      refine ⟨by omega, by omega, fun i hi hi2 => ?_, h4.imp (fun h => by omega) id⟩
      by_cases ei : i = r
      · subst ei; exact e
      · exact h3 i (by omega) hi2
    · rw [if_neg e]; exact ⟨Nat.le_refl _, by omega, fun i h1 h2 => by omega, .inr e⟩
theorem pv_spec {A : Nat → Nat → Rat} {j n r : Nat} (h : r ≤ n) : r ≤ pv A j n r ∧ pv A j n r ≤ n ∧ (∀ i, r ≤ i → i < pv A j n r → A i j = 0) ∧ (pv A j n r = n ∨ A (pv A j n r) j ≠ 0) := by
  obtain ⟨h1, h2, h3, h4⟩ := pvG_spec (A := A) (j := j) (n - r) r
  have e : r + (n - r) = n := by omega
  rw [e] at h2 h4
  exact ⟨h1, h2, h3, h4⟩
def swpM (A : Nat → Nat → Rat) (p r : Nat) : Nat → Nat → Rat := fun i => A (if i = p then r else if i = r then p else i)
/-- Column j is cleared below row r. -/
def redM (B : Nat → Nat → Rat) (r j : Nat) : Nat → Nat → Rat := fun i k => if r < i ∧ j ≤ k then B i k - B i j / B r j * B r k else B i k
structure ElS where
  A : Nat → Nat → Rat
  det : Rat
  r : Nat
/-- The round of column j. -/
def elS (n j : Nat) (s : ElS) : ElS :=
  if n ≤ pv s.A j n s.r then ⟨s.A, 0, s.r⟩ else
    ⟨redM (swpM s.A (pv s.A j n s.r) s.r) s.r j, (if pv s.A j n s.r = s.r then s.det else -s.det) * swpM s.A (pv s.A j n s.r) s.r s.r j, s.r + 1⟩
def elim (n : Nat) (A : Nat → Nat → Rat) (j : Nat) : ElS := iter (elS n) j ⟨A, 1, 0⟩
theorem elim_succ {n : Nat} {A : Nat → Nat → Rat} {j : Nat} : elim n A (j + 1) = elS n j (elim n A j) := rfl
theorem elim_r_le {n : Nat} {A : Nat → Nat → Rat} : ∀ j, (elim n A j).r ≤ j := by
  intro j
  induction j with
  | zero => exact Nat.le_refl _
  | succ j ih =>
    rw [elim_succ]; unfold elS
    split
    · show (elim n A j).r ≤ j + 1; omega
    · show (elim n A j).r + 1 ≤ j + 1; omega
theorem elim_r_n {n : Nat} {A : Nat → Nat → Rat} : ∀ j, (elim n A j).r ≤ n := by
  intro j
  induction j with
  | zero => exact Nat.zero_le _
  | succ j ih =>
    rw [elim_succ]; unfold elS
    split
    · exact ih
    · rename_i h
      have := (pv_spec (A := (elim n A j).A) (j := j) ih).1
      show (elim n A j).r + 1 ≤ n; omega
/-- How many digits there may be in a row that was turned so often; in the determinant. -/
def bb (b : Nat) : Nat → Nat
  | 0 => b
  | k + 1 => 4 * bb b k + 1
theorem Rmono {R : Nat → Nat} (h : ∀ k, R k ≤ R (k + 1)) {i j : Nat} (hij : i ≤ j) : R i ≤ R j := by
  induction j with
  | zero => rw [Nat.le_zero.1 hij]; exact Nat.le_refl _
  | succ j ih =>
    by_cases e : i = j + 1
    · rw [e]; exact Nat.le_refl _
    · exact Nat.le_trans (ih (by omega)) (h j)
theorem swpM_r {A : Nat → Nat → Rat} {p r : Nat} : swpM A p r r = A p := by
  unfold swpM
  by_cases e : r = p
  · rw [if_pos e, e]
  · rw [if_neg e, if_pos rfl]
theorem redM_le {B : Nat → Nat → Rat} {r j i k : Nat} (h : i ≤ r ∨ k < j) : redM B r j i k = B i k := if_neg (by omega)
theorem redM_gt {B : Nat → Nat → Rat} {r j i k : Nat} (h1 : r < i) (h2 : j ≤ k) : redM B r j i k = B i k - B i j / B r j * B r k := if_pos ⟨h1, h2⟩
theorem bb_step {b : Nat} (k : Nat) : bb b k ≤ bb b (k + 1) := by simp only [bb]; omega
end Go.Proofs.Ytjfcphohgicolaa

namespace Go.Proofs.Ytjfcphohgicolaa
open Go
set_option linter.unusedVariables false
set_option linter.unusedSimpArgs false
set_option maxRecDepth 10000
theorem matP_congr {m m' : Bool} {n w : Nat} {A B : Nat → Nat → Rat} (h : ∀ i k, i < n → k < w → A i k = B i k) : matP m m' n w A = matP m m' n w B :=
  congrArg (PV.sl m 1) (fl_congr fun i hi => by rw [lst_congr fun k hk => h i k hi hk])
theorem upd2_step {S : Nat → Nat} {G2 G1 : Nat → Nat → Rat} {f g : Nat → Rat} {i w q k : Nat} {v : Rat} (inj : ∀ p q, p < i → q < i → S p = S q → p = q) (hq : q < i) (hk : k < w)
    (h : ∀ t c, t < i → c < w → G2 (S t) c = if t = q then (if c < k then f c else g c) else G1 (S t) c) (hv : v = f k) :
    ∀ t c, t < i → c < w → upd G2 (S (q + 0)) (upd (G2 (S (q + 0))) (k + 0) v) (S t) c = if t = q then (if c < k + 1 then f c else g c) else G1 (S t) c := by
  intro t c ht hc
  rw [Nat.add_zero, Nat.add_zero]
  by_cases e : t = q
  · subst e
    rw [upd_same, if_pos rfl]
    by_cases ec : c = k
    · subst ec; rw [upd_same, if_pos (by omega), hv]
    · rw [upd_other _ _ ec, h t c ht hc, if_pos rfl]
      by_cases e2 : c < k
      · rw [if_pos e2, if_pos (by omega)]
      · rw [if_neg e2, if_neg (by omega)]
  · rw [upd_other _ _ (fun e' => e (inj t q ht hq e')), h t c ht hc, if_neg e, if_neg e]
end Go.Proofs.Ytjfcphohgicolaa

namespace Go.Proofs.Ytjfcphohgicolaa
open Go
set_option linter.unusedVariables false
set_option linter.unusedSimpArgs false
set_option maxRecDepth 10000
/-- s0, less so many products. -/
def sb (a x : Nat → Rat) (s0 : Rat) (from' : Nat) : Nat → Rat
  | 0 => s0
  | d + 1 => sb a x s0 from' d - a (from' + d) * x (from' + d)
/-- What is known behind so many rounds, from the last row on. -/
def bk (A : Nat → Nat → Rat) (n : Nat) : Nat → Nat → Rat
  | 0 => fun _ => 0
  | t + 1 => upd (bk A n t) (n - 1 - t) (sb (A (n - 1 - t)) (bk A n t) (A (n - 1 - t) n) (n - t) t / A (n - 1 - t) (n - 1 - t))
theorem bk_keep {A : Nat → Nat → Rat} {n t k : Nat} (h : n ≤ k + t) (ht : t < n) : bk A n (t + 1) k = bk A n t k := by
  simp only [bk]; exact upd_other _ _ (by omega)
def augM (n : Nat) (A : Nat → Nat → Rat) (y : Nat → Rat) : Nat → Nat → Rat := fun i k => if k < n then A i k else y i
theorem SIdx.fl {n : Nat} {f : Nat → PV} {i : Int} {K : Nat → PV → Prop} (j : Nat) (v : PV) (hi : i = j) (hj : j < n) (hv : f j = v) (hk : K j v) : SIdx (fl n f) i K := by
  subst hv; exact .mk j _ hi (fl_get hj) hk
theorem replicate_fl {α : Type} (n : Nat) (z : α) : List.replicate n z = fl n fun _ => z := by
  apply List.ext_getElem (by simp)
  intro i h1 h2
  simp [Go.Proofs.Ytjfcphohgicolaa.fl]
end Go.Proofs.Ytjfcphohgicolaa

namespace Go.Proofs.Ytjfcphohgicolaa
theorem swp_ge {A : Nat → Nat → Rat} {p r n : Nat} (hp : r ≤ p) (hpn : p < n) {P : (Nat → Rat) → Prop} (h : ∀ i, i < n → r ≤ i → P (A i)) {i : Nat} (hi : i < n) (hr : r ≤ i) : P (swpM A p r i) := by
  unfold swpM
  split
  · exact h r (by omega) (Nat.le_refl _)
  · split
    · exact h p hpn hp
    · exact h i hi hr
theorem elim_ech {n : Nat} {A : Nat → Nat → Rat} : ∀ j i k, i < n → (elim n A j).r ≤ i → k < j → (elim n A j).A i k = 0 := by
  intro j
  induction j with
  | zero => intro i k _ _ h; exact absurd h (Nat.not_lt_zero _)
  | succ j ih =>
    have hr := elim_r_n (n := n) (A := A) j
    obtain ⟨p1, p2, p3, p4⟩ := pv_spec (A := (elim n A j).A) (j := j) hr
    intro i k hi
    rw [elim_succ]
    unfold elS
    split
    · rename_i hp
      intro hri hk
      by_cases e : k = j
      · subst e; exact p3 i hri (by omega)
      · exact ih i k hi hri (by omega)
    · rename_i hp
      intro hri hk
      have hri : (elim n A j).r + 1 ≤ i := hri
      show redM _ _ _ i k = 0
      by_cases e : k = j
      · subst e
        rw [redM_gt (by omega) (Nat.le_refl _)]
        have h0 : swpM (elim n A k).A (pv (elim n A k).A k n (elim n A k).r) (elim n A k).r (elim n A k).r k ≠ 0 := by
          rw [swpM_r]; exact p4.resolve_left (by omega)
        grind
      · rw [redM_le (.inr (by omega))]
        exact swp_ge (P := fun f => f k = 0) p1 (by omega) (fun q hq hrq => ih q k hq hrq (by omega)) hi (by omega)
def Ker (n w : Nat) (A : Nat → Nat → Rat) (v : Nat → Rat) : Prop := ∀ i, i < n → sm w (fun k => A i k * v k) = 0
theorem Ker.swp {n w p r : Nat} {A : Nat → Nat → Rat} {v : Nat → Rat} (hp : p < n) (hr : r < n) : Ker n w (swpM A p r) v ↔ Ker n w A v := by
  constructor
  · intro h i hi
    by_cases e1 : i = p
    · have := h r hr
      unfold swpM at this
      by_cases e2 : r = p
      · rw [if_pos e2] at this; rw [e1, ← e2]; exact this
      · rw [if_neg e2, if_pos rfl] at this; rw [e1]; exact this
    · by_cases e2 : i = r
      · have := h p hp
        unfold swpM at this
        rw [if_pos rfl] at this; rw [e2]; exact this
      · have := h i hi
        unfold swpM at this
        rw [if_neg e1, if_neg e2] at this; exact this
  · intro h i hi
    unfold swpM
    split
    · exact h r hr
    · split
      · exact h p hp
      · exact h i hi
theorem red_row {B : Nat → Nat → Rat} {r j i : Nat} (hz : ∀ k, k < j → B r k = 0) (hi : r < i) (k : Nat) : redM B r j i k = B i k - B i j / B r j * B r k := by
  by_cases e : j ≤ k
  · exact redM_gt hi e
  · rw [redM_le (.inr (by omega)), hz k (by omega)]; grind
theorem Ker.red {n w r j : Nat} {B : Nat → Nat → Rat} {v : Nat → Rat} (hz : ∀ k, k < j → B r k = 0) (hr : r < n) : Ker n w (redM B r j) v ↔ Ker n w B v := by
  have row : ∀ i, r < i → sm w (fun k => redM B r j i k * v k) = sm w (fun k => B i k * v k) - B i j / B r j * sm w (fun k => B r k * v k) := by
    intro i hi
    rw [← sm_smul, ← sm_sub]
    refine sm_congr fun k _ => ?_
    rw [red_row hz hi]; grind
  have low : ∀ i, ¬ r < i → (fun k => redM B r j i k * v k) = fun k => B i k * v k := by
    intro i hi
    funext k
    rw [redM_le (.inl (by omega))]
  constructor
  · intro h i hi
    have h0 : sm w (fun k => B r k * v k) = 0 := by have := h r hr; rw [low r (Nat.lt_irrefl r)] at this; exact this
    have := h i hi
    by_cases e : r < i
    · rw [row i e, h0] at this; grind
    · rw [low i e] at this; exact this
  · intro h i hi
    by_cases e : r < i
    · rw [row i e, h i hi, h r hr]; grind
    · rw [low i e]; exact h i hi
theorem elim_ker {n w : Nat} {A : Nat → Nat → Rat} {v : Nat → Rat} : ∀ j, Ker n w (elim n A j).A v ↔ Ker n w A v := by
  intro j
  induction j with
  | zero => exact Iff.rfl
  | succ j ih =>
    have hr := elim_r_n (n := n) (A := A) j
    obtain ⟨p1, p2, p3, p4⟩ := pv_spec (A := (elim n A j).A) (j := j) hr
    rw [elim_succ]
    unfold elS
    split
    · exact ih
    · rename_i hp
      have hpn : pv (elim n A j).A j n (elim n A j).r < n := by omega
      refine (Ker.red (fun k hk => ?_) (by omega)).trans ((Ker.swp hpn (by omega)).trans ih)
      rw [swpM_r]; exact elim_ech j _ k hpn p1 hk
theorem elim_step {n : Nat} {A : Nat → Nat → Rat} {j : Nat} (h : (elim n A (j + 1)).r = j + 1) : (elim n A j).r = j ∧ pv (elim n A j).A j n j < n := by
  have hr := elim_r_le (n := n) (A := A) j
  rw [elim_succ] at h
  unfold elS at h
  split at h
  · have : (elim n A j).r = j + 1 := h; omega
  · rename_i hp
    have : (elim n A j).r + 1 = j + 1 := h
    have e : (elim n A j).r = j := by omega
    rw [e] at hp
    exact ⟨e, by omega⟩
theorem elim_next {n : Nat} {A : Nat → Nat → Rat} {j : Nat} (h : (elim n A j).r = j) (hp : pv (elim n A j).A j n j < n) :
    elim n A (j + 1) = ⟨redM (swpM (elim n A j).A (pv (elim n A j).A j n j) j) j j, (if pv (elim n A j).A j n j = j then (elim n A j).det else -(elim n A j).det) * (elim n A j).A (pv (elim n A j).A j n j) j, j + 1⟩ := by
  rw [elim_succ]; unfold elS; rw [h, if_neg (by omega), swpM_r]
theorem elim_diag {n : Nat} {A : Nat → Nat → Rat} : ∀ j, (elim n A j).r = j → ∀ i, i < j → (elim n A j).A i i ≠ 0 := by
  intro j
  induction j with
  | zero => intro _ i hi; exact absurd hi (Nat.not_lt_zero _)
  | succ j ih =>
    intro h i hi
    obtain ⟨h1, h2⟩ := elim_step h
    have hr := elim_r_n (n := n) (A := A) j
    rw [h1] at hr
    obtain ⟨p1, p2, p3, p4⟩ := pv_spec (A := (elim n A j).A) (j := j) hr
    rw [elim_next h1 h2]
    show redM _ j j i i ≠ 0
    rw [redM_le (.inl (by omega))]
    by_cases e : i = j
    · subst e; rw [swpM_r]; exact p4.resolve_left (by omega)
    · unfold swpM; rw [if_neg (by omega), if_neg e]; exact ih h1 i (by omega)
theorem elim_det {n : Nat} {A : Nat → Nat → Rat} : ∀ j, j ≤ n → ((elim n A j).det ≠ 0 ↔ (elim n A j).r = j) := by
  intro j
  induction j with
  | zero => intro _; exact ⟨fun _ => rfl, fun _ => by show (1 : Rat) ≠ 0; decide⟩
  | succ j ih =>
    intro hj
    have ih := ih (by omega)
    have hr := elim_r_n (n := n) (A := A) j
    obtain ⟨p1, p2, p3, p4⟩ := pv_spec (A := (elim n A j).A) (j := j) hr
    constructor
    · intro h
      rw [elim_succ] at h ⊢
      unfold elS at h ⊢
      split at h
      · exact absurd rfl h
      · rename_i hp
        rw [if_neg hp]
        show (elim n A j).r + 1 = j + 1
        have : (elim n A j).det ≠ 0 := fun e => h (by
          show (if _ then (elim n A j).det else -(elim n A j).det) * _ = 0
          rw [e]; split <;> grind)
        rw [ih.1 this]
    · intro h
      obtain ⟨h1, h2⟩ := elim_step h
      rw [h1] at p4
      rw [elim_next h1 h2]
      have d := ih.2 h1
      have e := p4.resolve_left (by omega)
      show (if _ then (elim n A j).det else -(elim n A j).det) * _ ≠ 0
      intro e0
      rcases Rat.mul_eq_zero.1 e0 with e0 | e0
      · split at e0
        · exact d e0
        · exact d (by grind)
      · exact e e0
theorem elim_fail {n : Nat} {A : Nat → Nat → Rat} : ∀ m, m ≤ n → (elim n A m).r ≠ m → ∃ j, j < m ∧ (elim n A j).r = j ∧ pv (elim n A j).A j n j = n := by
  intro m
  induction m with
  | zero => intro _ h; exact absurd rfl h
  | succ m ih =>
    intro hm h
    by_cases e : (elim n A m).r = m
    · refine ⟨m, Nat.lt_succ_self _, e, ?_⟩
      have hr := elim_r_n (n := n) (A := A) m
      rw [e] at hr
      obtain ⟨p1, p2, p3, p4⟩ := pv_spec (A := (elim n A m).A) (j := m) hr
      rcases Nat.lt_or_ge (pv (elim n A m).A m n m) n with c | c
      · exact absurd (by rw [elim_next e c]) h
      · omega
    · obtain ⟨j, h1, h2⟩ := ih (by omega) e
      exact ⟨j, by omega, h2⟩
theorem sm_split (f : Nat → Rat) (m : Nat) : ∀ d, sm (m + d) f = sm m f + sm d (fun e => f (m + e)) := by
  intro d
  induction d with
  | zero => show sm m f = sm m f + 0; grind
  | succ d ih => show sm (m + d) f + f (m + d) = sm m f + (sm d (fun e => f (m + e)) + f (m + d)); rw [ih]; grind
theorem sb_eq (a x : Nat → Rat) (s0 : Rat) (m : Nat) : ∀ d, sb a x s0 m d = s0 - sm d (fun e => a (m + e) * x (m + e)) := by
  intro d
  induction d with
  | zero => show s0 = s0 - 0; grind
  | succ d ih => show sb a x s0 m d - _ = s0 - (sm d (fun e => a (m + e) * x (m + e)) + _); rw [ih]; grind
theorem bk_ok {A : Nat → Nat → Rat} {n : Nat} (up : ∀ i k, i < n → k < i → A i k = 0) (dg : ∀ i, i < n → A i i ≠ 0) :
    ∀ t, t ≤ n → ∀ i, n ≤ i + t → i < n → sm n (fun k => A i k * bk A n t k) = A i n := by
  intro t
  induction t with
  | zero => intro _ i h1 h2; omega
  | succ t ih =>
    intro ht i h1 h2
    by_cases e : i = n - 1 - t
    · have hv : bk A n (t + 1) i = sb (A i) (bk A n t) (A i n) (n - t) t / A i i := by simp only [bk]; rw [← e]; exact upd_same _ _ _
      have en : n = i + 1 + t := by omega
      have hs : sm n (fun k => A i k * bk A n (t + 1) k) = 0 + A i i * bk A n (t + 1) i + sm t (fun e => A i (i + 1 + e) * bk A n t (i + 1 + e)) := by
        conv => lhs; rw [en]
        rw [sm_split]
        congr 1
        · show sm i _ + _ = _
          rw [sm_zero fun k hk => by rw [up i k h2 hk]; exact Rat.zero_mul _, ← en]
        · refine sm_congr fun k hk => ?_
          rw [← en, bk_keep (by omega) (by omega)]
      rw [hs, hv, sb_eq, show n - t = i + 1 by omega]
      have := dg i h2
      grind
    · rw [← ih (by omega) i (by omega) h2]
      refine sm_congr fun k hk => ?_
      by_cases ek : k = n - 1 - t
      · rw [up i k h2 (by omega)]; grind
      · have : bk A n (t + 1) k = bk A n t k := by simp only [bk]; exact upd_other _ _ ek
        rw [this]
theorem elim_up {n : Nat} {A : Nat → Nat → Rat} : ∀ j, j ≤ n → (elim n A j).r = j → ∀ i k, i < n → k < i → k < j → (elim n A j).A i k = 0 := by
  intro j
  induction j with
  | zero => intro _ _ i k _ _ h; exact absurd h (Nat.not_lt_zero _)
  | succ j ih =>
    intro hj h i k hi hki hkj
    by_cases e : j + 1 ≤ i
    · exact elim_ech (j + 1) i k hi (by rw [h]; exact e) hkj
    · obtain ⟨h1, h2⟩ := elim_step h
      rw [elim_next h1 h2]
      show redM _ j j i k = 0
      rw [redM_le (.inl (by omega))]
      have hrn := elim_r_n (n := n) (A := A) j
      rw [h1] at hrn
      have hp := (pv_spec (A := (elim n A j).A) (j := j) hrn).1
      by_cases e2 : i = j
      · subst e2; rw [swpM_r]
        exact elim_ech i _ k h2 (by rw [h1]; exact hp) hki
      · unfold swpM; rw [if_neg (by omega), if_neg e2]
        exact ih (by omega) h1 i k hi hki (by omega)
theorem ker1 {n : Nat} {A : Nat → Nat → Rat} {v : Nat → Rat} (hd : (elim n A n).det ≠ 0) (h : Ker n n A v) : ∀ k, k < n → v k = 0 := by
  have hr := (elim_det n (Nat.le_refl _)).1 hd
  have hk := (elim_ker n).2 h
  have up : ∀ i k, i < n → k < i → (elim n A n).A i k = 0 := fun i k hi hk => elim_up n (Nat.le_refl _) hr i k hi hk (by omega)
  have dg := elim_diag n hr
  have : ∀ t, t ≤ n → ∀ i, n ≤ i + t → i < n → v i = 0 := by
    intro t
    induction t with
    | zero => intro _ i h1 h2; omega
    | succ t ih =>
      intro ht i h1 h2
      by_cases e : n ≤ i + t
      · exact ih (by omega) i e h2
      · have en : n = i + 1 + t := by omega
        have h0 := hk i h2
        have hs : sm n (fun k => (elim n A n).A i k * v k) = 0 + (elim n A n).A i i * v i + 0 := by
          conv => lhs; arg 1; rw [en]
          rw [sm_split]
          congr 1
          · show sm i _ + _ = _
            rw [sm_zero fun k hk => by rw [up i k h2 hk]; exact Rat.zero_mul _]
          · exact sm_zero fun k hk => by rw [ih (by omega) (i + 1 + k) (by omega) (by omega)]; exact Rat.mul_zero _
        rw [hs] at h0
        have := dg i h2
        rcases Rat.mul_eq_zero.1 (show (elim n A n).A i i * v i = 0 by grind) with c | c
        · exact absurd c this
        · exact c
  exact fun k hk => this n (Nat.le_refl _) k (by omega) hk
theorem ker0 {n : Nat} {A : Nat → Nat → Rat} (hd : (elim n A n).det = 0) : ∃ v : Nat → Rat, (∃ k, k < n ∧ v k ≠ 0) ∧ Ker n n A v := by
  obtain ⟨j, hj, h1, h2⟩ := elim_fail (A := A) n (Nat.le_refl n) fun e => (elim_det n (Nat.le_refl _)).2 e hd
  have hrn := elim_r_n (n := n) (A := A) j
  rw [h1] at hrn
  obtain ⟨p1, p2, p3, p4⟩ := pv_spec (A := (elim n A j).A) (j := j) hrn
  let A' : Nat → Nat → Rat := fun i k => if k = j then -(elim n A j).A i j else (elim n A j).A i k
  have hb := bk_ok (A := A') (n := j) (fun i k hi hk => by
      show (if k = j then _ else _) = (0 : Rat)
      rw [if_neg (by omega)]; exact elim_up j (by omega) h1 i k (by omega) hk (by omega))
    (fun i hi => by
      show (if i = j then _ else _) ≠ (0 : Rat)
      rw [if_neg (by omega)]; exact elim_diag j h1 i hi) j (Nat.le_refl _)
  refine ⟨fun k => if k < j then bk A' j j k else if k = j then 1 else 0, ⟨j, hj, by simp⟩, (elim_ker j).1 fun i hi => ?_⟩
  have en : n = j + 1 + (n - j - 1) := by omega
  rw [en, sm_split]
  have z : sm (n - j - 1) (fun e => (elim n A j).A i (j + 1 + e) * (fun k => if k < j then bk A' j j k else if k = j then 1 else 0) (j + 1 + e)) = 0 :=
    sm_zero fun e he => by show _ * (if j + 1 + e < j then _ else if j + 1 + e = j then _ else _) = (0 : Rat); rw [if_neg (by omega), if_neg (by omega)]; exact Rat.mul_zero _
  rw [← en, z]
  show sm j _ + (elim n A j).A i j * (if j < j then _ else if j = j then 1 else 0) + 0 = 0
  rw [if_neg (Nat.lt_irrefl j), if_pos rfl]
  by_cases e : i < j
  · have := hb i (by omega) e
    have e2 : sm j (fun k => (elim n A j).A i k * (if k < j then bk A' j j k else if k = j then 1 else 0)) = sm j (fun k => A' i k * bk A' j j k) :=
      sm_congr fun k hk => by
        show _ = (if k = j then _ else (elim n A j).A i k) * _
        rw [if_pos hk, if_neg (by omega)]
    have e3 : A' i j = -(elim n A j).A i j := if_pos rfl
    rw [e2, this, e3]; grind
  · rw [sm_zero fun k hk => by rw [elim_ech j i k hi (by omega) hk]; exact Rat.zero_mul _, p3 i (by omega) (by omega)]; grind
theorem pv_congr {n j r : Nat} {A B : Nat → Nat → Rat} (h : ∀ i, i < n → A i j = B i j) (hr : r ≤ n) : pv A j n r = pv B j n r := by
  obtain ⟨p1, p2, p3, p4⟩ := pv_spec (A := B) (j := j) hr
  refine pv_eq p1 p2 (fun i h1 h2 => by rw [h i (by omega)]; exact p3 i h1 h2) ?_
  by_cases e : pv B j n r = n
  · exact .inl e
  · exact .inr (by rw [h _ (by omega)]; exact p4.resolve_left e)
theorem elim_congr {n : Nat} {A B : Nat → Nat → Rat} (h : ∀ i k, i < n → k < n → A i k = B i k) : ∀ j, j ≤ n →
    (elim n A j).det = (elim n B j).det ∧ (elim n A j).r = (elim n B j).r ∧ ∀ i k, i < n → k < n → (elim n A j).A i k = (elim n B j).A i k := by
  intro j
  induction j with
  | zero => exact fun _ => ⟨rfl, rfl, h⟩
  | succ j ih =>
    intro hj
    obtain ⟨h1, h2, h3⟩ := ih (by omega)
    have hr := elim_r_n (n := n) (A := B) j
    have hp := pv_congr (r := (elim n B j).r) (fun i hi => h3 i j hi (by omega)) hr
    rw [elim_succ, elim_succ]
    unfold elS
    rw [h2, hp, h1]
    obtain ⟨p1, p2, p3, p4⟩ := pv_spec (A := (elim n B j).A) (j := j) hr
    split
    · exact ⟨rfl, rfl, h3⟩
    · rename_i c
      have hs : ∀ i k, i < n → k < n → swpM (elim n A j).A (pv (elim n B j).A j n (elim n B j).r) (elim n B j).r i k = swpM (elim n B j).A (pv (elim n B j).A j n (elim n B j).r) (elim n B j).r i k := by
        intro i k hi hk
        unfold swpM
        split
        · exact h3 _ k (by omega) hk
        · split
          · exact h3 _ k (by omega) hk
          · exact h3 _ k hi hk
      refine ⟨?_, rfl, fun i k hi hk => ?_⟩
      · show _ * _ = _ * _; rw [hs _ j (by omega) (by omega)]
      · show redM _ _ _ i k = redM _ _ _ i k
        unfold redM
        rw [hs i k hi hk, hs i j hi (by omega), hs _ j (by omega) (by omega), hs _ k (by omega) hk]
theorem aug_det {n : Nat} {A : Nat → Nat → Rat} {y : Nat → Rat} : (elim n (augM n A y) n).det = (elim n A n).det :=
  (elim_congr (fun i k _ hk => if_pos hk) n (Nat.le_refl _)).1
theorem slv_ok {n : Nat} {A : Nat → Nat → Rat} {y : Nat → Rat} (hd : (elim n A n).det ≠ 0) : ∀ i, i < n → sm n (fun k => A i k * bk (elim n (augM n A y) n).A n n k) = y i := by
  have hd' : (elim n (augM n A y) n).det ≠ 0 := by rw [aug_det]; exact hd
  have hr := (elim_det n (Nat.le_refl _)).1 hd'
  have hb := bk_ok (A := (elim n (augM n A y) n).A) (n := n) (fun i k hi hk => elim_up n (Nat.le_refl _) hr i k hi hk (by omega)) (elim_diag n hr) n (Nat.le_refl _)
  have hk : Ker n (n + 1) (elim n (augM n A y) n).A fun k => if k < n then bk (elim n (augM n A y) n).A n n k else -1 := fun i hi => by
    show sm n _ + _ * (if n < n then _ else (-1 : Rat)) = 0
    rw [if_neg (Nat.lt_irrefl n), sm_congr (g := fun k => (elim n (augM n A y) n).A i k * bk (elim n (augM n A y) n).A n n k) fun k hk => by show _ * (if k < n then _ else _) = _; rw [if_pos hk], hb i (by omega) hi]
    grind
  intro i hi
  have := (elim_ker n).1 hk i hi
  have h2 : sm n (fun k => A i k * bk (elim n (augM n A y) n).A n n k) + augM n A y i n * (if n < n then bk (elim n (augM n A y) n).A n n n else -1) = 0 := by
    rw [← this]
    show _ = sm n _ + _
    congr 1
    exact sm_congr fun k hk => by show _ = augM n A y i k * _; rw [if_pos hk]; unfold augM; rw [if_pos hk]
  rw [if_neg (Nat.lt_irrefl n), show augM n A y i n = y i from if_neg (Nat.lt_irrefl n)] at h2
  grind
/-- The one answer. -/
theorem slv_one {n : Nat} {A : Nat → Nat → Rat} {u v : Nat → Rat} (hd : (elim n A n).det ≠ 0) (h : ∀ i, i < n → sm n (fun k => A i k * u k) = sm n (fun k => A i k * v k)) : ∀ k, k < n → u k = v k := by
  intro k hk
  have : Ker n n A fun k => u k - v k := fun i hi => by
    have e : (fun k => A i k * (u k - v k)) = fun k => A i k * u k - A i k * v k := by funext k; grind
    rw [e, sm_sub, h i hi]; grind
  have := ker1 hd this k hk
  grind
end Go.Proofs.Ytjfcphohgicolaa

namespace Go.Proofs.Ytjfcphohgicolaa
def pm : Nat → (Nat → Rat) → Rat
  | 0, _ => 1
  | n + 1, f => pm n f * f n
def pmx (n k : Nat) (f : Nat → Rat) : Rat := pm n fun t => if t = k then 1 else f t
theorem pm_congr {f g : Nat → Rat} : ∀ {n : Nat}, (∀ i, i < n → f i = g i) → pm n f = pm n g := by
  intro n
  induction n with
  | zero => exact fun _ => rfl
  | succ n ih => intro h; simp only [pm]; rw [ih fun i hi => h i (by omega), h n (by omega)]
theorem pm_ne {f : Nat → Rat} : ∀ {n : Nat}, (∀ i, i < n → f i ≠ 0) → pm n f ≠ 0 := by
  intro n
  induction n with
  | zero => intro _; simp only [pm]; decide
  | succ n ih =>
    intro h e
    rcases Rat.mul_eq_zero.1 e with e | e
    · exact ih (fun i hi => h i (by omega)) e
    · exact h n (by omega) e
theorem pm_zero {f : Nat → Rat} {k : Nat} : ∀ {n : Nat}, k < n → f k = 0 → pm n f = 0 := by
  intro n
  induction n with
  | zero => intro h; exact absurd h (Nat.not_lt_zero _)
  | succ n ih =>
    intro h e
    simp only [pm]
    by_cases c : k = n
    · rw [← c, e]; exact Rat.mul_zero _
    · rw [ih (by omega) e]; exact Rat.zero_mul _
theorem pmx_ne {f : Nat → Rat} {n k : Nat} (h : ∀ i, i < n → i ≠ k → f i ≠ 0) : pmx n k f ≠ 0 :=
  pm_ne fun i hi => by
    by_cases e : i = k
    · rw [if_pos e]; decide
    · rw [if_neg e]; exact h i hi e
theorem pmx_zero {f : Nat → Rat} {n k l : Nat} (hl : l < n) (hk : l ≠ k) (h : f l = 0) : pmx n k f = 0 := pm_zero hl (by rw [if_neg hk]; exact h)
theorem pmx_ge {f : Nat → Rat} {n k : Nat} (h : n ≤ k) : pmx n k f = pm n f := pm_congr fun i hi => if_neg (by omega)
theorem pmx_succ {f : Nat → Rat} {n k : Nat} (h : n ≠ k) : pmx (n + 1) k f = pmx n k f * f n := by
  show pm n _ * (if n = k then 1 else f n) = _
  rw [if_neg h]; rfl
theorem pmx_self {f : Nat → Rat} {n : Nat} : pmx (n + 1) n f = pm n f := by
  show pm n _ * (if n = n then 1 else f n) = _
  rw [if_pos rfl, Rat.mul_one]; exact pmx_ge (Nat.le_refl n)
theorem pm_split {f : Nat → Rat} {k : Nat} : ∀ {n : Nat}, k < n → pm n f = f k * pmx n k f := by
  intro n
  induction n with
  | zero => intro h; exact absurd h (Nat.not_lt_zero _)
  | succ n ih =>
    intro h
    by_cases c : k = n
    · subst c; rw [pmx_self]; simp only [pm]; exact Rat.mul_comm _ _
    · rw [pmx_succ (by omega)]; simp only [pm]; rw [ih (by omega)]; grind
def PolE (k : Nat) (g : Rat → Rat) : Prop := ∃ c : Nat → Rat, ∀ X, pev k c X = g X
theorem PolE.zero (k : Nat) : PolE k fun _ => 0 := ⟨fun i => 0 * (0 : Rat), fun X => by rw [pev_smul k 0 (fun _ => 0) X]; exact Rat.zero_mul _⟩
theorem PolE.add {k : Nat} {g h : Rat → Rat} (hg : PolE k g) (hh : PolE k h) : PolE k fun X => g X + h X := by
  obtain ⟨c, hc⟩ := hg
  obtain ⟨d, hd⟩ := hh
  exact ⟨fun i => c i + d i, fun X => by rw [pev_add, hc, hd]⟩
theorem PolE.smul {k : Nat} {g : Rat → Rat} (b : Rat) (hg : PolE k g) : PolE k fun X => b * g X := by
  obtain ⟨c, hc⟩ := hg
  exact ⟨fun i => b * c i, fun X => by rw [pev_smul, hc]⟩
theorem PolE.mulX {k : Nat} {g : Rat → Rat} (hg : PolE k g) (r : Rat) : PolE (k + 1) fun X => g X * (r - X) := by
  obtain ⟨c, hc⟩ := hg
  obtain ⟨d, _, hd⟩ := (Pol.mulX (g := g) ⟨c, rfl, hc⟩ r).smul (-1)
  exact ⟨d, fun X => by rw [hd]; grind⟩
theorem PolE.pm (a : Nat → Rat) : ∀ n, PolE n fun X => pm n fun t => a t - X := by
  intro n
  induction n with
  | zero => exact ⟨fun _ => 1, fun X => rfl⟩
  | succ n ih => exact ih.mulX (a n)
theorem PolE.pmx (a : Nat → Rat) (j : Nat) : ∀ n, j < n + 1 → PolE n fun X => pmx (n + 1) j fun t => a t - X := by
  intro n
  induction n with
  | zero =>
    intro h
    obtain rfl : j = 0 := by omega
    have : (fun X : Rat => Go.Proofs.Ytjfcphohgicolaa.pmx (0 + 1) 0 fun t => a t - X) = fun X => Go.Proofs.Ytjfcphohgicolaa.pm 0 fun t => a t - X := by funext X; exact pmx_self
    rw [this]; exact PolE.pm a 0
  | succ n ih =>
    intro h
    by_cases e : j = n + 1
    · subst e
      have : (fun X : Rat => Go.Proofs.Ytjfcphohgicolaa.pmx (n + 1 + 1) (n + 1) fun t => a t - X) = fun X => Go.Proofs.Ytjfcphohgicolaa.pm (n + 1) fun t => a t - X := by funext X; exact pmx_self
      rw [this]; exact PolE.pm a (n + 1)
    · have : (fun X : Rat => Go.Proofs.Ytjfcphohgicolaa.pmx (n + 1 + 1) j fun t => a t - X) = fun X => (Go.Proofs.Ytjfcphohgicolaa.pmx (n + 1) j fun t => a t - X) * (a (n + 1) - X) := by funext X; exact pmx_succ (by omega)
      rw [this]; exact (ih (by omega)).mulX _
theorem PolE.sum {k : Nat} {G : Nat → Rat → Rat} : ∀ m, (∀ t, t < m → PolE k (G t)) → PolE k fun X => sm m fun t => G t X := by
  intro m
  induction m with
  | zero => exact fun _ => PolE.zero k
  | succ m ih => intro h; exact (ih fun t ht => h t (by omega)).add (h m (by omega))
theorem PolE.eq {k : Nat} {g h : Rat → Rat} {r : Nat → Rat} (hg : PolE k g) (hh : PolE k h) (hi : Inj r (k + 1)) (he : ∀ l, l < k + 1 → g (r l) = h (r l)) (X : Rat) : g X = h X := by
  obtain ⟨c, hc⟩ := hg
  obtain ⟨d, hd⟩ := hh
  rw [← hc, ← hd]
  exact pev_congr k X (pev_eq hi fun l hl => by rw [hc, hd]; exact he l hl)
theorem rsub_ne {a b : Rat} (h : a ≠ b) : a - b ≠ 0 := fun e => h (by grind)
/-- Parts of a quotient of polynomials. -/
theorem parts {n : Nat} {b : Nat → Rat} (hb : Inj b n) {g : Rat → Rat} (hn : 1 ≤ n) (hg : PolE (n - 1) g) {x : Rat} (hx : ∀ k, k < n → x ≠ b k) :
    sm n (fun k => 1 / (x - b k) * (g (b k) / pmx n k fun t => b t - b k)) = -(g x / pm n fun t => b t - x) := by
  obtain ⟨m, rfl⟩ : ∃ m, n = m + 1 := ⟨n - 1, by omega⟩
  have hnz : ∀ k, k < m + 1 → (pmx (m + 1) k fun t => b t - b k) ≠ 0 := fun k hk => pmx_ne fun t ht e => rsub_ne fun c => e (hb t k ht hk c)
  have key := PolE.eq (g := fun X => sm (m + 1) fun k => g (b k) / (pmx (m + 1) k fun t => b t - b k) * pmx (m + 1) k fun t => b t - X) (PolE.sum (m + 1) fun k hk => (PolE.pmx b k m hk).smul _) hg hb (fun l hl => by
    show (sm (m + 1) fun k => g (b k) / (pmx (m + 1) k fun t => b t - b k) * pmx (m + 1) k fun t => b t - b l) = g (b l)
    have : (sm (m + 1) fun k => g (b k) / (pmx (m + 1) k fun t => b t - b k) * pmx (m + 1) k fun t => b t - b l) = sm (m + 1) fun k => g (b k) * (if k = l then 1 else 0) := sm_congr fun k hk => by
      by_cases e : k = l
      · subst e; rw [if_pos rfl]; have := hnz k hk; grind
      · rw [if_neg e, pmx_zero (f := fun t => b t - b l) (l := l) hl (Ne.symm e) (by grind)]; grind
    rw [this]; exact sm_one hl _) x
  have hp : pm (m + 1) (fun t => b t - x) ≠ 0 := pm_ne fun t ht => rsub_ne fun c => hx t ht c.symm
  have key : (sm (m + 1) fun k => g (b k) / (pmx (m + 1) k fun t => b t - b k) * pmx (m + 1) k fun t => b t - x) = g x := key
  rw [← key]
  have : (sm (m + 1) fun k => g (b k) / (pmx (m + 1) k fun t => b t - b k) * pmx (m + 1) k fun t => b t - x) = -(pm (m + 1) fun t => b t - x) * sm (m + 1) (fun k => 1 / (x - b k) * (g (b k) / pmx (m + 1) k fun t => b t - b k)) := by
    rw [← sm_smul]
    refine sm_congr fun k hk => ?_
    rw [pm_split hk]
    have h1 := hnz k hk
    have h2 : x - b k ≠ 0 := rsub_ne (hx k hk)
    generalize (pmx (m + 1) k fun t => b t - x) = u
    generalize (pmx (m + 1) k fun t => b t - b k) = v at h1
    generalize g (b k) = y
    generalize b k = z at h2
    grind
  rw [this]
  generalize (sm (m + 1) fun k => 1 / (x - b k) * (g (b k) / pmx (m + 1) k fun t => b t - b k)) = S
  generalize pm (m + 1) (fun t => b t - x) = p at hp
  grind
end Go.Proofs.Ytjfcphohgicolaa

namespace Go.Proofs.Ytjfcphohgicolaa
open Go
set_option linter.unusedVariables false
set_option linter.unusedSimpArgs false
set_option maxRecDepth 10000
theorem Wf.dif {g : GV} {b c : Nat} (h : Wf g b c) {i j : Nat} (hi : i < g.la) (hj : j < g.lb) : Bz (g.A i - g.B j) (b + c + 1) ∧ g.A i - g.B j ≠ 0 :=
  ⟨(h.bA i hi).sub (h.bB j hj), fun e => h.ne i j hi hj (by grind)⟩
/-- How many digits an entry has. -/
def eb (b c : Nat) : Nat := 24 * b + c + 30
theorem Wf.la12 {g : GV} {b c : Nat} (h : Wf g b c) (hk : g.k = 1 ∨ g.k = 2) : g.la = 2 * g.n - 1 := by unfold GV.la cntA; rw [if_pos hk]
theorem Wf.la3 {g : GV} {b c : Nat} (h : Wf g b c) (hk : g.k = 3 ∨ g.k = 4 ∨ g.k = 5 ∨ g.k = 7) : g.la = g.n := by unfold GV.la cntA; rw [if_neg (by omega), if_neg (by omega)]
theorem Wf.lb5 {g : GV} {b c : Nat} (h : Wf g b c) (hk : g.k = 5 ∨ g.k = 7) : g.lb = g.n := by unfold GV.lb cntB; rw [if_pos hk]
theorem Wf.bSum {g : GV} {b c : Nat} (h : Wf g b c) (hk : g.k = 6 ∨ g.k = 7) {i j : Nat} (hi : i < g.n) (hj : j < g.n) : ∀ k, k ≤ min i j + 1 → Bz (sm k fun m => rowS g (i - m) (j - m)) (k * (2 * (2 * b + 1) + 1 + 1) + 1) :=
  sm_bz' (F := fun m => rowS g (i - m) (j - m)) (n := min i j + 1) fun m hm => h.bRow hk (by omega) (by omega)
theorem Wf.bEnt {g : GV} {b c : Nat} (h : Wf g b c) {i j : Nat} (hi : i < g.n) (hj : j < g.n) : Bz (ent g i j) (eb b c) := by
  have h8 := h.n6
  unfold ent eb
  rcases k_cases h.k1 h.k7 with e | e | e | e | e | e | e
  · rw [if_pos e]
    exact (h.bA _ (by rw [h.la12 (by omega)]; omega)).mono (by omega)
  · rw [if_neg (by omega), if_pos e]
    exact (h.bA _ (by rw [h.la12 (by omega)]; omega)).mono (by omega)
  · rw [if_neg (by omega), if_neg (by omega), if_pos e]
    exact (h.bA _ (by rw [h.la3 (by omega)]; exact Nat.mod_lt _ (by omega))).mono (by omega)
  · rw [if_neg (by omega), if_neg (by omega), if_neg (by omega), if_pos e]
    have hj7 : b * j ≤ b * 5 := Nat.mul_le_mul_left _ (by omega)
    exact (bz_pow (h.bA i (by rw [h.la3 (by omega)]; exact hi)) j).mono (by omega)
  · rw [if_neg (by omega), if_neg (by omega), if_neg (by omega), if_neg (by omega), if_pos e]
    have := h.dif (i := i) (j := j) (by rw [h.la3 (by omega)]; exact hi) (by rw [h.lb5 (by omega)]; exact hj)
    exact (bz_one.div this.1).mono (by omega)
  · rw [if_neg (by omega), if_neg (by omega), if_neg (by omega), if_neg (by omega), if_neg (by omega), if_pos e]
    have z := h.bSum (.inl e) hi hj (min i j + 1) (Nat.le_refl _)
    have := Nat.mul_le_mul_right (2 * (2 * b + 1) + 1 + 1) (show min i j + 1 ≤ 6 by omega)
    exact z.mono (by omega)
  · rw [if_neg (by omega), if_neg (by omega), if_neg (by omega), if_neg (by omega), if_neg (by omega), if_neg (by omega)]
    have := h.dif (i := i) (j := j) (by rw [h.la3 (by omega)]; exact hi) (by rw [h.lb5 (by omega)]; exact hj)
    exact ((h.bRow (.inr e) hi hj).div this.1).mono (by omega)
end Go.Proofs.Ytjfcphohgicolaa

namespace Go.Proofs.Ytjfcphohgicolaa
open Go
set_option linter.unusedVariables false
set_option linter.unusedSimpArgs false
set_option maxRecDepth 10000
theorem gcheck1_ok (m : Nat → Bool) (n r : Nat) (A B G H : Nat → Rat) {b c : Nat} (h : Wf ⟨1, n, r, A, B, G, H⟩ b c) : CallP Try.prog 45 [genP m ⟨1, n, r, A, B, G, H⟩] (.p (.int .i64 0)) [] := by
  have n6 : n ≤ 6 := h.n6
  have n1 : 1 ≤ n := h.n1
  have r2 : r ≤ 2 := h.r2
  have hnr : n * r ≤ 12 := Nat.mul_le_mul n6 r2
  have hc4 := h.c4
  have hbc := h.bc
  have cc := cnt_le (k := 1) (r := r) n1 (show n ≤ 8 by omega) (show r ≤ 3 by omega)
  have cb : ∀ i : Nat, (if i = 0 then cntA 1 n else if i = 1 then cntB 1 n else cntH 1 n r) ≤ 24 := fun i => by split <;> (try split) <;> omega
  show CallP Try.prog 45 [.agg [.int .i64 ((1 : Nat) : Int), .int .i64 (n : Int), .int .i64 (r : Int), ratsM (m 0) (lst (cntA 1 n) A), ratsM (m 1) (lst (cntB 1 n) B), ratsM (m 2) (lst (cntH 1 n r) G), ratsM (m 3) (lst (cntH 1 n r) H)]] (.p (.int .i64 0)) []
  refine callG_of_vc (wr := wr0) Γok mixed Try.func45 (by kernel_rfl) rfl (by kernel_rfl) (le_of_ble rfl) (by simp) ?_
  refine SCmp.no (decide_eq_false (by omega)) ?_
  refine SCmp.no (decide_eq_false (by omega)) ?_
  refine SCall.pure (sized_ok m ⟨1, n, r, A, B, G, H⟩ h) ?_
  refine SCmp.no (rfl) ?_
  refine SCall.lent [genP m ⟨1, n, r, A, B, G, H⟩] _ rfl (genrows_ok m ⟨1, n, r, A, B, G, H⟩) ?_
  refine SCall.pure (counts_ok) ?_
  refine SLoop.mk Nat (fun i => ([(1, .bptr 0 0), (3, .bptr 1 0), (4, .p (.mp false cntM)), (28, .p (.agg [ratsM (m 0) (lst (cntA 1 n) A), ratsM (m 1) (lst (cntB 1 n) B), ratsM (m 2) (lst (cntH 1 n r) G), ratsM (m 3) (lst (cntH 1 n r) H)])), (29, .p (.int .i64 i))], [.box 26 [.p (.int .i64 ((1 : Nat) : Int)), .p (.int .i64 (n : Int)), .p (.int .i64 (r : Int)), .p (ratsM (m 0) (lst (cntA 1 n) A)), .p (ratsM (m 1) (lst (cntB 1 n) B)), .p (ratsM (m 2) (lst (cntH 1 n r) G)), .p (ratsM (m 3) (lst (cntH 1 n r) H))], .box 93 [.p (ratsM (m 0) (lst (cntA 1 n) A)), .p (ratsM (m 1) (lst (cntB 1 n) B)), .p (ratsM (m 2) (lst (cntH 1 n r) G)), .p (ratsM (m 3) (lst (cntH 1 n r) H))]]))
    (fun i => i ≤ 4) (fun i => 4 - i) 0 [0, 1] (Nat.zero_le _) ⟨rfl, by simp, rfl, rfl, rfl, ⟨rfl, rfl, rfl, rfl, rfl, trivial⟩, ⟨rfl, rfl, trivial⟩⟩ ?_
  intro i hi
  have hi : i ≤ 4 := hi
  rcases (show i = 0 ∨ i = 1 ∨ i = 2 ∨ i = 3 ∨ i = 4 by omega) with rfl | rfl | rfl | rfl | rfl
  · refine SCmp.yes (rfl) ?_
    refine SIdx.mk 0 _ rfl rfl ?_
    refine SKeys.all rfl <| SGet.at 0 _ rfl rfl rfl ?_
    refine SZ.mk ((cntA 1 n : Nat) : Int) (by simp [lst]) ?_
    refine SPos.mk 0 rfl (by decide) ?_
    refine SWrap.i64z ((2 * n : Nat) : Int) (by omega) (by omega) ?_
    refine SPos.mk 1 rfl (by decide) ?_
    refine SWrap.i64z ((0 * n : Nat) : Int) (by omega) (by omega) ?_
    refine SWrap.i64z ((0 : Nat) : Int) (by simp) (by omega) ?_
    refine SWrap.i64z ((2 * n + 0 : Nat) : Int) (by omega) (by omega) ?_
    refine SPos.mk 2 rfl (by decide) ?_
    refine SWrap.i64z ((cntA 1 n : Nat) : Int) (by simp [cntA, cntB, cntH] <;> omega) (by have := cnt_le (k := 1) (r := r) n1 (show n ≤ 8 by omega) (show r ≤ 3 by omega); omega) ?_
    refine SCmp.no (neF rfl) ?_
    refine SWrap.i64z ((0 + 1 : Nat) : Int) (by omega) (by omega) ?_
    exact ⟨0 + 1, [0, 1], by decide, by decide, ⟨rfl, by simp, rfl, rfl, rfl, ⟨rfl, rfl, rfl, rfl, rfl, trivial⟩, ⟨rfl, rfl, trivial⟩⟩⟩
  · refine SCmp.yes (rfl) ?_
    refine SIdx.mk 1 _ rfl rfl ?_
    refine SKeys.all rfl <| SGet.none rfl ?_
    refine SZ.mk ((cntB 1 n : Nat) : Int) (by simp [lst]) ?_
    refine SPos.mk 0 rfl (by decide) ?_
    refine SWrap.i64z ((0 * n : Nat) : Int) (by omega) (by omega) ?_
    refine SPos.mk 1 rfl (by decide) ?_
    refine SWrap.i64z ((0 * n : Nat) : Int) (by omega) (by omega) ?_
    refine SWrap.i64z ((0 : Nat) : Int) (by simp) (by omega) ?_
    refine SWrap.i64z ((0 * n + 0 : Nat) : Int) (by omega) (by omega) ?_
    refine SPos.mk 2 rfl (by decide) ?_
    refine SWrap.i64z ((cntB 1 n : Nat) : Int) (by simp [cntA, cntB, cntH] <;> omega) (by have := cnt_le (k := 1) (r := r) n1 (show n ≤ 8 by omega) (show r ≤ 3 by omega); omega) ?_
    refine SCmp.no (neF rfl) ?_
    refine SWrap.i64z ((1 + 1 : Nat) : Int) (by omega) (by omega) ?_
    exact ⟨1 + 1, [0, 1], by decide, by decide, ⟨rfl, by simp, rfl, rfl, rfl, ⟨rfl, rfl, rfl, rfl, rfl, trivial⟩, ⟨rfl, rfl, trivial⟩⟩⟩
  · refine SCmp.yes (rfl) ?_
    refine SIdx.mk 2 _ rfl rfl ?_
    refine SKeys.all rfl <| SGet.none rfl ?_
    refine SZ.mk ((cntH 1 n r : Nat) : Int) (by simp [lst]) ?_
    refine SPos.mk 0 rfl (by decide) ?_
    refine SWrap.i64z ((0 * n : Nat) : Int) (by omega) (by omega) ?_
    refine SPos.mk 1 rfl (by decide) ?_
    refine SWrap.i64z ((0 * n : Nat) : Int) (by omega) (by omega) ?_
    refine SWrap.i64z ((0 : Nat) : Int) (by simp) (by omega) ?_
    refine SWrap.i64z ((0 * n + 0 : Nat) : Int) (by omega) (by omega) ?_
    refine SPos.mk 2 rfl (by decide) ?_
    refine SWrap.i64z ((cntH 1 n r : Nat) : Int) (by simp [cntA, cntB, cntH] <;> omega) (by have := cnt_le (k := 1) (r := r) n1 (show n ≤ 8 by omega) (show r ≤ 3 by omega); omega) ?_
    refine SCmp.no (neF rfl) ?_
    refine SWrap.i64z ((2 + 1 : Nat) : Int) (by omega) (by omega) ?_
    exact ⟨2 + 1, [0, 1], by decide, by decide, ⟨rfl, by simp, rfl, rfl, rfl, ⟨rfl, rfl, rfl, rfl, rfl, trivial⟩, ⟨rfl, rfl, trivial⟩⟩⟩
  · refine SCmp.yes (rfl) ?_
    refine SIdx.mk 3 _ rfl rfl ?_
    refine SKeys.all rfl <| SGet.none rfl ?_
    refine SZ.mk ((cntH 1 n r : Nat) : Int) (by simp [lst]) ?_
    refine SPos.mk 0 rfl (by decide) ?_
    refine SWrap.i64z ((0 * n : Nat) : Int) (by omega) (by omega) ?_
    refine SPos.mk 1 rfl (by decide) ?_
    refine SWrap.i64z ((0 * n : Nat) : Int) (by omega) (by omega) ?_
    refine SWrap.i64z ((0 : Nat) : Int) (by simp) (by omega) ?_
    refine SWrap.i64z ((0 * n + 0 : Nat) : Int) (by omega) (by omega) ?_
    refine SPos.mk 2 rfl (by decide) ?_
    refine SWrap.i64z ((cntH 1 n r : Nat) : Int) (by simp [cntA, cntB, cntH] <;> omega) (by have := cnt_le (k := 1) (r := r) n1 (show n ≤ 8 by omega) (show r ≤ 3 by omega); omega) ?_
    refine SCmp.no (neF rfl) ?_
    refine SWrap.i64z ((3 + 1 : Nat) : Int) (by omega) (by omega) ?_
    exact ⟨3 + 1, [0, 1], by decide, by decide, ⟨rfl, by simp, rfl, rfl, rfl, ⟨rfl, rfl, rfl, rfl, rfl, trivial⟩, ⟨rfl, rfl, trivial⟩⟩⟩
  · refine SCmp.no (rfl) ?_
    refine SLoop.mk Nat (fun i => ([(1, .bptr 0 0), (60, .p (.agg [ratsM (m 0) (lst (cntA 1 n) A), ratsM (m 1) (lst (cntB 1 n) B), ratsM (m 2) (lst (cntH 1 n r) G), ratsM (m 3) (lst (cntH 1 n r) H)])), (61, .p (.int .i64 i))], [.box 26 [.p (.int .i64 ((1 : Nat) : Int)), .p (.int .i64 (n : Int)), .p (.int .i64 (r : Int)), .p (ratsM (m 0) (lst (cntA 1 n) A)), .p (ratsM (m 1) (lst (cntB 1 n) B)), .p (ratsM (m 2) (lst (cntH 1 n r) G)), .p (ratsM (m 3) (lst (cntH 1 n r) H))], .box 93 [.p (ratsM (m 0) (lst (cntA 1 n) A)), .p (ratsM (m 1) (lst (cntB 1 n) B)), .p (ratsM (m 2) (lst (cntH 1 n r) G)), .p (ratsM (m 3) (lst (cntH 1 n r) H))]]))
      (fun i => i ≤ 4) (fun i => 4 - i) 0 [0, 1] (Nat.zero_le _) ⟨rfl, by simp, rfl, rfl, rfl, ⟨rfl, rfl, rfl, trivial⟩, ⟨rfl, rfl, trivial⟩⟩ ?_
    intro i hi
    have hi : i ≤ 4 := hi
    rcases (show i = 0 ∨ i = 1 ∨ i = 2 ∨ i = 3 ∨ i = 4 by omega) with rfl | rfl | rfl | rfl | rfl
    · refine SCmp.yes (rfl) ?_
      refine SIdx.mk 0 _ rfl rfl ?_
      refine SCall.pure (none1_ok (m 0) (lst (cntA 1 n) A) (fun i hi => by rw [lst_length] at hi; rw [lst_getD hi]; exact check1_ok _ ((h.bA i hi).mono (by omega))) (by rw [lst_length]; exact Nat.le_trans (cb 0) (by decide))) ?_
      refine SCond.mk (fun h => by cases h) (fun _ => ?_)
      refine SWrap.i64z ((0 + 1 : Nat) : Int) (by omega) (by omega) ?_
      exact ⟨0 + 1, [0, 1], by decide, by decide, ⟨rfl, by simp, rfl, rfl, rfl, ⟨rfl, rfl, rfl, trivial⟩, ⟨rfl, rfl, trivial⟩⟩⟩
    · refine SCmp.yes (rfl) ?_
      refine SIdx.mk 1 _ rfl rfl ?_
      refine SCall.pure (none1_ok (m 1) (lst (cntB 1 n) B) (fun i hi => by rw [lst_length] at hi; rw [lst_getD hi]; exact check1_ok _ ((h.bB i hi).mono (by omega))) (by rw [lst_length]; exact Nat.le_trans (cb 1) (by decide))) ?_
      refine SCond.mk (fun h => by cases h) (fun _ => ?_)
      refine SWrap.i64z ((1 + 1 : Nat) : Int) (by omega) (by omega) ?_
      exact ⟨1 + 1, [0, 1], by decide, by decide, ⟨rfl, by simp, rfl, rfl, rfl, ⟨rfl, rfl, rfl, trivial⟩, ⟨rfl, rfl, trivial⟩⟩⟩
    · refine SCmp.yes (rfl) ?_
      refine SIdx.mk 2 _ rfl rfl ?_
      refine SCall.pure (none1_ok (m 2) (lst (cntH 1 n r) G) (fun i hi => by rw [lst_length] at hi; rw [lst_getD hi]; exact check1_ok _ ((h.bG i hi).mono (by omega))) (by rw [lst_length]; exact Nat.le_trans (cb 2) (by decide))) ?_
      refine SCond.mk (fun h => by cases h) (fun _ => ?_)
      refine SWrap.i64z ((2 + 1 : Nat) : Int) (by omega) (by omega) ?_
      exact ⟨2 + 1, [0, 1], by decide, by decide, ⟨rfl, by simp, rfl, rfl, rfl, ⟨rfl, rfl, rfl, trivial⟩, ⟨rfl, rfl, trivial⟩⟩⟩
    · refine SCmp.yes (rfl) ?_
      refine SIdx.mk 3 _ rfl rfl ?_
      refine SCall.pure (none1_ok (m 3) (lst (cntH 1 n r) H) (fun i hi => by rw [lst_length] at hi; rw [lst_getD hi]; exact check1_ok _ ((h.bH i hi).mono (by omega))) (by rw [lst_length]; exact Nat.le_trans (cb 3) (by decide))) ?_
      refine SCond.mk (fun h => by cases h) (fun _ => ?_)
      refine SWrap.i64z ((3 + 1 : Nat) : Int) (by omega) (by omega) ?_
      exact ⟨3 + 1, [0, 1], by decide, by decide, ⟨rfl, by simp, rfl, rfl, rfl, ⟨rfl, rfl, rfl, trivial⟩, ⟨rfl, rfl, trivial⟩⟩⟩
    · refine SCmp.no (rfl) ?_
      refine SZ.mk ((cntA 1 n : Nat) : Int) (by simp [lst]) ?_
      refine SLoop.mk Nat (fun i => ([(1, .bptr 0 0), (68, .p (ratsM (m 0) (lst (cntA 1 n) A))), (69, .p (.int .i64 ((cntA 1 n : Nat) : Int))), (70, .p (.int .i64 i))], [.box 26 [.p (.int .i64 ((1 : Nat) : Int)), .p (.int .i64 (n : Int)), .p (.int .i64 (r : Int)), .p (ratsM (m 0) (lst (cntA 1 n) A)), .p (ratsM (m 1) (lst (cntB 1 n) B)), .p (ratsM (m 2) (lst (cntH 1 n r) G)), .p (ratsM (m 3) (lst (cntH 1 n r) H))], .box 93 [.p (ratsM (m 0) (lst (cntA 1 n) A)), .p (ratsM (m 1) (lst (cntB 1 n) B)), .p (ratsM (m 2) (lst (cntH 1 n r) G)), .p (ratsM (m 3) (lst (cntH 1 n r) H))]]))
        (fun i => i ≤ cntA 1 n) (fun i => cntA 1 n - i) 0 [0, 1] (Nat.zero_le _) ⟨rfl, by simp, rfl, rfl, rfl, ⟨rfl, rfl, rfl, rfl, trivial⟩, ⟨rfl, rfl, trivial⟩⟩ ?_
      intro i hi
      have hi : i ≤ cntA 1 n := hi
      have cA := cb 0
      by_cases hia : i < cntA 1 n
      · refine SCmp.yes (decide_eq_true (by omega)) ?_
        refine SIdx.rf i rfl hia ?_
        have hz := (h.bA i hia).mono (show b ≤ c by omega)
        have hc2 := none2_ok (m 1) true (A i) (lst (cntB 1 n) B) (fun j hj => by
          rw [lst_length] at hj; rw [lst_getD hj]
          have := check2_ok true (A i) (B j) hz (h.bB j hj) (by omega)
          rw [decide_eq_false (h.ne i j hia hj)] at this
          exact this) (by rw [lst_length]; exact Nat.le_trans (cb 1) (by decide))
        refine SCall.pure (pvs := [ratsM (m 1) (lst (cntB 1 n) B), .fn 68 [.pel true (ratP (A i))]]) hc2 ?_
        refine SCond.mk (fun h => by cases h) (fun _ => ?_)
        refine SWrap.i64z ((i + 1 : Nat) : Int) (by omega) (by omega) ?_
        exact ⟨i + 1, [0, 1], hia, by show cntA 1 n - (i + 1) < cntA 1 n - i; omega, ⟨rfl, by simp, rfl, rfl, rfl, ⟨rfl, rfl, rfl, rfl, trivial⟩, ⟨rfl, rfl, trivial⟩⟩⟩
      · refine SCmp.no (decide_eq_false (by omega)) ?_
        exact SRet.pure (.p _ (.int _ _))
theorem gcheck2_ok (m : Nat → Bool) (n r : Nat) (A B G H : Nat → Rat) {b c : Nat} (h : Wf ⟨2, n, r, A, B, G, H⟩ b c) : CallP Try.prog 45 [genP m ⟨2, n, r, A, B, G, H⟩] (.p (.int .i64 0)) [] := by
  have n6 : n ≤ 6 := h.n6
  have n1 : 1 ≤ n := h.n1
  have r2 : r ≤ 2 := h.r2
  have hnr : n * r ≤ 12 := Nat.mul_le_mul n6 r2
  have hc4 := h.c4
  have hbc := h.bc
  have cc := cnt_le (k := 2) (r := r) n1 (show n ≤ 8 by omega) (show r ≤ 3 by omega)
  have cb : ∀ i : Nat, (if i = 0 then cntA 2 n else if i = 1 then cntB 2 n else cntH 2 n r) ≤ 24 := fun i => by split <;> (try split) <;> omega
  show CallP Try.prog 45 [.agg [.int .i64 ((2 : Nat) : Int), .int .i64 (n : Int), .int .i64 (r : Int), ratsM (m 0) (lst (cntA 2 n) A), ratsM (m 1) (lst (cntB 2 n) B), ratsM (m 2) (lst (cntH 2 n r) G), ratsM (m 3) (lst (cntH 2 n r) H)]] (.p (.int .i64 0)) []
  refine callG_of_vc (wr := wr0) Γok mixed Try.func45 (by kernel_rfl) rfl (by kernel_rfl) (le_of_ble rfl) (by simp) ?_
  refine SCmp.no (decide_eq_false (by omega)) ?_
  refine SCmp.no (decide_eq_false (by omega)) ?_
  refine SCall.pure (sized_ok m ⟨2, n, r, A, B, G, H⟩ h) ?_
  refine SCmp.no (rfl) ?_
  refine SCall.lent [genP m ⟨2, n, r, A, B, G, H⟩] _ rfl (genrows_ok m ⟨2, n, r, A, B, G, H⟩) ?_
  refine SCall.pure (counts_ok) ?_
  refine SLoop.mk Nat (fun i => ([(1, .bptr 0 0), (3, .bptr 1 0), (4, .p (.mp false cntM)), (28, .p (.agg [ratsM (m 0) (lst (cntA 2 n) A), ratsM (m 1) (lst (cntB 2 n) B), ratsM (m 2) (lst (cntH 2 n r) G), ratsM (m 3) (lst (cntH 2 n r) H)])), (29, .p (.int .i64 i))], [.box 26 [.p (.int .i64 ((2 : Nat) : Int)), .p (.int .i64 (n : Int)), .p (.int .i64 (r : Int)), .p (ratsM (m 0) (lst (cntA 2 n) A)), .p (ratsM (m 1) (lst (cntB 2 n) B)), .p (ratsM (m 2) (lst (cntH 2 n r) G)), .p (ratsM (m 3) (lst (cntH 2 n r) H))], .box 93 [.p (ratsM (m 0) (lst (cntA 2 n) A)), .p (ratsM (m 1) (lst (cntB 2 n) B)), .p (ratsM (m 2) (lst (cntH 2 n r) G)), .p (ratsM (m 3) (lst (cntH 2 n r) H))]]))
    (fun i => i ≤ 4) (fun i => 4 - i) 0 [0, 1] (Nat.zero_le _) ⟨rfl, by simp, rfl, rfl, rfl, ⟨rfl, rfl, rfl, rfl, rfl, trivial⟩, ⟨rfl, rfl, trivial⟩⟩ ?_
  intro i hi
  have hi : i ≤ 4 := hi
  rcases (show i = 0 ∨ i = 1 ∨ i = 2 ∨ i = 3 ∨ i = 4 by omega) with rfl | rfl | rfl | rfl | rfl
  · refine SCmp.yes (rfl) ?_
    refine SIdx.mk 0 _ rfl rfl ?_
    refine SKeys.all rfl <| SGet.at 1 _ rfl rfl rfl ?_
    refine SZ.mk ((cntA 2 n : Nat) : Int) (by simp [lst]) ?_
    refine SPos.mk 0 rfl (by decide) ?_
    refine SWrap.i64z ((2 * n : Nat) : Int) (by omega) (by omega) ?_
    refine SPos.mk 1 rfl (by decide) ?_
    refine SWrap.i64z ((0 * n : Nat) : Int) (by omega) (by omega) ?_
    refine SWrap.i64z ((0 : Nat) : Int) (by simp) (by omega) ?_
    refine SWrap.i64z ((2 * n + 0 : Nat) : Int) (by omega) (by omega) ?_
    refine SPos.mk 2 rfl (by decide) ?_
    refine SWrap.i64z ((cntA 2 n : Nat) : Int) (by simp [cntA, cntB, cntH] <;> omega) (by have := cnt_le (k := 2) (r := r) n1 (show n ≤ 8 by omega) (show r ≤ 3 by omega); omega) ?_
    refine SCmp.no (neF rfl) ?_
    refine SWrap.i64z ((0 + 1 : Nat) : Int) (by omega) (by omega) ?_
    exact ⟨0 + 1, [0, 1], by decide, by decide, ⟨rfl, by simp, rfl, rfl, rfl, ⟨rfl, rfl, rfl, rfl, rfl, trivial⟩, ⟨rfl, rfl, trivial⟩⟩⟩
  · refine SCmp.yes (rfl) ?_
    refine SIdx.mk 1 _ rfl rfl ?_
    refine SKeys.all rfl <| SGet.none rfl ?_
    refine SZ.mk ((cntB 2 n : Nat) : Int) (by simp [lst]) ?_
    refine SPos.mk 0 rfl (by decide) ?_
    refine SWrap.i64z ((0 * n : Nat) : Int) (by omega) (by omega) ?_
    refine SPos.mk 1 rfl (by decide) ?_
    refine SWrap.i64z ((0 * n : Nat) : Int) (by omega) (by omega) ?_
    refine SWrap.i64z ((0 : Nat) : Int) (by simp) (by omega) ?_
    refine SWrap.i64z ((0 * n + 0 : Nat) : Int) (by omega) (by omega) ?_
    refine SPos.mk 2 rfl (by decide) ?_
    refine SWrap.i64z ((cntB 2 n : Nat) : Int) (by simp [cntA, cntB, cntH] <;> omega) (by have := cnt_le (k := 2) (r := r) n1 (show n ≤ 8 by omega) (show r ≤ 3 by omega); omega) ?_
    refine SCmp.no (neF rfl) ?_
    refine SWrap.i64z ((1 + 1 : Nat) : Int) (by omega) (by omega) ?_
    exact ⟨1 + 1, [0, 1], by decide, by decide, ⟨rfl, by simp, rfl, rfl, rfl, ⟨rfl, rfl, rfl, rfl, rfl, trivial⟩, ⟨rfl, rfl, trivial⟩⟩⟩
  · refine SCmp.yes (rfl) ?_
    refine SIdx.mk 2 _ rfl rfl ?_
    refine SKeys.all rfl <| SGet.none rfl ?_
    refine SZ.mk ((cntH 2 n r : Nat) : Int) (by simp [lst]) ?_
    refine SPos.mk 0 rfl (by decide) ?_
    refine SWrap.i64z ((0 * n : Nat) : Int) (by omega) (by omega) ?_
    refine SPos.mk 1 rfl (by decide) ?_
    refine SWrap.i64z ((0 * n : Nat) : Int) (by omega) (by omega) ?_
    refine SWrap.i64z ((0 : Nat) : Int) (by simp) (by omega) ?_
    refine SWrap.i64z ((0 * n + 0 : Nat) : Int) (by omega) (by omega) ?_
    refine SPos.mk 2 rfl (by decide) ?_
    refine SWrap.i64z ((cntH 2 n r : Nat) : Int) (by simp [cntA, cntB, cntH] <;> omega) (by have := cnt_le (k := 2) (r := r) n1 (show n ≤ 8 by omega) (show r ≤ 3 by omega); omega) ?_
    refine SCmp.no (neF rfl) ?_
    refine SWrap.i64z ((2 + 1 : Nat) : Int) (by omega) (by omega) ?_
    exact ⟨2 + 1, [0, 1], by decide, by decide, ⟨rfl, by simp, rfl, rfl, rfl, ⟨rfl, rfl, rfl, rfl, rfl, trivial⟩, ⟨rfl, rfl, trivial⟩⟩⟩
  · refine SCmp.yes (rfl) ?_
    refine SIdx.mk 3 _ rfl rfl ?_
    refine SKeys.all rfl <| SGet.none rfl ?_
    refine SZ.mk ((cntH 2 n r : Nat) : Int) (by simp [lst]) ?_
    refine SPos.mk 0 rfl (by decide) ?_
    refine SWrap.i64z ((0 * n : Nat) : Int) (by omega) (by omega) ?_
    refine SPos.mk 1 rfl (by decide) ?_
    refine SWrap.i64z ((0 * n : Nat) : Int) (by omega) (by omega) ?_
    refine SWrap.i64z ((0 : Nat) : Int) (by simp) (by omega) ?_
    refine SWrap.i64z ((0 * n + 0 : Nat) : Int) (by omega) (by omega) ?_
    refine SPos.mk 2 rfl (by decide) ?_
    refine SWrap.i64z ((cntH 2 n r : Nat) : Int) (by simp [cntA, cntB, cntH] <;> omega) (by have := cnt_le (k := 2) (r := r) n1 (show n ≤ 8 by omega) (show r ≤ 3 by omega); omega) ?_
    refine SCmp.no (neF rfl) ?_
    refine SWrap.i64z ((3 + 1 : Nat) : Int) (by omega) (by omega) ?_
    exact ⟨3 + 1, [0, 1], by decide, by decide, ⟨rfl, by simp, rfl, rfl, rfl, ⟨rfl, rfl, rfl, rfl, rfl, trivial⟩, ⟨rfl, rfl, trivial⟩⟩⟩
  · refine SCmp.no (rfl) ?_
    refine SLoop.mk Nat (fun i => ([(1, .bptr 0 0), (60, .p (.agg [ratsM (m 0) (lst (cntA 2 n) A), ratsM (m 1) (lst (cntB 2 n) B), ratsM (m 2) (lst (cntH 2 n r) G), ratsM (m 3) (lst (cntH 2 n r) H)])), (61, .p (.int .i64 i))], [.box 26 [.p (.int .i64 ((2 : Nat) : Int)), .p (.int .i64 (n : Int)), .p (.int .i64 (r : Int)), .p (ratsM (m 0) (lst (cntA 2 n) A)), .p (ratsM (m 1) (lst (cntB 2 n) B)), .p (ratsM (m 2) (lst (cntH 2 n r) G)), .p (ratsM (m 3) (lst (cntH 2 n r) H))], .box 93 [.p (ratsM (m 0) (lst (cntA 2 n) A)), .p (ratsM (m 1) (lst (cntB 2 n) B)), .p (ratsM (m 2) (lst (cntH 2 n r) G)), .p (ratsM (m 3) (lst (cntH 2 n r) H))]]))
      (fun i => i ≤ 4) (fun i => 4 - i) 0 [0, 1] (Nat.zero_le _) ⟨rfl, by simp, rfl, rfl, rfl, ⟨rfl, rfl, rfl, trivial⟩, ⟨rfl, rfl, trivial⟩⟩ ?_
    intro i hi
    have hi : i ≤ 4 := hi
    rcases (show i = 0 ∨ i = 1 ∨ i = 2 ∨ i = 3 ∨ i = 4 by omega) with rfl | rfl | rfl | rfl | rfl
    · refine SCmp.yes (rfl) ?_
      refine SIdx.mk 0 _ rfl rfl ?_
      refine SCall.pure (none1_ok (m 0) (lst (cntA 2 n) A) (fun i hi => by rw [lst_length] at hi; rw [lst_getD hi]; exact check1_ok _ ((h.bA i hi).mono (by omega))) (by rw [lst_length]; exact Nat.le_trans (cb 0) (by decide))) ?_
      refine SCond.mk (fun h => by cases h) (fun _ => ?_)
      refine SWrap.i64z ((0 + 1 : Nat) : Int) (by omega) (by omega) ?_
      exact ⟨0 + 1, [0, 1], by decide, by decide, ⟨rfl, by simp, rfl, rfl, rfl, ⟨rfl, rfl, rfl, trivial⟩, ⟨rfl, rfl, trivial⟩⟩⟩
    · refine SCmp.yes (rfl) ?_
      refine SIdx.mk 1 _ rfl rfl ?_
      refine SCall.pure (none1_ok (m 1) (lst (cntB 2 n) B) (fun i hi => by rw [lst_length] at hi; rw [lst_getD hi]; exact check1_ok _ ((h.bB i hi).mono (by omega))) (by rw [lst_length]; exact Nat.le_trans (cb 1) (by decide))) ?_
      refine SCond.mk (fun h => by cases h) (fun _ => ?_)
      refine SWrap.i64z ((1 + 1 : Nat) : Int) (by omega) (by omega) ?_
      exact ⟨1 + 1, [0, 1], by decide, by decide, ⟨rfl, by simp, rfl, rfl, rfl, ⟨rfl, rfl, rfl, trivial⟩, ⟨rfl, rfl, trivial⟩⟩⟩
    · refine SCmp.yes (rfl) ?_
      refine SIdx.mk 2 _ rfl rfl ?_
      refine SCall.pure (none1_ok (m 2) (lst (cntH 2 n r) G) (fun i hi => by rw [lst_length] at hi; rw [lst_getD hi]; exact check1_ok _ ((h.bG i hi).mono (by omega))) (by rw [lst_length]; exact Nat.le_trans (cb 2) (by decide))) ?_
      refine SCond.mk (fun h => by cases h) (fun _ => ?_)
      refine SWrap.i64z ((2 + 1 : Nat) : Int) (by omega) (by omega) ?_
      exact ⟨2 + 1, [0, 1], by decide, by decide, ⟨rfl, by simp, rfl, rfl, rfl, ⟨rfl, rfl, rfl, trivial⟩, ⟨rfl, rfl, trivial⟩⟩⟩
    · refine SCmp.yes (rfl) ?_
      refine SIdx.mk 3 _ rfl rfl ?_
      refine SCall.pure (none1_ok (m 3) (lst (cntH 2 n r) H) (fun i hi => by rw [lst_length] at hi; rw [lst_getD hi]; exact check1_ok _ ((h.bH i hi).mono (by omega))) (by rw [lst_length]; exact Nat.le_trans (cb 3) (by decide))) ?_
      refine SCond.mk (fun h => by cases h) (fun _ => ?_)
      refine SWrap.i64z ((3 + 1 : Nat) : Int) (by omega) (by omega) ?_
      exact ⟨3 + 1, [0, 1], by decide, by decide, ⟨rfl, by simp, rfl, rfl, rfl, ⟨rfl, rfl, rfl, trivial⟩, ⟨rfl, rfl, trivial⟩⟩⟩
    · refine SCmp.no (rfl) ?_
      refine SZ.mk ((cntA 2 n : Nat) : Int) (by simp [lst]) ?_
      refine SLoop.mk Nat (fun i => ([(1, .bptr 0 0), (68, .p (ratsM (m 0) (lst (cntA 2 n) A))), (69, .p (.int .i64 ((cntA 2 n : Nat) : Int))), (70, .p (.int .i64 i))], [.box 26 [.p (.int .i64 ((2 : Nat) : Int)), .p (.int .i64 (n : Int)), .p (.int .i64 (r : Int)), .p (ratsM (m 0) (lst (cntA 2 n) A)), .p (ratsM (m 1) (lst (cntB 2 n) B)), .p (ratsM (m 2) (lst (cntH 2 n r) G)), .p (ratsM (m 3) (lst (cntH 2 n r) H))], .box 93 [.p (ratsM (m 0) (lst (cntA 2 n) A)), .p (ratsM (m 1) (lst (cntB 2 n) B)), .p (ratsM (m 2) (lst (cntH 2 n r) G)), .p (ratsM (m 3) (lst (cntH 2 n r) H))]]))
        (fun i => i ≤ cntA 2 n) (fun i => cntA 2 n - i) 0 [0, 1] (Nat.zero_le _) ⟨rfl, by simp, rfl, rfl, rfl, ⟨rfl, rfl, rfl, rfl, trivial⟩, ⟨rfl, rfl, trivial⟩⟩ ?_
      intro i hi
      have hi : i ≤ cntA 2 n := hi
      have cA := cb 0
      by_cases hia : i < cntA 2 n
      · refine SCmp.yes (decide_eq_true (by omega)) ?_
        refine SIdx.rf i rfl hia ?_
        have hz := (h.bA i hia).mono (show b ≤ c by omega)
        have hc2 := none2_ok (m 1) true (A i) (lst (cntB 2 n) B) (fun j hj => by
          rw [lst_length] at hj; rw [lst_getD hj]
          have := check2_ok true (A i) (B j) hz (h.bB j hj) (by omega)
          rw [decide_eq_false (h.ne i j hia hj)] at this
          exact this) (by rw [lst_length]; exact Nat.le_trans (cb 1) (by decide))
        refine SCall.pure (pvs := [ratsM (m 1) (lst (cntB 2 n) B), .fn 68 [.pel true (ratP (A i))]]) hc2 ?_
        refine SCond.mk (fun h => by cases h) (fun _ => ?_)
        refine SWrap.i64z ((i + 1 : Nat) : Int) (by omega) (by omega) ?_
        exact ⟨i + 1, [0, 1], hia, by show cntA 2 n - (i + 1) < cntA 2 n - i; omega, ⟨rfl, by simp, rfl, rfl, rfl, ⟨rfl, rfl, rfl, rfl, trivial⟩, ⟨rfl, rfl, trivial⟩⟩⟩
      · refine SCmp.no (decide_eq_false (by omega)) ?_
        exact SRet.pure (.p _ (.int _ _))
theorem gcheck3_ok (m : Nat → Bool) (n r : Nat) (A B G H : Nat → Rat) {b c : Nat} (h : Wf ⟨3, n, r, A, B, G, H⟩ b c) : CallP Try.prog 45 [genP m ⟨3, n, r, A, B, G, H⟩] (.p (.int .i64 0)) [] := by
  have n6 : n ≤ 6 := h.n6
  have n1 : 1 ≤ n := h.n1
  have r2 : r ≤ 2 := h.r2
  have hnr : n * r ≤ 12 := Nat.mul_le_mul n6 r2
  have hc4 := h.c4
  have hbc := h.bc
  have cc := cnt_le (k := 3) (r := r) n1 (show n ≤ 8 by omega) (show r ≤ 3 by omega)
  have cb : ∀ i : Nat, (if i = 0 then cntA 3 n else if i = 1 then cntB 3 n else cntH 3 n r) ≤ 24 := fun i => by split <;> (try split) <;> omega
  show CallP Try.prog 45 [.agg [.int .i64 ((3 : Nat) : Int), .int .i64 (n : Int), .int .i64 (r : Int), ratsM (m 0) (lst (cntA 3 n) A), ratsM (m 1) (lst (cntB 3 n) B), ratsM (m 2) (lst (cntH 3 n r) G), ratsM (m 3) (lst (cntH 3 n r) H)]] (.p (.int .i64 0)) []
  refine callG_of_vc (wr := wr0) Γok mixed Try.func45 (by kernel_rfl) rfl (by kernel_rfl) (le_of_ble rfl) (by simp) ?_
  refine SCmp.no (decide_eq_false (by omega)) ?_
  refine SCmp.no (decide_eq_false (by omega)) ?_
  refine SCall.pure (sized_ok m ⟨3, n, r, A, B, G, H⟩ h) ?_
  refine SCmp.no (rfl) ?_
  refine SCall.lent [genP m ⟨3, n, r, A, B, G, H⟩] _ rfl (genrows_ok m ⟨3, n, r, A, B, G, H⟩) ?_
  refine SCall.pure (counts_ok) ?_
  refine SLoop.mk Nat (fun i => ([(1, .bptr 0 0), (3, .bptr 1 0), (4, .p (.mp false cntM)), (28, .p (.agg [ratsM (m 0) (lst (cntA 3 n) A), ratsM (m 1) (lst (cntB 3 n) B), ratsM (m 2) (lst (cntH 3 n r) G), ratsM (m 3) (lst (cntH 3 n r) H)])), (29, .p (.int .i64 i))], [.box 26 [.p (.int .i64 ((3 : Nat) : Int)), .p (.int .i64 (n : Int)), .p (.int .i64 (r : Int)), .p (ratsM (m 0) (lst (cntA 3 n) A)), .p (ratsM (m 1) (lst (cntB 3 n) B)), .p (ratsM (m 2) (lst (cntH 3 n r) G)), .p (ratsM (m 3) (lst (cntH 3 n r) H))], .box 93 [.p (ratsM (m 0) (lst (cntA 3 n) A)), .p (ratsM (m 1) (lst (cntB 3 n) B)), .p (ratsM (m 2) (lst (cntH 3 n r) G)), .p (ratsM (m 3) (lst (cntH 3 n r) H))]]))
    (fun i => i ≤ 4) (fun i => 4 - i) 0 [0, 1] (Nat.zero_le _) ⟨rfl, by simp, rfl, rfl, rfl, ⟨rfl, rfl, rfl, rfl, rfl, trivial⟩, ⟨rfl, rfl, trivial⟩⟩ ?_
  intro i hi
  have hi : i ≤ 4 := hi
  rcases (show i = 0 ∨ i = 1 ∨ i = 2 ∨ i = 3 ∨ i = 4 by omega) with rfl | rfl | rfl | rfl | rfl
  · refine SCmp.yes (rfl) ?_
    refine SIdx.mk 0 _ rfl rfl ?_
    refine SKeys.all rfl <| SGet.at 2 _ rfl rfl rfl ?_
    refine SZ.mk ((cntA 3 n : Nat) : Int) (by simp [lst]) ?_
    refine SPos.mk 0 rfl (by decide) ?_
    refine SWrap.i64z ((1 * n : Nat) : Int) (by omega) (by omega) ?_
    refine SPos.mk 1 rfl (by decide) ?_
    refine SWrap.i64z ((0 * n : Nat) : Int) (by omega) (by omega) ?_
    refine SWrap.i64z ((0 : Nat) : Int) (by simp) (by omega) ?_
    refine SWrap.i64z ((1 * n + 0 : Nat) : Int) (by omega) (by omega) ?_
    refine SPos.mk 2 rfl (by decide) ?_
    refine SWrap.i64z ((cntA 3 n : Nat) : Int) (by simp [cntA, cntB, cntH] <;> omega) (by have := cnt_le (k := 3) (r := r) n1 (show n ≤ 8 by omega) (show r ≤ 3 by omega); omega) ?_
    refine SCmp.no (neF rfl) ?_
    refine SWrap.i64z ((0 + 1 : Nat) : Int) (by omega) (by omega) ?_
    exact ⟨0 + 1, [0, 1], by decide, by decide, ⟨rfl, by simp, rfl, rfl, rfl, ⟨rfl, rfl, rfl, rfl, rfl, trivial⟩, ⟨rfl, rfl, trivial⟩⟩⟩
  · refine SCmp.yes (rfl) ?_
    refine SIdx.mk 1 _ rfl rfl ?_
    refine SKeys.all rfl <| SGet.none rfl ?_
    refine SZ.mk ((cntB 3 n : Nat) : Int) (by simp [lst]) ?_
    refine SPos.mk 0 rfl (by decide) ?_
    refine SWrap.i64z ((0 * n : Nat) : Int) (by omega) (by omega) ?_
    refine SPos.mk 1 rfl (by decide) ?_
    refine SWrap.i64z ((0 * n : Nat) : Int) (by omega) (by omega) ?_
    refine SWrap.i64z ((0 : Nat) : Int) (by simp) (by omega) ?_
    refine SWrap.i64z ((0 * n + 0 : Nat) : Int) (by omega) (by omega) ?_
    refine SPos.mk 2 rfl (by decide) ?_
    refine SWrap.i64z ((cntB 3 n : Nat) : Int) (by simp [cntA, cntB, cntH] <;> omega) (by have := cnt_le (k := 3) (r := r) n1 (show n ≤ 8 by omega) (show r ≤ 3 by omega); omega) ?_
    refine SCmp.no (neF rfl) ?_
    refine SWrap.i64z ((1 + 1 : Nat) : Int) (by omega) (by omega) ?_
    exact ⟨1 + 1, [0, 1], by decide, by decide, ⟨rfl, by simp, rfl, rfl, rfl, ⟨rfl, rfl, rfl, rfl, rfl, trivial⟩, ⟨rfl, rfl, trivial⟩⟩⟩
  · refine SCmp.yes (rfl) ?_
    refine SIdx.mk 2 _ rfl rfl ?_
    refine SKeys.all rfl <| SGet.none rfl ?_
    refine SZ.mk ((cntH 3 n r : Nat) : Int) (by simp [lst]) ?_
    refine SPos.mk 0 rfl (by decide) ?_
    refine SWrap.i64z ((0 * n : Nat) : Int) (by omega) (by omega) ?_
    refine SPos.mk 1 rfl (by decide) ?_
    refine SWrap.i64z ((0 * n : Nat) : Int) (by omega) (by omega) ?_
    refine SWrap.i64z ((0 : Nat) : Int) (by simp) (by omega) ?_
    refine SWrap.i64z ((0 * n + 0 : Nat) : Int) (by omega) (by omega) ?_
    refine SPos.mk 2 rfl (by decide) ?_
    refine SWrap.i64z ((cntH 3 n r : Nat) : Int) (by simp [cntA, cntB, cntH] <;> omega) (by have := cnt_le (k := 3) (r := r) n1 (show n ≤ 8 by omega) (show r ≤ 3 by omega); omega) ?_
    refine SCmp.no (neF rfl) ?_
    refine SWrap.i64z ((2 + 1 : Nat) : Int) (by omega) (by omega) ?_
    exact ⟨2 + 1, [0, 1], by decide, by decide, ⟨rfl, by simp, rfl, rfl, rfl, ⟨rfl, rfl, rfl, rfl, rfl, trivial⟩, ⟨rfl, rfl, trivial⟩⟩⟩
  · refine SCmp.yes (rfl) ?_
    refine SIdx.mk 3 _ rfl rfl ?_
    refine SKeys.all rfl <| SGet.none rfl ?_
    refine SZ.mk ((cntH 3 n r : Nat) : Int) (by simp [lst]) ?_
    refine SPos.mk 0 rfl (by decide) ?_
    refine SWrap.i64z ((0 * n : Nat) : Int) (by omega) (by omega) ?_
    refine SPos.mk 1 rfl (by decide) ?_
    refine SWrap.i64z ((0 * n : Nat) : Int) (by omega) (by omega) ?_
    refine SWrap.i64z ((0 : Nat) : Int) (by simp) (by omega) ?_
    refine SWrap.i64z ((0 * n + 0 : Nat) : Int) (by omega) (by omega) ?_
    refine SPos.mk 2 rfl (by decide) ?_
    refine SWrap.i64z ((cntH 3 n r : Nat) : Int) (by simp [cntA, cntB, cntH] <;> omega) (by have := cnt_le (k := 3) (r := r) n1 (show n ≤ 8 by omega) (show r ≤ 3 by omega); omega) ?_
    refine SCmp.no (neF rfl) ?_
    refine SWrap.i64z ((3 + 1 : Nat) : Int) (by omega) (by omega) ?_
    exact ⟨3 + 1, [0, 1], by decide, by decide, ⟨rfl, by simp, rfl, rfl, rfl, ⟨rfl, rfl, rfl, rfl, rfl, trivial⟩, ⟨rfl, rfl, trivial⟩⟩⟩
  · refine SCmp.no (rfl) ?_
    refine SLoop.mk Nat (fun i => ([(1, .bptr 0 0), (60, .p (.agg [ratsM (m 0) (lst (cntA 3 n) A), ratsM (m 1) (lst (cntB 3 n) B), ratsM (m 2) (lst (cntH 3 n r) G), ratsM (m 3) (lst (cntH 3 n r) H)])), (61, .p (.int .i64 i))], [.box 26 [.p (.int .i64 ((3 : Nat) : Int)), .p (.int .i64 (n : Int)), .p (.int .i64 (r : Int)), .p (ratsM (m 0) (lst (cntA 3 n) A)), .p (ratsM (m 1) (lst (cntB 3 n) B)), .p (ratsM (m 2) (lst (cntH 3 n r) G)), .p (ratsM (m 3) (lst (cntH 3 n r) H))], .box 93 [.p (ratsM (m 0) (lst (cntA 3 n) A)), .p (ratsM (m 1) (lst (cntB 3 n) B)), .p (ratsM (m 2) (lst (cntH 3 n r) G)), .p (ratsM (m 3) (lst (cntH 3 n r) H))]]))
      (fun i => i ≤ 4) (fun i => 4 - i) 0 [0, 1] (Nat.zero_le _) ⟨rfl, by simp, rfl, rfl, rfl, ⟨rfl, rfl, rfl, trivial⟩, ⟨rfl, rfl, trivial⟩⟩ ?_
    intro i hi
    have hi : i ≤ 4 := hi
    rcases (show i = 0 ∨ i = 1 ∨ i = 2 ∨ i = 3 ∨ i = 4 by omega) with rfl | rfl | rfl | rfl | rfl
    · refine SCmp.yes (rfl) ?_
      refine SIdx.mk 0 _ rfl rfl ?_
      refine SCall.pure (none1_ok (m 0) (lst (cntA 3 n) A) (fun i hi => by rw [lst_length] at hi; rw [lst_getD hi]; exact check1_ok _ ((h.bA i hi).mono (by omega))) (by rw [lst_length]; exact Nat.le_trans (cb 0) (by decide))) ?_
      refine SCond.mk (fun h => by cases h) (fun _ => ?_)
      refine SWrap.i64z ((0 + 1 : Nat) : Int) (by omega) (by omega) ?_
      exact ⟨0 + 1, [0, 1], by decide, by decide, ⟨rfl, by simp, rfl, rfl, rfl, ⟨rfl, rfl, rfl, trivial⟩, ⟨rfl, rfl, trivial⟩⟩⟩
    · refine SCmp.yes (rfl) ?_
      refine SIdx.mk 1 _ rfl rfl ?_
      refine SCall.pure (none1_ok (m 1) (lst (cntB 3 n) B) (fun i hi => by rw [lst_length] at hi; rw [lst_getD hi]; exact check1_ok _ ((h.bB i hi).mono (by omega))) (by rw [lst_length]; exact Nat.le_trans (cb 1) (by decide))) ?_
      refine SCond.mk (fun h => by cases h) (fun _ => ?_)
      refine SWrap.i64z ((1 + 1 : Nat) : Int) (by omega) (by omega) ?_
      exact ⟨1 + 1, [0, 1], by decide, by decide, ⟨rfl, by simp, rfl, rfl, rfl, ⟨rfl, rfl, rfl, trivial⟩, ⟨rfl, rfl, trivial⟩⟩⟩
    · refine SCmp.yes (rfl) ?_
      refine SIdx.mk 2 _ rfl rfl ?_
      refine SCall.pure (none1_ok (m 2) (lst (cntH 3 n r) G) (fun i hi => by rw [lst_length] at hi; rw [lst_getD hi]; exact check1_ok _ ((h.bG i hi).mono (by omega))) (by rw [lst_length]; exact Nat.le_trans (cb 2) (by decide))) ?_
      refine SCond.mk (fun h => by cases h) (fun _ => ?_)
      refine SWrap.i64z ((2 + 1 : Nat) : Int) (by omega) (by omega) ?_
      exact ⟨2 + 1, [0, 1], by decide, by decide, ⟨rfl, by simp, rfl, rfl, rfl, ⟨rfl, rfl, rfl, trivial⟩, ⟨rfl, rfl, trivial⟩⟩⟩
    · refine SCmp.yes (rfl) ?_
      refine SIdx.mk 3 _ rfl rfl ?_
      refine SCall.pure (none1_ok (m 3) (lst (cntH 3 n r) H) (fun i hi => by rw [lst_length] at hi; rw [lst_getD hi]; exact check1_ok _ ((h.bH i hi).mono (by omega))) (by rw [lst_length]; exact Nat.le_trans (cb 3) (by decide))) ?_
      refine SCond.mk (fun h => by cases h) (fun _ => ?_)
      refine SWrap.i64z ((3 + 1 : Nat) : Int) (by omega) (by omega) ?_
      exact ⟨3 + 1, [0, 1], by decide, by decide, ⟨rfl, by simp, rfl, rfl, rfl, ⟨rfl, rfl, rfl, trivial⟩, ⟨rfl, rfl, trivial⟩⟩⟩
    · refine SCmp.no (rfl) ?_
      refine SZ.mk ((cntA 3 n : Nat) : Int) (by simp [lst]) ?_
      refine SLoop.mk Nat (fun i => ([(1, .bptr 0 0), (68, .p (ratsM (m 0) (lst (cntA 3 n) A))), (69, .p (.int .i64 ((cntA 3 n : Nat) : Int))), (70, .p (.int .i64 i))], [.box 26 [.p (.int .i64 ((3 : Nat) : Int)), .p (.int .i64 (n : Int)), .p (.int .i64 (r : Int)), .p (ratsM (m 0) (lst (cntA 3 n) A)), .p (ratsM (m 1) (lst (cntB 3 n) B)), .p (ratsM (m 2) (lst (cntH 3 n r) G)), .p (ratsM (m 3) (lst (cntH 3 n r) H))], .box 93 [.p (ratsM (m 0) (lst (cntA 3 n) A)), .p (ratsM (m 1) (lst (cntB 3 n) B)), .p (ratsM (m 2) (lst (cntH 3 n r) G)), .p (ratsM (m 3) (lst (cntH 3 n r) H))]]))
        (fun i => i ≤ cntA 3 n) (fun i => cntA 3 n - i) 0 [0, 1] (Nat.zero_le _) ⟨rfl, by simp, rfl, rfl, rfl, ⟨rfl, rfl, rfl, rfl, trivial⟩, ⟨rfl, rfl, trivial⟩⟩ ?_
      intro i hi
      have hi : i ≤ cntA 3 n := hi
      have cA := cb 0
      by_cases hia : i < cntA 3 n
      · refine SCmp.yes (decide_eq_true (by omega)) ?_
        refine SIdx.rf i rfl hia ?_
        have hz := (h.bA i hia).mono (show b ≤ c by omega)
        have hc2 := none2_ok (m 1) true (A i) (lst (cntB 3 n) B) (fun j hj => by
          rw [lst_length] at hj; rw [lst_getD hj]
          have := check2_ok true (A i) (B j) hz (h.bB j hj) (by omega)
          rw [decide_eq_false (h.ne i j hia hj)] at this
          exact this) (by rw [lst_length]; exact Nat.le_trans (cb 1) (by decide))
        refine SCall.pure (pvs := [ratsM (m 1) (lst (cntB 3 n) B), .fn 68 [.pel true (ratP (A i))]]) hc2 ?_
        refine SCond.mk (fun h => by cases h) (fun _ => ?_)
        refine SWrap.i64z ((i + 1 : Nat) : Int) (by omega) (by omega) ?_
        exact ⟨i + 1, [0, 1], hia, by show cntA 3 n - (i + 1) < cntA 3 n - i; omega, ⟨rfl, by simp, rfl, rfl, rfl, ⟨rfl, rfl, rfl, rfl, trivial⟩, ⟨rfl, rfl, trivial⟩⟩⟩
      · refine SCmp.no (decide_eq_false (by omega)) ?_
        exact SRet.pure (.p _ (.int _ _))
theorem gcheck4_ok (m : Nat → Bool) (n r : Nat) (A B G H : Nat → Rat) {b c : Nat} (h : Wf ⟨4, n, r, A, B, G, H⟩ b c) : CallP Try.prog 45 [genP m ⟨4, n, r, A, B, G, H⟩] (.p (.int .i64 0)) [] := by
  have n6 : n ≤ 6 := h.n6
  have n1 : 1 ≤ n := h.n1
  have r2 : r ≤ 2 := h.r2
  have hnr : n * r ≤ 12 := Nat.mul_le_mul n6 r2
  have hc4 := h.c4
  have hbc := h.bc
  have cc := cnt_le (k := 4) (r := r) n1 (show n ≤ 8 by omega) (show r ≤ 3 by omega)
  have cb : ∀ i : Nat, (if i = 0 then cntA 4 n else if i = 1 then cntB 4 n else cntH 4 n r) ≤ 24 := fun i => by split <;> (try split) <;> omega
  show CallP Try.prog 45 [.agg [.int .i64 ((4 : Nat) : Int), .int .i64 (n : Int), .int .i64 (r : Int), ratsM (m 0) (lst (cntA 4 n) A), ratsM (m 1) (lst (cntB 4 n) B), ratsM (m 2) (lst (cntH 4 n r) G), ratsM (m 3) (lst (cntH 4 n r) H)]] (.p (.int .i64 0)) []
  refine callG_of_vc (wr := wr0) Γok mixed Try.func45 (by kernel_rfl) rfl (by kernel_rfl) (le_of_ble rfl) (by simp) ?_
  refine SCmp.no (decide_eq_false (by omega)) ?_
  refine SCmp.no (decide_eq_false (by omega)) ?_
  refine SCall.pure (sized_ok m ⟨4, n, r, A, B, G, H⟩ h) ?_
  refine SCmp.no (rfl) ?_
  refine SCall.lent [genP m ⟨4, n, r, A, B, G, H⟩] _ rfl (genrows_ok m ⟨4, n, r, A, B, G, H⟩) ?_
  refine SCall.pure (counts_ok) ?_
  refine SLoop.mk Nat (fun i => ([(1, .bptr 0 0), (3, .bptr 1 0), (4, .p (.mp false cntM)), (28, .p (.agg [ratsM (m 0) (lst (cntA 4 n) A), ratsM (m 1) (lst (cntB 4 n) B), ratsM (m 2) (lst (cntH 4 n r) G), ratsM (m 3) (lst (cntH 4 n r) H)])), (29, .p (.int .i64 i))], [.box 26 [.p (.int .i64 ((4 : Nat) : Int)), .p (.int .i64 (n : Int)), .p (.int .i64 (r : Int)), .p (ratsM (m 0) (lst (cntA 4 n) A)), .p (ratsM (m 1) (lst (cntB 4 n) B)), .p (ratsM (m 2) (lst (cntH 4 n r) G)), .p (ratsM (m 3) (lst (cntH 4 n r) H))], .box 93 [.p (ratsM (m 0) (lst (cntA 4 n) A)), .p (ratsM (m 1) (lst (cntB 4 n) B)), .p (ratsM (m 2) (lst (cntH 4 n r) G)), .p (ratsM (m 3) (lst (cntH 4 n r) H))]]))
    (fun i => i ≤ 4) (fun i => 4 - i) 0 [0, 1] (Nat.zero_le _) ⟨rfl, by simp, rfl, rfl, rfl, ⟨rfl, rfl, rfl, rfl, rfl, trivial⟩, ⟨rfl, rfl, trivial⟩⟩ ?_
  intro i hi
  have hi : i ≤ 4 := hi
  rcases (show i = 0 ∨ i = 1 ∨ i = 2 ∨ i = 3 ∨ i = 4 by omega) with rfl | rfl | rfl | rfl | rfl
  · refine SCmp.yes (rfl) ?_
    refine SIdx.mk 0 _ rfl rfl ?_
    refine SKeys.all rfl <| SGet.at 3 _ rfl rfl rfl ?_
    refine SZ.mk ((cntA 4 n : Nat) : Int) (by simp [lst]) ?_
    refine SPos.mk 0 rfl (by decide) ?_
    refine SWrap.i64z ((1 * n : Nat) : Int) (by omega) (by omega) ?_
    refine SPos.mk 1 rfl (by decide) ?_
    refine SWrap.i64z ((0 * n : Nat) : Int) (by omega) (by omega) ?_
    refine SWrap.i64z ((0 : Nat) : Int) (by simp) (by omega) ?_
    refine SWrap.i64z ((1 * n + 0 : Nat) : Int) (by omega) (by omega) ?_
    refine SPos.mk 2 rfl (by decide) ?_
    refine SWrap.i64z ((cntA 4 n : Nat) : Int) (by simp [cntA, cntB, cntH] <;> omega) (by have := cnt_le (k := 4) (r := r) n1 (show n ≤ 8 by omega) (show r ≤ 3 by omega); omega) ?_
    refine SCmp.no (neF rfl) ?_
    refine SWrap.i64z ((0 + 1 : Nat) : Int) (by omega) (by omega) ?_
    exact ⟨0 + 1, [0, 1], by decide, by decide, ⟨rfl, by simp, rfl, rfl, rfl, ⟨rfl, rfl, rfl, rfl, rfl, trivial⟩, ⟨rfl, rfl, trivial⟩⟩⟩
  · refine SCmp.yes (rfl) ?_
    refine SIdx.mk 1 _ rfl rfl ?_
    refine SKeys.all rfl <| SGet.none rfl ?_
    refine SZ.mk ((cntB 4 n : Nat) : Int) (by simp [lst]) ?_
    refine SPos.mk 0 rfl (by decide) ?_
    refine SWrap.i64z ((0 * n : Nat) : Int) (by omega) (by omega) ?_
    refine SPos.mk 1 rfl (by decide) ?_
    refine SWrap.i64z ((0 * n : Nat) : Int) (by omega) (by omega) ?_
    refine SWrap.i64z ((0 : Nat) : Int) (by simp) (by omega) ?_
    refine SWrap.i64z ((0 * n + 0 : Nat) : Int) (by omega) (by omega) ?_
    refine SPos.mk 2 rfl (by decide) ?_
    refine SWrap.i64z ((cntB 4 n : Nat) : Int) (by simp [cntA, cntB, cntH] <;> omega) (by have := cnt_le (k := 4) (r := r) n1 (show n ≤ 8 by omega) (show r ≤ 3 by omega); omega) ?_
    refine SCmp.no (neF rfl) ?_
    refine SWrap.i64z ((1 + 1 : Nat) : Int) (by omega) (by omega) ?_
    exact ⟨1 + 1, [0, 1], by decide, by decide, ⟨rfl, by simp, rfl, rfl, rfl, ⟨rfl, rfl, rfl, rfl, rfl, trivial⟩, ⟨rfl, rfl, trivial⟩⟩⟩
  · refine SCmp.yes (rfl) ?_
    refine SIdx.mk 2 _ rfl rfl ?_
    refine SKeys.all rfl <| SGet.none rfl ?_
    refine SZ.mk ((cntH 4 n r : Nat) : Int) (by simp [lst]) ?_
    refine SPos.mk 0 rfl (by decide) ?_
    refine SWrap.i64z ((0 * n : Nat) : Int) (by omega) (by omega) ?_
    refine SPos.mk 1 rfl (by decide) ?_
    refine SWrap.i64z ((0 * n : Nat) : Int) (by omega) (by omega) ?_
    refine SWrap.i64z ((0 : Nat) : Int) (by simp) (by omega) ?_
    refine SWrap.i64z ((0 * n + 0 : Nat) : Int) (by omega) (by omega) ?_
    refine SPos.mk 2 rfl (by decide) ?_
    refine SWrap.i64z ((cntH 4 n r : Nat) : Int) (by simp [cntA, cntB, cntH] <;> omega) (by have := cnt_le (k := 4) (r := r) n1 (show n ≤ 8 by omega) (show r ≤ 3 by omega); omega) ?_
    refine SCmp.no (neF rfl) ?_
    refine SWrap.i64z ((2 + 1 : Nat) : Int) (by omega) (by omega) ?_
    exact ⟨2 + 1, [0, 1], by decide, by decide, ⟨rfl, by simp, rfl, rfl, rfl, ⟨rfl, rfl, rfl, rfl, rfl, trivial⟩, ⟨rfl, rfl, trivial⟩⟩⟩
  · refine SCmp.yes (rfl) ?_
    refine SIdx.mk 3 _ rfl rfl ?_
    refine SKeys.all rfl <| SGet.none rfl ?_
    refine SZ.mk ((cntH 4 n r : Nat) : Int) (by simp [lst]) ?_
    refine SPos.mk 0 rfl (by decide) ?_
    refine SWrap.i64z ((0 * n : Nat) : Int) (by omega) (by omega) ?_
    refine SPos.mk 1 rfl (by decide) ?_
    refine SWrap.i64z ((0 * n : Nat) : Int) (by omega) (by omega) ?_
    refine SWrap.i64z ((0 : Nat) : Int) (by simp) (by omega) ?_
    refine SWrap.i64z ((0 * n + 0 : Nat) : Int) (by omega) (by omega) ?_
    refine SPos.mk 2 rfl (by decide) ?_
    refine SWrap.i64z ((cntH 4 n r : Nat) : Int) (by simp [cntA, cntB, cntH] <;> omega) (by have := cnt_le (k := 4) (r := r) n1 (show n ≤ 8 by omega) (show r ≤ 3 by omega); omega) ?_
    refine SCmp.no (neF rfl) ?_
    refine SWrap.i64z ((3 + 1 : Nat) : Int) (by omega) (by omega) ?_
    exact ⟨3 + 1, [0, 1], by decide, by decide, ⟨rfl, by simp, rfl, rfl, rfl, ⟨rfl, rfl, rfl, rfl, rfl, trivial⟩, ⟨rfl, rfl, trivial⟩⟩⟩
  · refine SCmp.no (rfl) ?_
    refine SLoop.mk Nat (fun i => ([(1, .bptr 0 0), (60, .p (.agg [ratsM (m 0) (lst (cntA 4 n) A), ratsM (m 1) (lst (cntB 4 n) B), ratsM (m 2) (lst (cntH 4 n r) G), ratsM (m 3) (lst (cntH 4 n r) H)])), (61, .p (.int .i64 i))], [.box 26 [.p (.int .i64 ((4 : Nat) : Int)), .p (.int .i64 (n : Int)), .p (.int .i64 (r : Int)), .p (ratsM (m 0) (lst (cntA 4 n) A)), .p (ratsM (m 1) (lst (cntB 4 n) B)), .p (ratsM (m 2) (lst (cntH 4 n r) G)), .p (ratsM (m 3) (lst (cntH 4 n r) H))], .box 93 [.p (ratsM (m 0) (lst (cntA 4 n) A)), .p (ratsM (m 1) (lst (cntB 4 n) B)), .p (ratsM (m 2) (lst (cntH 4 n r) G)), .p (ratsM (m 3) (lst (cntH 4 n r) H))]]))
      (fun i => i ≤ 4) (fun i => 4 - i) 0 [0, 1] (Nat.zero_le _) ⟨rfl, by simp, rfl, rfl, rfl, ⟨rfl, rfl, rfl, trivial⟩, ⟨rfl, rfl, trivial⟩⟩ ?_
    intro i hi
    have hi : i ≤ 4 := hi
    rcases (show i = 0 ∨ i = 1 ∨ i = 2 ∨ i = 3 ∨ i = 4 by omega) with rfl | rfl | rfl | rfl | rfl
    · refine SCmp.yes (rfl) ?_
      refine SIdx.mk 0 _ rfl rfl ?_
      refine SCall.pure (none1_ok (m 0) (lst (cntA 4 n) A) (fun i hi => by rw [lst_length] at hi; rw [lst_getD hi]; exact check1_ok _ ((h.bA i hi).mono (by omega))) (by rw [lst_length]; exact Nat.le_trans (cb 0) (by decide))) ?_
      refine SCond.mk (fun h => by cases h) (fun _ => ?_)
      refine SWrap.i64z ((0 + 1 : Nat) : Int) (by omega) (by omega) ?_
      exact ⟨0 + 1, [0, 1], by decide, by decide, ⟨rfl, by simp, rfl, rfl, rfl, ⟨rfl, rfl, rfl, trivial⟩, ⟨rfl, rfl, trivial⟩⟩⟩
    · refine SCmp.yes (rfl) ?_
      refine SIdx.mk 1 _ rfl rfl ?_
      refine SCall.pure (none1_ok (m 1) (lst (cntB 4 n) B) (fun i hi => by rw [lst_length] at hi; rw [lst_getD hi]; exact check1_ok _ ((h.bB i hi).mono (by omega))) (by rw [lst_length]; exact Nat.le_trans (cb 1) (by decide))) ?_
      refine SCond.mk (fun h => by cases h) (fun _ => ?_)
      refine SWrap.i64z ((1 + 1 : Nat) : Int) (by omega) (by omega) ?_
      exact ⟨1 + 1, [0, 1], by decide, by decide, ⟨rfl, by simp, rfl, rfl, rfl, ⟨rfl, rfl, rfl, trivial⟩, ⟨rfl, rfl, trivial⟩⟩⟩
    · refine SCmp.yes (rfl) ?_
      refine SIdx.mk 2 _ rfl rfl ?_
      refine SCall.pure (none1_ok (m 2) (lst (cntH 4 n r) G) (fun i hi => by rw [lst_length] at hi; rw [lst_getD hi]; exact check1_ok _ ((h.bG i hi).mono (by omega))) (by rw [lst_length]; exact Nat.le_trans (cb 2) (by decide))) ?_
      refine SCond.mk (fun h => by cases h) (fun _ => ?_)
      refine SWrap.i64z ((2 + 1 : Nat) : Int) (by omega) (by omega) ?_
      exact ⟨2 + 1, [0, 1], by decide, by decide, ⟨rfl, by simp, rfl, rfl, rfl, ⟨rfl, rfl, rfl, trivial⟩, ⟨rfl, rfl, trivial⟩⟩⟩
    · refine SCmp.yes (rfl) ?_
      refine SIdx.mk 3 _ rfl rfl ?_
      refine SCall.pure (none1_ok (m 3) (lst (cntH 4 n r) H) (fun i hi => by rw [lst_length] at hi; rw [lst_getD hi]; exact check1_ok _ ((h.bH i hi).mono (by omega))) (by rw [lst_length]; exact Nat.le_trans (cb 3) (by decide))) ?_
      refine SCond.mk (fun h => by cases h) (fun _ => ?_)
      refine SWrap.i64z ((3 + 1 : Nat) : Int) (by omega) (by omega) ?_
      exact ⟨3 + 1, [0, 1], by decide, by decide, ⟨rfl, by simp, rfl, rfl, rfl, ⟨rfl, rfl, rfl, trivial⟩, ⟨rfl, rfl, trivial⟩⟩⟩
    · refine SCmp.no (rfl) ?_
      refine SZ.mk ((cntA 4 n : Nat) : Int) (by simp [lst]) ?_
      refine SLoop.mk Nat (fun i => ([(1, .bptr 0 0), (68, .p (ratsM (m 0) (lst (cntA 4 n) A))), (69, .p (.int .i64 ((cntA 4 n : Nat) : Int))), (70, .p (.int .i64 i))], [.box 26 [.p (.int .i64 ((4 : Nat) : Int)), .p (.int .i64 (n : Int)), .p (.int .i64 (r : Int)), .p (ratsM (m 0) (lst (cntA 4 n) A)), .p (ratsM (m 1) (lst (cntB 4 n) B)), .p (ratsM (m 2) (lst (cntH 4 n r) G)), .p (ratsM (m 3) (lst (cntH 4 n r) H))], .box 93 [.p (ratsM (m 0) (lst (cntA 4 n) A)), .p (ratsM (m 1) (lst (cntB 4 n) B)), .p (ratsM (m 2) (lst (cntH 4 n r) G)), .p (ratsM (m 3) (lst (cntH 4 n r) H))]]))
        (fun i => i ≤ cntA 4 n) (fun i => cntA 4 n - i) 0 [0, 1] (Nat.zero_le _) ⟨rfl, by simp, rfl, rfl, rfl, ⟨rfl, rfl, rfl, rfl, trivial⟩, ⟨rfl, rfl, trivial⟩⟩ ?_
      intro i hi
      have hi : i ≤ cntA 4 n := hi
      have cA := cb 0
      by_cases hia : i < cntA 4 n
      · refine SCmp.yes (decide_eq_true (by omega)) ?_
        refine SIdx.rf i rfl hia ?_
        have hz := (h.bA i hia).mono (show b ≤ c by omega)
        have hc2 := none2_ok (m 1) true (A i) (lst (cntB 4 n) B) (fun j hj => by
          rw [lst_length] at hj; rw [lst_getD hj]
          have := check2_ok true (A i) (B j) hz (h.bB j hj) (by omega)
          rw [decide_eq_false (h.ne i j hia hj)] at this
          exact this) (by rw [lst_length]; exact Nat.le_trans (cb 1) (by decide))
        refine SCall.pure (pvs := [ratsM (m 1) (lst (cntB 4 n) B), .fn 68 [.pel true (ratP (A i))]]) hc2 ?_
        refine SCond.mk (fun h => by cases h) (fun _ => ?_)
        refine SWrap.i64z ((i + 1 : Nat) : Int) (by omega) (by omega) ?_
        exact ⟨i + 1, [0, 1], hia, by show cntA 4 n - (i + 1) < cntA 4 n - i; omega, ⟨rfl, by simp, rfl, rfl, rfl, ⟨rfl, rfl, rfl, rfl, trivial⟩, ⟨rfl, rfl, trivial⟩⟩⟩
      · refine SCmp.no (decide_eq_false (by omega)) ?_
        exact SRet.pure (.p _ (.int _ _))
theorem gcheck5_ok (m : Nat → Bool) (n r : Nat) (A B G H : Nat → Rat) {b c : Nat} (h : Wf ⟨5, n, r, A, B, G, H⟩ b c) : CallP Try.prog 45 [genP m ⟨5, n, r, A, B, G, H⟩] (.p (.int .i64 0)) [] := by
  have n6 : n ≤ 6 := h.n6
  have n1 : 1 ≤ n := h.n1
  have r2 : r ≤ 2 := h.r2
  have hnr : n * r ≤ 12 := Nat.mul_le_mul n6 r2
  have hc4 := h.c4
  have hbc := h.bc
  have cc := cnt_le (k := 5) (r := r) n1 (show n ≤ 8 by omega) (show r ≤ 3 by omega)
  have cb : ∀ i : Nat, (if i = 0 then cntA 5 n else if i = 1 then cntB 5 n else cntH 5 n r) ≤ 24 := fun i => by split <;> (try split) <;> omega
  show CallP Try.prog 45 [.agg [.int .i64 ((5 : Nat) : Int), .int .i64 (n : Int), .int .i64 (r : Int), ratsM (m 0) (lst (cntA 5 n) A), ratsM (m 1) (lst (cntB 5 n) B), ratsM (m 2) (lst (cntH 5 n r) G), ratsM (m 3) (lst (cntH 5 n r) H)]] (.p (.int .i64 0)) []
  refine callG_of_vc (wr := wr0) Γok mixed Try.func45 (by kernel_rfl) rfl (by kernel_rfl) (le_of_ble rfl) (by simp) ?_
  refine SCmp.no (decide_eq_false (by omega)) ?_
  refine SCmp.no (decide_eq_false (by omega)) ?_
  refine SCall.pure (sized_ok m ⟨5, n, r, A, B, G, H⟩ h) ?_
  refine SCmp.no (rfl) ?_
  refine SCall.lent [genP m ⟨5, n, r, A, B, G, H⟩] _ rfl (genrows_ok m ⟨5, n, r, A, B, G, H⟩) ?_
  refine SCall.pure (counts_ok) ?_
  refine SLoop.mk Nat (fun i => ([(1, .bptr 0 0), (3, .bptr 1 0), (4, .p (.mp false cntM)), (28, .p (.agg [ratsM (m 0) (lst (cntA 5 n) A), ratsM (m 1) (lst (cntB 5 n) B), ratsM (m 2) (lst (cntH 5 n r) G), ratsM (m 3) (lst (cntH 5 n r) H)])), (29, .p (.int .i64 i))], [.box 26 [.p (.int .i64 ((5 : Nat) : Int)), .p (.int .i64 (n : Int)), .p (.int .i64 (r : Int)), .p (ratsM (m 0) (lst (cntA 5 n) A)), .p (ratsM (m 1) (lst (cntB 5 n) B)), .p (ratsM (m 2) (lst (cntH 5 n r) G)), .p (ratsM (m 3) (lst (cntH 5 n r) H))], .box 93 [.p (ratsM (m 0) (lst (cntA 5 n) A)), .p (ratsM (m 1) (lst (cntB 5 n) B)), .p (ratsM (m 2) (lst (cntH 5 n r) G)), .p (ratsM (m 3) (lst (cntH 5 n r) H))]]))
    (fun i => i ≤ 4) (fun i => 4 - i) 0 [0, 1] (Nat.zero_le _) ⟨rfl, by simp, rfl, rfl, rfl, ⟨rfl, rfl, rfl, rfl, rfl, trivial⟩, ⟨rfl, rfl, trivial⟩⟩ ?_
  intro i hi
  have hi : i ≤ 4 := hi
  rcases (show i = 0 ∨ i = 1 ∨ i = 2 ∨ i = 3 ∨ i = 4 by omega) with rfl | rfl | rfl | rfl | rfl
  · refine SCmp.yes (rfl) ?_
    refine SIdx.mk 0 _ rfl rfl ?_
    refine SKeys.all rfl <| SGet.at 4 _ rfl rfl rfl ?_
    refine SZ.mk ((cntA 5 n : Nat) : Int) (by simp [lst]) ?_
    refine SPos.mk 0 rfl (by decide) ?_
    refine SWrap.i64z ((1 * n : Nat) : Int) (by omega) (by omega) ?_
    refine SPos.mk 1 rfl (by decide) ?_
    refine SWrap.i64z ((0 * n : Nat) : Int) (by omega) (by omega) ?_
    refine SWrap.i64z ((0 : Nat) : Int) (by simp) (by omega) ?_
    refine SWrap.i64z ((1 * n + 0 : Nat) : Int) (by omega) (by omega) ?_
    refine SPos.mk 2 rfl (by decide) ?_
    refine SWrap.i64z ((cntA 5 n : Nat) : Int) (by simp [cntA, cntB, cntH] <;> omega) (by have := cnt_le (k := 5) (r := r) n1 (show n ≤ 8 by omega) (show r ≤ 3 by omega); omega) ?_
    refine SCmp.no (neF rfl) ?_
    refine SWrap.i64z ((0 + 1 : Nat) : Int) (by omega) (by omega) ?_
    exact ⟨0 + 1, [0, 1], by decide, by decide, ⟨rfl, by simp, rfl, rfl, rfl, ⟨rfl, rfl, rfl, rfl, rfl, trivial⟩, ⟨rfl, rfl, trivial⟩⟩⟩
  · refine SCmp.yes (rfl) ?_
    refine SIdx.mk 1 _ rfl rfl ?_
    refine SKeys.all rfl <| SGet.at 5 _ rfl rfl rfl ?_
    refine SZ.mk ((cntB 5 n : Nat) : Int) (by simp [lst]) ?_
    refine SPos.mk 0 rfl (by decide) ?_
    refine SWrap.i64z ((1 * n : Nat) : Int) (by omega) (by omega) ?_
    refine SPos.mk 1 rfl (by decide) ?_
    refine SWrap.i64z ((0 * n : Nat) : Int) (by omega) (by omega) ?_
    refine SWrap.i64z ((0 : Nat) : Int) (by simp) (by omega) ?_
    refine SWrap.i64z ((1 * n + 0 : Nat) : Int) (by omega) (by omega) ?_
    refine SPos.mk 2 rfl (by decide) ?_
    refine SWrap.i64z ((cntB 5 n : Nat) : Int) (by simp [cntA, cntB, cntH] <;> omega) (by have := cnt_le (k := 5) (r := r) n1 (show n ≤ 8 by omega) (show r ≤ 3 by omega); omega) ?_
    refine SCmp.no (neF rfl) ?_
    refine SWrap.i64z ((1 + 1 : Nat) : Int) (by omega) (by omega) ?_
    exact ⟨1 + 1, [0, 1], by decide, by decide, ⟨rfl, by simp, rfl, rfl, rfl, ⟨rfl, rfl, rfl, rfl, rfl, trivial⟩, ⟨rfl, rfl, trivial⟩⟩⟩
  · refine SCmp.yes (rfl) ?_
    refine SIdx.mk 2 _ rfl rfl ?_
    refine SKeys.all rfl <| SGet.none rfl ?_
    refine SZ.mk ((cntH 5 n r : Nat) : Int) (by simp [lst]) ?_
    refine SPos.mk 0 rfl (by decide) ?_
    refine SWrap.i64z ((0 * n : Nat) : Int) (by omega) (by omega) ?_
    refine SPos.mk 1 rfl (by decide) ?_
    refine SWrap.i64z ((0 * n : Nat) : Int) (by omega) (by omega) ?_
    refine SWrap.i64z ((0 : Nat) : Int) (by simp) (by omega) ?_
    refine SWrap.i64z ((0 * n + 0 : Nat) : Int) (by omega) (by omega) ?_
    refine SPos.mk 2 rfl (by decide) ?_
    refine SWrap.i64z ((cntH 5 n r : Nat) : Int) (by simp [cntA, cntB, cntH] <;> omega) (by have := cnt_le (k := 5) (r := r) n1 (show n ≤ 8 by omega) (show r ≤ 3 by omega); omega) ?_
    refine SCmp.no (neF rfl) ?_
    refine SWrap.i64z ((2 + 1 : Nat) : Int) (by omega) (by omega) ?_
    exact ⟨2 + 1, [0, 1], by decide, by decide, ⟨rfl, by simp, rfl, rfl, rfl, ⟨rfl, rfl, rfl, rfl, rfl, trivial⟩, ⟨rfl, rfl, trivial⟩⟩⟩
  · refine SCmp.yes (rfl) ?_
    refine SIdx.mk 3 _ rfl rfl ?_
    refine SKeys.all rfl <| SGet.none rfl ?_
    refine SZ.mk ((cntH 5 n r : Nat) : Int) (by simp [lst]) ?_
    refine SPos.mk 0 rfl (by decide) ?_
    refine SWrap.i64z ((0 * n : Nat) : Int) (by omega) (by omega) ?_
    refine SPos.mk 1 rfl (by decide) ?_
    refine SWrap.i64z ((0 * n : Nat) : Int) (by omega) (by omega) ?_
    refine SWrap.i64z ((0 : Nat) : Int) (by simp) (by omega) ?_
    refine SWrap.i64z ((0 * n + 0 : Nat) : Int) (by omega) (by omega) ?_
    refine SPos.mk 2 rfl (by decide) ?_
    refine SWrap.i64z ((cntH 5 n r : Nat) : Int) (by simp [cntA, cntB, cntH] <;> omega) (by have := cnt_le (k := 5) (r := r) n1 (show n ≤ 8 by omega) (show r ≤ 3 by omega); omega) ?_
    refine SCmp.no (neF rfl) ?_
    refine SWrap.i64z ((3 + 1 : Nat) : Int) (by omega) (by omega) ?_
    exact ⟨3 + 1, [0, 1], by decide, by decide, ⟨rfl, by simp, rfl, rfl, rfl, ⟨rfl, rfl, rfl, rfl, rfl, trivial⟩, ⟨rfl, rfl, trivial⟩⟩⟩
  · refine SCmp.no (rfl) ?_
    refine SLoop.mk Nat (fun i => ([(1, .bptr 0 0), (60, .p (.agg [ratsM (m 0) (lst (cntA 5 n) A), ratsM (m 1) (lst (cntB 5 n) B), ratsM (m 2) (lst (cntH 5 n r) G), ratsM (m 3) (lst (cntH 5 n r) H)])), (61, .p (.int .i64 i))], [.box 26 [.p (.int .i64 ((5 : Nat) : Int)), .p (.int .i64 (n : Int)), .p (.int .i64 (r : Int)), .p (ratsM (m 0) (lst (cntA 5 n) A)), .p (ratsM (m 1) (lst (cntB 5 n) B)), .p (ratsM (m 2) (lst (cntH 5 n r) G)), .p (ratsM (m 3) (lst (cntH 5 n r) H))], .box 93 [.p (ratsM (m 0) (lst (cntA 5 n) A)), .p (ratsM (m 1) (lst (cntB 5 n) B)), .p (ratsM (m 2) (lst (cntH 5 n r) G)), .p (ratsM (m 3) (lst (cntH 5 n r) H))]]))
      (fun i => i ≤ 4) (fun i => 4 - i) 0 [0, 1] (Nat.zero_le _) ⟨rfl, by simp, rfl, rfl, rfl, ⟨rfl, rfl, rfl, trivial⟩, ⟨rfl, rfl, trivial⟩⟩ ?_
    intro i hi
    have hi : i ≤ 4 := hi
    rcases (show i = 0 ∨ i = 1 ∨ i = 2 ∨ i = 3 ∨ i = 4 by omega) with rfl | rfl | rfl | rfl | rfl
    · refine SCmp.yes (rfl) ?_
      refine SIdx.mk 0 _ rfl rfl ?_
      refine SCall.pure (none1_ok (m 0) (lst (cntA 5 n) A) (fun i hi => by rw [lst_length] at hi; rw [lst_getD hi]; exact check1_ok _ ((h.bA i hi).mono (by omega))) (by rw [lst_length]; exact Nat.le_trans (cb 0) (by decide))) ?_
      refine SCond.mk (fun h => by cases h) (fun _ => ?_)
      refine SWrap.i64z ((0 + 1 : Nat) : Int) (by omega) (by omega) ?_
      exact ⟨0 + 1, [0, 1], by decide, by decide, ⟨rfl, by simp, rfl, rfl, rfl, ⟨rfl, rfl, rfl, trivial⟩, ⟨rfl, rfl, trivial⟩⟩⟩
    · refine SCmp.yes (rfl) ?_
      refine SIdx.mk 1 _ rfl rfl ?_
      refine SCall.pure (none1_ok (m 1) (lst (cntB 5 n) B) (fun i hi => by rw [lst_length] at hi; rw [lst_getD hi]; exact check1_ok _ ((h.bB i hi).mono (by omega))) (by rw [lst_length]; exact Nat.le_trans (cb 1) (by decide))) ?_
      refine SCond.mk (fun h => by cases h) (fun _ => ?_)
      refine SWrap.i64z ((1 + 1 : Nat) : Int) (by omega) (by omega) ?_
      exact ⟨1 + 1, [0, 1], by decide, by decide, ⟨rfl, by simp, rfl, rfl, rfl, ⟨rfl, rfl, rfl, trivial⟩, ⟨rfl, rfl, trivial⟩⟩⟩
    · refine SCmp.yes (rfl) ?_
      refine SIdx.mk 2 _ rfl rfl ?_
      refine SCall.pure (none1_ok (m 2) (lst (cntH 5 n r) G) (fun i hi => by rw [lst_length] at hi; rw [lst_getD hi]; exact check1_ok _ ((h.bG i hi).mono (by omega))) (by rw [lst_length]; exact Nat.le_trans (cb 2) (by decide))) ?_
      refine SCond.mk (fun h => by cases h) (fun _ => ?_)
      refine SWrap.i64z ((2 + 1 : Nat) : Int) (by omega) (by omega) ?_
      exact ⟨2 + 1, [0, 1], by decide, by decide, ⟨rfl, by simp, rfl, rfl, rfl, ⟨rfl, rfl, rfl, trivial⟩, ⟨rfl, rfl, trivial⟩⟩⟩
    · refine SCmp.yes (rfl) ?_
      refine SIdx.mk 3 _ rfl rfl ?_
      refine SCall.pure (none1_ok (m 3) (lst (cntH 5 n r) H) (fun i hi => by rw [lst_length] at hi; rw [lst_getD hi]; exact check1_ok _ ((h.bH i hi).mono (by omega))) (by rw [lst_length]; exact Nat.le_trans (cb 3) (by decide))) ?_
      refine SCond.mk (fun h => by cases h) (fun _ => ?_)
      refine SWrap.i64z ((3 + 1 : Nat) : Int) (by omega) (by omega) ?_
      exact ⟨3 + 1, [0, 1], by decide, by decide, ⟨rfl, by simp, rfl, rfl, rfl, ⟨rfl, rfl, rfl, trivial⟩, ⟨rfl, rfl, trivial⟩⟩⟩
    · refine SCmp.no (rfl) ?_
      refine SZ.mk ((cntA 5 n : Nat) : Int) (by simp [lst]) ?_
      refine SLoop.mk Nat (fun i => ([(1, .bptr 0 0), (68, .p (ratsM (m 0) (lst (cntA 5 n) A))), (69, .p (.int .i64 ((cntA 5 n : Nat) : Int))), (70, .p (.int .i64 i))], [.box 26 [.p (.int .i64 ((5 : Nat) : Int)), .p (.int .i64 (n : Int)), .p (.int .i64 (r : Int)), .p (ratsM (m 0) (lst (cntA 5 n) A)), .p (ratsM (m 1) (lst (cntB 5 n) B)), .p (ratsM (m 2) (lst (cntH 5 n r) G)), .p (ratsM (m 3) (lst (cntH 5 n r) H))], .box 93 [.p (ratsM (m 0) (lst (cntA 5 n) A)), .p (ratsM (m 1) (lst (cntB 5 n) B)), .p (ratsM (m 2) (lst (cntH 5 n r) G)), .p (ratsM (m 3) (lst (cntH 5 n r) H))]]))
        (fun i => i ≤ cntA 5 n) (fun i => cntA 5 n - i) 0 [0, 1] (Nat.zero_le _) ⟨rfl, by simp, rfl, rfl, rfl, ⟨rfl, rfl, rfl, rfl, trivial⟩, ⟨rfl, rfl, trivial⟩⟩ ?_
      intro i hi
      have hi : i ≤ cntA 5 n := hi
      have cA := cb 0
      by_cases hia : i < cntA 5 n
      · refine SCmp.yes (decide_eq_true (by omega)) ?_
        refine SIdx.rf i rfl hia ?_
        have hz := (h.bA i hia).mono (show b ≤ c by omega)
        have hc2 := none2_ok (m 1) true (A i) (lst (cntB 5 n) B) (fun j hj => by
          rw [lst_length] at hj; rw [lst_getD hj]
          have := check2_ok true (A i) (B j) hz (h.bB j hj) (by omega)
          rw [decide_eq_false (h.ne i j hia hj)] at this
          exact this) (by rw [lst_length]; exact Nat.le_trans (cb 1) (by decide))
        refine SCall.pure (pvs := [ratsM (m 1) (lst (cntB 5 n) B), .fn 68 [.pel true (ratP (A i))]]) hc2 ?_
        refine SCond.mk (fun h => by cases h) (fun _ => ?_)
        refine SWrap.i64z ((i + 1 : Nat) : Int) (by omega) (by omega) ?_
        exact ⟨i + 1, [0, 1], hia, by show cntA 5 n - (i + 1) < cntA 5 n - i; omega, ⟨rfl, by simp, rfl, rfl, rfl, ⟨rfl, rfl, rfl, rfl, trivial⟩, ⟨rfl, rfl, trivial⟩⟩⟩
      · refine SCmp.no (decide_eq_false (by omega)) ?_
        exact SRet.pure (.p _ (.int _ _))
theorem gcheck6_ok (m : Nat → Bool) (n r : Nat) (A B G H : Nat → Rat) {b c : Nat} (h : Wf ⟨6, n, r, A, B, G, H⟩ b c) : CallP Try.prog 45 [genP m ⟨6, n, r, A, B, G, H⟩] (.p (.int .i64 0)) [] := by
  have n6 : n ≤ 6 := h.n6
  have n1 : 1 ≤ n := h.n1
  have r2 : r ≤ 2 := h.r2
  have hnr : n * r ≤ 12 := Nat.mul_le_mul n6 r2
  have hc4 := h.c4
  have hbc := h.bc
  have cc := cnt_le (k := 6) (r := r) n1 (show n ≤ 8 by omega) (show r ≤ 3 by omega)
  have cb : ∀ i : Nat, (if i = 0 then cntA 6 n else if i = 1 then cntB 6 n else cntH 6 n r) ≤ 24 := fun i => by split <;> (try split) <;> omega
  show CallP Try.prog 45 [.agg [.int .i64 ((6 : Nat) : Int), .int .i64 (n : Int), .int .i64 (r : Int), ratsM (m 0) (lst (cntA 6 n) A), ratsM (m 1) (lst (cntB 6 n) B), ratsM (m 2) (lst (cntH 6 n r) G), ratsM (m 3) (lst (cntH 6 n r) H)]] (.p (.int .i64 0)) []
  refine callG_of_vc (wr := wr0) Γok mixed Try.func45 (by kernel_rfl) rfl (by kernel_rfl) (le_of_ble rfl) (by simp) ?_
  refine SCmp.no (decide_eq_false (by omega)) ?_
  refine SCmp.no (decide_eq_false (by omega)) ?_
  refine SCall.pure (sized_ok m ⟨6, n, r, A, B, G, H⟩ h) ?_
  refine SCmp.no (rfl) ?_
  refine SCall.lent [genP m ⟨6, n, r, A, B, G, H⟩] _ rfl (genrows_ok m ⟨6, n, r, A, B, G, H⟩) ?_
  refine SCall.pure (counts_ok) ?_
  refine SLoop.mk Nat (fun i => ([(1, .bptr 0 0), (3, .bptr 1 0), (4, .p (.mp false cntM)), (28, .p (.agg [ratsM (m 0) (lst (cntA 6 n) A), ratsM (m 1) (lst (cntB 6 n) B), ratsM (m 2) (lst (cntH 6 n r) G), ratsM (m 3) (lst (cntH 6 n r) H)])), (29, .p (.int .i64 i))], [.box 26 [.p (.int .i64 ((6 : Nat) : Int)), .p (.int .i64 (n : Int)), .p (.int .i64 (r : Int)), .p (ratsM (m 0) (lst (cntA 6 n) A)), .p (ratsM (m 1) (lst (cntB 6 n) B)), .p (ratsM (m 2) (lst (cntH 6 n r) G)), .p (ratsM (m 3) (lst (cntH 6 n r) H))], .box 93 [.p (ratsM (m 0) (lst (cntA 6 n) A)), .p (ratsM (m 1) (lst (cntB 6 n) B)), .p (ratsM (m 2) (lst (cntH 6 n r) G)), .p (ratsM (m 3) (lst (cntH 6 n r) H))]]))
    (fun i => i ≤ 4) (fun i => 4 - i) 0 [0, 1] (Nat.zero_le _) ⟨rfl, by simp, rfl, rfl, rfl, ⟨rfl, rfl, rfl, rfl, rfl, trivial⟩, ⟨rfl, rfl, trivial⟩⟩ ?_
  intro i hi
  have hi : i ≤ 4 := hi
  rcases (show i = 0 ∨ i = 1 ∨ i = 2 ∨ i = 3 ∨ i = 4 by omega) with rfl | rfl | rfl | rfl | rfl
  · refine SCmp.yes (rfl) ?_
    refine SIdx.mk 0 _ rfl rfl ?_
    refine SKeys.all rfl <| SGet.none rfl ?_
    refine SZ.mk ((cntA 6 n : Nat) : Int) (by simp [lst]) ?_
    refine SPos.mk 0 rfl (by decide) ?_
    refine SWrap.i64z ((0 * n : Nat) : Int) (by omega) (by omega) ?_
    refine SPos.mk 1 rfl (by decide) ?_
    refine SWrap.i64z ((0 * n : Nat) : Int) (by omega) (by omega) ?_
    refine SWrap.i64z ((0 : Nat) : Int) (by simp) (by omega) ?_
    refine SWrap.i64z ((0 * n + 0 : Nat) : Int) (by omega) (by omega) ?_
    refine SPos.mk 2 rfl (by decide) ?_
    refine SWrap.i64z ((cntA 6 n : Nat) : Int) (by simp [cntA, cntB, cntH] <;> omega) (by have := cnt_le (k := 6) (r := r) n1 (show n ≤ 8 by omega) (show r ≤ 3 by omega); omega) ?_
    refine SCmp.no (neF rfl) ?_
    refine SWrap.i64z ((0 + 1 : Nat) : Int) (by omega) (by omega) ?_
    exact ⟨0 + 1, [0, 1], by decide, by decide, ⟨rfl, by simp, rfl, rfl, rfl, ⟨rfl, rfl, rfl, rfl, rfl, trivial⟩, ⟨rfl, rfl, trivial⟩⟩⟩
  · refine SCmp.yes (rfl) ?_
    refine SIdx.mk 1 _ rfl rfl ?_
    refine SKeys.all rfl <| SGet.none rfl ?_
    refine SZ.mk ((cntB 6 n : Nat) : Int) (by simp [lst]) ?_
    refine SPos.mk 0 rfl (by decide) ?_
    refine SWrap.i64z ((0 * n : Nat) : Int) (by omega) (by omega) ?_
    refine SPos.mk 1 rfl (by decide) ?_
    refine SWrap.i64z ((0 * n : Nat) : Int) (by omega) (by omega) ?_
    refine SWrap.i64z ((0 : Nat) : Int) (by simp) (by omega) ?_
    refine SWrap.i64z ((0 * n + 0 : Nat) : Int) (by omega) (by omega) ?_
    refine SPos.mk 2 rfl (by decide) ?_
    refine SWrap.i64z ((cntB 6 n : Nat) : Int) (by simp [cntA, cntB, cntH] <;> omega) (by have := cnt_le (k := 6) (r := r) n1 (show n ≤ 8 by omega) (show r ≤ 3 by omega); omega) ?_
    refine SCmp.no (neF rfl) ?_
    refine SWrap.i64z ((1 + 1 : Nat) : Int) (by omega) (by omega) ?_
    exact ⟨1 + 1, [0, 1], by decide, by decide, ⟨rfl, by simp, rfl, rfl, rfl, ⟨rfl, rfl, rfl, rfl, rfl, trivial⟩, ⟨rfl, rfl, trivial⟩⟩⟩
  · refine SCmp.yes (rfl) ?_
    refine SIdx.mk 2 _ rfl rfl ?_
    refine SKeys.all rfl <| SGet.at 6 _ rfl rfl rfl ?_
    refine SZ.mk ((cntH 6 n r : Nat) : Int) (by simp [lst]) ?_
    refine SPos.mk 0 rfl (by decide) ?_
    refine SWrap.i64z ((0 * n : Nat) : Int) (by omega) (by omega) ?_
    refine SPos.mk 1 rfl (by decide) ?_
    refine SWrap.i64z ((1 * n : Nat) : Int) (by omega) (by omega) ?_
    refine SWrap.i64z ((n * r : Nat) : Int) (by rw [Int.natCast_mul]; simp) (by omega) ?_
    refine SWrap.i64z ((0 * n + n * r : Nat) : Int) (by omega) (by omega) ?_
    refine SPos.mk 2 rfl (by decide) ?_
    refine SWrap.i64z ((cntH 6 n r : Nat) : Int) (by simp [cntA, cntB, cntH] <;> omega) (by have := cnt_le (k := 6) (r := r) n1 (show n ≤ 8 by omega) (show r ≤ 3 by omega); omega) ?_
    refine SCmp.no (neF rfl) ?_
    refine SWrap.i64z ((2 + 1 : Nat) : Int) (by omega) (by omega) ?_
    exact ⟨2 + 1, [0, 1], by decide, by decide, ⟨rfl, by simp, rfl, rfl, rfl, ⟨rfl, rfl, rfl, rfl, rfl, trivial⟩, ⟨rfl, rfl, trivial⟩⟩⟩
  · refine SCmp.yes (rfl) ?_
    refine SIdx.mk 3 _ rfl rfl ?_
    refine SKeys.all rfl <| SGet.at 7 _ rfl rfl rfl ?_
    refine SZ.mk ((cntH 6 n r : Nat) : Int) (by simp [lst]) ?_
    refine SPos.mk 0 rfl (by decide) ?_
    refine SWrap.i64z ((0 * n : Nat) : Int) (by omega) (by omega) ?_
    refine SPos.mk 1 rfl (by decide) ?_
    refine SWrap.i64z ((1 * n : Nat) : Int) (by omega) (by omega) ?_
    refine SWrap.i64z ((n * r : Nat) : Int) (by rw [Int.natCast_mul]; simp) (by omega) ?_
    refine SWrap.i64z ((0 * n + n * r : Nat) : Int) (by omega) (by omega) ?_
    refine SPos.mk 2 rfl (by decide) ?_
    refine SWrap.i64z ((cntH 6 n r : Nat) : Int) (by simp [cntA, cntB, cntH] <;> omega) (by have := cnt_le (k := 6) (r := r) n1 (show n ≤ 8 by omega) (show r ≤ 3 by omega); omega) ?_
    refine SCmp.no (neF rfl) ?_
    refine SWrap.i64z ((3 + 1 : Nat) : Int) (by omega) (by omega) ?_
    exact ⟨3 + 1, [0, 1], by decide, by decide, ⟨rfl, by simp, rfl, rfl, rfl, ⟨rfl, rfl, rfl, rfl, rfl, trivial⟩, ⟨rfl, rfl, trivial⟩⟩⟩
  · refine SCmp.no (rfl) ?_
    refine SLoop.mk Nat (fun i => ([(1, .bptr 0 0), (60, .p (.agg [ratsM (m 0) (lst (cntA 6 n) A), ratsM (m 1) (lst (cntB 6 n) B), ratsM (m 2) (lst (cntH 6 n r) G), ratsM (m 3) (lst (cntH 6 n r) H)])), (61, .p (.int .i64 i))], [.box 26 [.p (.int .i64 ((6 : Nat) : Int)), .p (.int .i64 (n : Int)), .p (.int .i64 (r : Int)), .p (ratsM (m 0) (lst (cntA 6 n) A)), .p (ratsM (m 1) (lst (cntB 6 n) B)), .p (ratsM (m 2) (lst (cntH 6 n r) G)), .p (ratsM (m 3) (lst (cntH 6 n r) H))], .box 93 [.p (ratsM (m 0) (lst (cntA 6 n) A)), .p (ratsM (m 1) (lst (cntB 6 n) B)), .p (ratsM (m 2) (lst (cntH 6 n r) G)), .p (ratsM (m 3) (lst (cntH 6 n r) H))]]))
      (fun i => i ≤ 4) (fun i => 4 - i) 0 [0, 1] (Nat.zero_le _) ⟨rfl, by simp, rfl, rfl, rfl, ⟨rfl, rfl, rfl, trivial⟩, ⟨rfl, rfl, trivial⟩⟩ ?_
    intro i hi
    have hi : i ≤ 4 := hi
    rcases (show i = 0 ∨ i = 1 ∨ i = 2 ∨ i = 3 ∨ i = 4 by omega) with rfl | rfl | rfl | rfl | rfl
    · refine SCmp.yes (rfl) ?_
      refine SIdx.mk 0 _ rfl rfl ?_
      refine SCall.pure (none1_ok (m 0) (lst (cntA 6 n) A) (fun i hi => by rw [lst_length] at hi; rw [lst_getD hi]; exact check1_ok _ ((h.bA i hi).mono (by omega))) (by rw [lst_length]; exact Nat.le_trans (cb 0) (by decide))) ?_
      refine SCond.mk (fun h => by cases h) (fun _ => ?_)
      refine SWrap.i64z ((0 + 1 : Nat) : Int) (by omega) (by omega) ?_
      exact ⟨0 + 1, [0, 1], by decide, by decide, ⟨rfl, by simp, rfl, rfl, rfl, ⟨rfl, rfl, rfl, trivial⟩, ⟨rfl, rfl, trivial⟩⟩⟩
    · refine SCmp.yes (rfl) ?_
      refine SIdx.mk 1 _ rfl rfl ?_
      refine SCall.pure (none1_ok (m 1) (lst (cntB 6 n) B) (fun i hi => by rw [lst_length] at hi; rw [lst_getD hi]; exact check1_ok _ ((h.bB i hi).mono (by omega))) (by rw [lst_length]; exact Nat.le_trans (cb 1) (by decide))) ?_
      refine SCond.mk (fun h => by cases h) (fun _ => ?_)
      refine SWrap.i64z ((1 + 1 : Nat) : Int) (by omega) (by omega) ?_
      exact ⟨1 + 1, [0, 1], by decide, by decide, ⟨rfl, by simp, rfl, rfl, rfl, ⟨rfl, rfl, rfl, trivial⟩, ⟨rfl, rfl, trivial⟩⟩⟩
    · refine SCmp.yes (rfl) ?_
      refine SIdx.mk 2 _ rfl rfl ?_
      refine SCall.pure (none1_ok (m 2) (lst (cntH 6 n r) G) (fun i hi => by rw [lst_length] at hi; rw [lst_getD hi]; exact check1_ok _ ((h.bG i hi).mono (by omega))) (by rw [lst_length]; exact Nat.le_trans (cb 2) (by decide))) ?_
      refine SCond.mk (fun h => by cases h) (fun _ => ?_)
      refine SWrap.i64z ((2 + 1 : Nat) : Int) (by omega) (by omega) ?_
      exact ⟨2 + 1, [0, 1], by decide, by decide, ⟨rfl, by simp, rfl, rfl, rfl, ⟨rfl, rfl, rfl, trivial⟩, ⟨rfl, rfl, trivial⟩⟩⟩
    · refine SCmp.yes (rfl) ?_
      refine SIdx.mk 3 _ rfl rfl ?_
      refine SCall.pure (none1_ok (m 3) (lst (cntH 6 n r) H) (fun i hi => by rw [lst_length] at hi; rw [lst_getD hi]; exact check1_ok _ ((h.bH i hi).mono (by omega))) (by rw [lst_length]; exact Nat.le_trans (cb 3) (by decide))) ?_
      refine SCond.mk (fun h => by cases h) (fun _ => ?_)
      refine SWrap.i64z ((3 + 1 : Nat) : Int) (by omega) (by omega) ?_
      exact ⟨3 + 1, [0, 1], by decide, by decide, ⟨rfl, by simp, rfl, rfl, rfl, ⟨rfl, rfl, rfl, trivial⟩, ⟨rfl, rfl, trivial⟩⟩⟩
    · refine SCmp.no (rfl) ?_
      refine SZ.mk ((cntA 6 n : Nat) : Int) (by simp [lst]) ?_
      refine SLoop.mk Nat (fun i => ([(1, .bptr 0 0), (68, .p (ratsM (m 0) (lst (cntA 6 n) A))), (69, .p (.int .i64 ((cntA 6 n : Nat) : Int))), (70, .p (.int .i64 i))], [.box 26 [.p (.int .i64 ((6 : Nat) : Int)), .p (.int .i64 (n : Int)), .p (.int .i64 (r : Int)), .p (ratsM (m 0) (lst (cntA 6 n) A)), .p (ratsM (m 1) (lst (cntB 6 n) B)), .p (ratsM (m 2) (lst (cntH 6 n r) G)), .p (ratsM (m 3) (lst (cntH 6 n r) H))], .box 93 [.p (ratsM (m 0) (lst (cntA 6 n) A)), .p (ratsM (m 1) (lst (cntB 6 n) B)), .p (ratsM (m 2) (lst (cntH 6 n r) G)), .p (ratsM (m 3) (lst (cntH 6 n r) H))]]))
        (fun i => i ≤ cntA 6 n) (fun i => cntA 6 n - i) 0 [0, 1] (Nat.zero_le _) ⟨rfl, by simp, rfl, rfl, rfl, ⟨rfl, rfl, rfl, rfl, trivial⟩, ⟨rfl, rfl, trivial⟩⟩ ?_
      intro i hi
      have hi : i ≤ cntA 6 n := hi
      have cA := cb 0
      by_cases hia : i < cntA 6 n
      · refine SCmp.yes (decide_eq_true (by omega)) ?_
        refine SIdx.rf i rfl hia ?_
        have hz := (h.bA i hia).mono (show b ≤ c by omega)
        have hc2 := none2_ok (m 1) true (A i) (lst (cntB 6 n) B) (fun j hj => by
          rw [lst_length] at hj; rw [lst_getD hj]
          have := check2_ok true (A i) (B j) hz (h.bB j hj) (by omega)
          rw [decide_eq_false (h.ne i j hia hj)] at this
          exact this) (by rw [lst_length]; exact Nat.le_trans (cb 1) (by decide))
        refine SCall.pure (pvs := [ratsM (m 1) (lst (cntB 6 n) B), .fn 68 [.pel true (ratP (A i))]]) hc2 ?_
        refine SCond.mk (fun h => by cases h) (fun _ => ?_)
        refine SWrap.i64z ((i + 1 : Nat) : Int) (by omega) (by omega) ?_
        exact ⟨i + 1, [0, 1], hia, by show cntA 6 n - (i + 1) < cntA 6 n - i; omega, ⟨rfl, by simp, rfl, rfl, rfl, ⟨rfl, rfl, rfl, rfl, trivial⟩, ⟨rfl, rfl, trivial⟩⟩⟩
      · refine SCmp.no (decide_eq_false (by omega)) ?_
        exact SRet.pure (.p _ (.int _ _))
theorem gcheck7_ok (m : Nat → Bool) (n r : Nat) (A B G H : Nat → Rat) {b c : Nat} (h : Wf ⟨7, n, r, A, B, G, H⟩ b c) : CallP Try.prog 45 [genP m ⟨7, n, r, A, B, G, H⟩] (.p (.int .i64 0)) [] := by
  have n6 : n ≤ 6 := h.n6
  have n1 : 1 ≤ n := h.n1
  have r2 : r ≤ 2 := h.r2
  have hnr : n * r ≤ 12 := Nat.mul_le_mul n6 r2
  have hc4 := h.c4
  have hbc := h.bc
  have cc := cnt_le (k := 7) (r := r) n1 (show n ≤ 8 by omega) (show r ≤ 3 by omega)
  have cb : ∀ i : Nat, (if i = 0 then cntA 7 n else if i = 1 then cntB 7 n else cntH 7 n r) ≤ 24 := fun i => by split <;> (try split) <;> omega
  show CallP Try.prog 45 [.agg [.int .i64 ((7 : Nat) : Int), .int .i64 (n : Int), .int .i64 (r : Int), ratsM (m 0) (lst (cntA 7 n) A), ratsM (m 1) (lst (cntB 7 n) B), ratsM (m 2) (lst (cntH 7 n r) G), ratsM (m 3) (lst (cntH 7 n r) H)]] (.p (.int .i64 0)) []
  refine callG_of_vc (wr := wr0) Γok mixed Try.func45 (by kernel_rfl) rfl (by kernel_rfl) (le_of_ble rfl) (by simp) ?_
  refine SCmp.no (decide_eq_false (by omega)) ?_
  refine SCmp.no (decide_eq_false (by omega)) ?_
  refine SCall.pure (sized_ok m ⟨7, n, r, A, B, G, H⟩ h) ?_
  refine SCmp.no (rfl) ?_
  refine SCall.lent [genP m ⟨7, n, r, A, B, G, H⟩] _ rfl (genrows_ok m ⟨7, n, r, A, B, G, H⟩) ?_
  refine SCall.pure (counts_ok) ?_
  refine SLoop.mk Nat (fun i => ([(1, .bptr 0 0), (3, .bptr 1 0), (4, .p (.mp false cntM)), (28, .p (.agg [ratsM (m 0) (lst (cntA 7 n) A), ratsM (m 1) (lst (cntB 7 n) B), ratsM (m 2) (lst (cntH 7 n r) G), ratsM (m 3) (lst (cntH 7 n r) H)])), (29, .p (.int .i64 i))], [.box 26 [.p (.int .i64 ((7 : Nat) : Int)), .p (.int .i64 (n : Int)), .p (.int .i64 (r : Int)), .p (ratsM (m 0) (lst (cntA 7 n) A)), .p (ratsM (m 1) (lst (cntB 7 n) B)), .p (ratsM (m 2) (lst (cntH 7 n r) G)), .p (ratsM (m 3) (lst (cntH 7 n r) H))], .box 93 [.p (ratsM (m 0) (lst (cntA 7 n) A)), .p (ratsM (m 1) (lst (cntB 7 n) B)), .p (ratsM (m 2) (lst (cntH 7 n r) G)), .p (ratsM (m 3) (lst (cntH 7 n r) H))]]))
    (fun i => i ≤ 4) (fun i => 4 - i) 0 [0, 1] (Nat.zero_le _) ⟨rfl, by simp, rfl, rfl, rfl, ⟨rfl, rfl, rfl, rfl, rfl, trivial⟩, ⟨rfl, rfl, trivial⟩⟩ ?_
  intro i hi
  have hi : i ≤ 4 := hi
  rcases (show i = 0 ∨ i = 1 ∨ i = 2 ∨ i = 3 ∨ i = 4 by omega) with rfl | rfl | rfl | rfl | rfl
  · refine SCmp.yes (rfl) ?_
    refine SIdx.mk 0 _ rfl rfl ?_
    refine SKeys.all rfl <| SGet.at 8 _ rfl rfl rfl ?_
    refine SZ.mk ((cntA 7 n : Nat) : Int) (by simp [lst]) ?_
    refine SPos.mk 0 rfl (by decide) ?_
    refine SWrap.i64z ((1 * n : Nat) : Int) (by omega) (by omega) ?_
    refine SPos.mk 1 rfl (by decide) ?_
    refine SWrap.i64z ((0 * n : Nat) : Int) (by omega) (by omega) ?_
    refine SWrap.i64z ((0 : Nat) : Int) (by simp) (by omega) ?_
    refine SWrap.i64z ((1 * n + 0 : Nat) : Int) (by omega) (by omega) ?_
    refine SPos.mk 2 rfl (by decide) ?_
    refine SWrap.i64z ((cntA 7 n : Nat) : Int) (by simp [cntA, cntB, cntH] <;> omega) (by have := cnt_le (k := 7) (r := r) n1 (show n ≤ 8 by omega) (show r ≤ 3 by omega); omega) ?_
    refine SCmp.no (neF rfl) ?_
    refine SWrap.i64z ((0 + 1 : Nat) : Int) (by omega) (by omega) ?_
    exact ⟨0 + 1, [0, 1], by decide, by decide, ⟨rfl, by simp, rfl, rfl, rfl, ⟨rfl, rfl, rfl, rfl, rfl, trivial⟩, ⟨rfl, rfl, trivial⟩⟩⟩
  · refine SCmp.yes (rfl) ?_
    refine SIdx.mk 1 _ rfl rfl ?_
    refine SKeys.all rfl <| SGet.at 9 _ rfl rfl rfl ?_
    refine SZ.mk ((cntB 7 n : Nat) : Int) (by simp [lst]) ?_
    refine SPos.mk 0 rfl (by decide) ?_
    refine SWrap.i64z ((1 * n : Nat) : Int) (by omega) (by omega) ?_
    refine SPos.mk 1 rfl (by decide) ?_
    refine SWrap.i64z ((0 * n : Nat) : Int) (by omega) (by omega) ?_
    refine SWrap.i64z ((0 : Nat) : Int) (by simp) (by omega) ?_
    refine SWrap.i64z ((1 * n + 0 : Nat) : Int) (by omega) (by omega) ?_
    refine SPos.mk 2 rfl (by decide) ?_
    refine SWrap.i64z ((cntB 7 n : Nat) : Int) (by simp [cntA, cntB, cntH] <;> omega) (by have := cnt_le (k := 7) (r := r) n1 (show n ≤ 8 by omega) (show r ≤ 3 by omega); omega) ?_
    refine SCmp.no (neF rfl) ?_
    refine SWrap.i64z ((1 + 1 : Nat) : Int) (by omega) (by omega) ?_
    exact ⟨1 + 1, [0, 1], by decide, by decide, ⟨rfl, by simp, rfl, rfl, rfl, ⟨rfl, rfl, rfl, rfl, rfl, trivial⟩, ⟨rfl, rfl, trivial⟩⟩⟩
  · refine SCmp.yes (rfl) ?_
    refine SIdx.mk 2 _ rfl rfl ?_
    refine SKeys.all rfl <| SGet.at 10 _ rfl rfl rfl ?_
    refine SZ.mk ((cntH 7 n r : Nat) : Int) (by simp [lst]) ?_
    refine SPos.mk 0 rfl (by decide) ?_
    refine SWrap.i64z ((0 * n : Nat) : Int) (by omega) (by omega) ?_
    refine SPos.mk 1 rfl (by decide) ?_
    refine SWrap.i64z ((1 * n : Nat) : Int) (by omega) (by omega) ?_
    refine SWrap.i64z ((n * r : Nat) : Int) (by rw [Int.natCast_mul]; simp) (by omega) ?_
    refine SWrap.i64z ((0 * n + n * r : Nat) : Int) (by omega) (by omega) ?_
    refine SPos.mk 2 rfl (by decide) ?_
    refine SWrap.i64z ((cntH 7 n r : Nat) : Int) (by simp [cntA, cntB, cntH] <;> omega) (by have := cnt_le (k := 7) (r := r) n1 (show n ≤ 8 by omega) (show r ≤ 3 by omega); omega) ?_
    refine SCmp.no (neF rfl) ?_
    refine SWrap.i64z ((2 + 1 : Nat) : Int) (by omega) (by omega) ?_
    exact ⟨2 + 1, [0, 1], by decide, by decide, ⟨rfl, by simp, rfl, rfl, rfl, ⟨rfl, rfl, rfl, rfl, rfl, trivial⟩, ⟨rfl, rfl, trivial⟩⟩⟩
  · refine SCmp.yes (rfl) ?_
    refine SIdx.mk 3 _ rfl rfl ?_
    refine SKeys.all rfl <| SGet.at 11 _ rfl rfl rfl ?_
    refine SZ.mk ((cntH 7 n r : Nat) : Int) (by simp [lst]) ?_
    refine SPos.mk 0 rfl (by decide) ?_
    refine SWrap.i64z ((0 * n : Nat) : Int) (by omega) (by omega) ?_
    refine SPos.mk 1 rfl (by decide) ?_
    refine SWrap.i64z ((1 * n : Nat) : Int) (by omega) (by omega) ?_
    refine SWrap.i64z ((n * r : Nat) : Int) (by rw [Int.natCast_mul]; simp) (by omega) ?_
    refine SWrap.i64z ((0 * n + n * r : Nat) : Int) (by omega) (by omega) ?_
    refine SPos.mk 2 rfl (by decide) ?_
    refine SWrap.i64z ((cntH 7 n r : Nat) : Int) (by simp [cntA, cntB, cntH] <;> omega) (by have := cnt_le (k := 7) (r := r) n1 (show n ≤ 8 by omega) (show r ≤ 3 by omega); omega) ?_
    refine SCmp.no (neF rfl) ?_
    refine SWrap.i64z ((3 + 1 : Nat) : Int) (by omega) (by omega) ?_
    exact ⟨3 + 1, [0, 1], by decide, by decide, ⟨rfl, by simp, rfl, rfl, rfl, ⟨rfl, rfl, rfl, rfl, rfl, trivial⟩, ⟨rfl, rfl, trivial⟩⟩⟩
  · refine SCmp.no (rfl) ?_
    refine SLoop.mk Nat (fun i => ([(1, .bptr 0 0), (60, .p (.agg [ratsM (m 0) (lst (cntA 7 n) A), ratsM (m 1) (lst (cntB 7 n) B), ratsM (m 2) (lst (cntH 7 n r) G), ratsM (m 3) (lst (cntH 7 n r) H)])), (61, .p (.int .i64 i))], [.box 26 [.p (.int .i64 ((7 : Nat) : Int)), .p (.int .i64 (n : Int)), .p (.int .i64 (r : Int)), .p (ratsM (m 0) (lst (cntA 7 n) A)), .p (ratsM (m 1) (lst (cntB 7 n) B)), .p (ratsM (m 2) (lst (cntH 7 n r) G)), .p (ratsM (m 3) (lst (cntH 7 n r) H))], .box 93 [.p (ratsM (m 0) (lst (cntA 7 n) A)), .p (ratsM (m 1) (lst (cntB 7 n) B)), .p (ratsM (m 2) (lst (cntH 7 n r) G)), .p (ratsM (m 3) (lst (cntH 7 n r) H))]]))
      (fun i => i ≤ 4) (fun i => 4 - i) 0 [0, 1] (Nat.zero_le _) ⟨rfl, by simp, rfl, rfl, rfl, ⟨rfl, rfl, rfl, trivial⟩, ⟨rfl, rfl, trivial⟩⟩ ?_
    intro i hi
    have hi : i ≤ 4 := hi
    rcases (show i = 0 ∨ i = 1 ∨ i = 2 ∨ i = 3 ∨ i = 4 by omega) with rfl | rfl | rfl | rfl | rfl
    · refine SCmp.yes (rfl) ?_
      refine SIdx.mk 0 _ rfl rfl ?_
      refine SCall.pure (none1_ok (m 0) (lst (cntA 7 n) A) (fun i hi => by rw [lst_length] at hi; rw [lst_getD hi]; exact check1_ok _ ((h.bA i hi).mono (by omega))) (by rw [lst_length]; exact Nat.le_trans (cb 0) (by decide))) ?_
      refine SCond.mk (fun h => by cases h) (fun _ => ?_)
      refine SWrap.i64z ((0 + 1 : Nat) : Int) (by omega) (by omega) ?_
      exact ⟨0 + 1, [0, 1], by decide, by decide, ⟨rfl, by simp, rfl, rfl, rfl, ⟨rfl, rfl, rfl, trivial⟩, ⟨rfl, rfl, trivial⟩⟩⟩
    · refine SCmp.yes (rfl) ?_
      refine SIdx.mk 1 _ rfl rfl ?_
      refine SCall.pure (none1_ok (m 1) (lst (cntB 7 n) B) (fun i hi => by rw [lst_length] at hi; rw [lst_getD hi]; exact check1_ok _ ((h.bB i hi).mono (by omega))) (by rw [lst_length]; exact Nat.le_trans (cb 1) (by decide))) ?_
      refine SCond.mk (fun h => by cases h) (fun _ => ?_)
      refine SWrap.i64z ((1 + 1 : Nat) : Int) (by omega) (by omega) ?_
      exact ⟨1 + 1, [0, 1], by decide, by decide, ⟨rfl, by simp, rfl, rfl, rfl, ⟨rfl, rfl, rfl, trivial⟩, ⟨rfl, rfl, trivial⟩⟩⟩
    · refine SCmp.yes (rfl) ?_
      refine SIdx.mk 2 _ rfl rfl ?_
      refine SCall.pure (none1_ok (m 2) (lst (cntH 7 n r) G) (fun i hi => by rw [lst_length] at hi; rw [lst_getD hi]; exact check1_ok _ ((h.bG i hi).mono (by omega))) (by rw [lst_length]; exact Nat.le_trans (cb 2) (by decide))) ?_
      refine SCond.mk (fun h => by cases h) (fun _ => ?_)
      refine SWrap.i64z ((2 + 1 : Nat) : Int) (by omega) (by omega) ?_
      exact ⟨2 + 1, [0, 1], by decide, by decide, ⟨rfl, by simp, rfl, rfl, rfl, ⟨rfl, rfl, rfl, trivial⟩, ⟨rfl, rfl, trivial⟩⟩⟩
    · refine SCmp.yes (rfl) ?_
      refine SIdx.mk 3 _ rfl rfl ?_
      refine SCall.pure (none1_ok (m 3) (lst (cntH 7 n r) H) (fun i hi => by rw [lst_length] at hi; rw [lst_getD hi]; exact check1_ok _ ((h.bH i hi).mono (by omega))) (by rw [lst_length]; exact Nat.le_trans (cb 3) (by decide))) ?_
      refine SCond.mk (fun h => by cases h) (fun _ => ?_)
      refine SWrap.i64z ((3 + 1 : Nat) : Int) (by omega) (by omega) ?_
      exact ⟨3 + 1, [0, 1], by decide, by decide, ⟨rfl, by simp, rfl, rfl, rfl, ⟨rfl, rfl, rfl, trivial⟩, ⟨rfl, rfl, trivial⟩⟩⟩
    · refine SCmp.no (rfl) ?_
      refine SZ.mk ((cntA 7 n : Nat) : Int) (by simp [lst]) ?_
      refine SLoop.mk Nat (fun i => ([(1, .bptr 0 0), (68, .p (ratsM (m 0) (lst (cntA 7 n) A))), (69, .p (.int .i64 ((cntA 7 n : Nat) : Int))), (70, .p (.int .i64 i))], [.box 26 [.p (.int .i64 ((7 : Nat) : Int)), .p (.int .i64 (n : Int)), .p (.int .i64 (r : Int)), .p (ratsM (m 0) (lst (cntA 7 n) A)), .p (ratsM (m 1) (lst (cntB 7 n) B)), .p (ratsM (m 2) (lst (cntH 7 n r) G)), .p (ratsM (m 3) (lst (cntH 7 n r) H))], .box 93 [.p (ratsM (m 0) (lst (cntA 7 n) A)), .p (ratsM (m 1) (lst (cntB 7 n) B)), .p (ratsM (m 2) (lst (cntH 7 n r) G)), .p (ratsM (m 3) (lst (cntH 7 n r) H))]]))
        (fun i => i ≤ cntA 7 n) (fun i => cntA 7 n - i) 0 [0, 1] (Nat.zero_le _) ⟨rfl, by simp, rfl, rfl, rfl, ⟨rfl, rfl, rfl, rfl, trivial⟩, ⟨rfl, rfl, trivial⟩⟩ ?_
      intro i hi
      have hi : i ≤ cntA 7 n := hi
      have cA := cb 0
      by_cases hia : i < cntA 7 n
      · refine SCmp.yes (decide_eq_true (by omega)) ?_
        refine SIdx.rf i rfl hia ?_
        have hz := (h.bA i hia).mono (show b ≤ c by omega)
        have hc2 := none2_ok (m 1) true (A i) (lst (cntB 7 n) B) (fun j hj => by
          rw [lst_length] at hj; rw [lst_getD hj]
          have := check2_ok true (A i) (B j) hz (h.bB j hj) (by omega)
          rw [decide_eq_false (h.ne i j hia hj)] at this
          exact this) (by rw [lst_length]; exact Nat.le_trans (cb 1) (by decide))
        refine SCall.pure (pvs := [ratsM (m 1) (lst (cntB 7 n) B), .fn 68 [.pel true (ratP (A i))]]) hc2 ?_
        refine SCond.mk (fun h => by cases h) (fun _ => ?_)
        refine SWrap.i64z ((i + 1 : Nat) : Int) (by omega) (by omega) ?_
        exact ⟨i + 1, [0, 1], hia, by show cntA 7 n - (i + 1) < cntA 7 n - i; omega, ⟨rfl, by simp, rfl, rfl, rfl, ⟨rfl, rfl, rfl, rfl, trivial⟩, ⟨rfl, rfl, trivial⟩⟩⟩
      · refine SCmp.no (decide_eq_false (by omega)) ?_
        exact SRet.pure (.p _ (.int _ _))
theorem gcheck_ok (m : Nat → Bool) (g : GV) {b c : Nat} (h : Wf g b c) : CallP Try.prog 45 [genP m g] (.p (.int .i64 0)) [] := by
  obtain ⟨k, n, r, A, B, G, H⟩ := g
  rcases k_cases h.k1 h.k7 with e | e | e | e | e | e | e <;> (have e : k = _ := e; subst e)
  · exact gcheck1_ok m n r A B G H h
  · exact gcheck2_ok m n r A B G H h
  · exact gcheck3_ok m n r A B G H h
  · exact gcheck4_ok m n r A B G H h
  · exact gcheck5_ok m n r A B G H h
  · exact gcheck6_ok m n r A B G H h
  · exact gcheck7_ok m n r A B G H h
end Go.Proofs.Ytjfcphohgicolaa

namespace Go.Proofs.Ytjfcphohgicolaa
open Go
set_option linter.unusedVariables false
set_option linter.unusedSimpArgs false
set_option maxRecDepth 10000
theorem ratP_one' : ratP 1 = .agg [.bool false, natP 1, natP 1] := rfl
theorem gzero_ok : CallP Try.prog 70 [] (.p (ratP 0)) [] := by
  refine callG_of_vc (wr := wr0) Γok mixed Try.func70 (by kernel_rfl) rfl (by kernel_rfl) (le_of_ble rfl) (by simp) ?_
  refine SRet.pure ?_
  rw [ratP_zero]
  exact conv3 ⟨rfl, rfl, rfl⟩ (.p _ (.bool _)) (.p _ (.sl _ _ (fun e he => by simp at he))) (frz1 rfl)
theorem gone_ok : CallP Try.prog 73 [] (.p (ratP 1)) [] := by
  refine callG_of_vc (wr := wr0) Γok mixed Try.func73 (by kernel_rfl) rfl (by kernel_rfl) (le_of_ble rfl) (by simp) ?_
  refine SRet.pure ?_
  rw [ratP_one']
  exact conv3 ⟨rfl, rfl, rfl⟩ (.p _ (.bool _)) (frz1 rfl) (frz1 rfl)
theorem gdot_ok (m : Nat → Bool) (g : GV) {b c : Nat} (h : Wf g b c) (hk : g.k = 6 ∨ g.k = 7) (i j : Nat) (hi : i < g.n) (hj : j < g.n) :
    CallP Try.prog 74 [genP m g, .int .i64 i, .int .i64 j] (.p (ratP (rowS g i j))) [] := by
  have h8 := h.n6
  have h2 := h.r2
  have h4 := h.c4
  have h5 := h.bc
  have hlh := h.lh hk
  have zP := h.prod hk hi hj
  have zS := sm_bz' zP
  have i0 : i * g.r ≤ 16 := Nat.mul_le_mul (show i ≤ 8 by omega) h2
  have j0 : j * g.r ≤ 16 := Nat.mul_le_mul (show j ≤ 8 by omega) h2
  have ic : ((i * g.r : Nat) : Int) = (i : Int) * (g.r : Int) := Int.natCast_mul i g.r
  have jc : ((j * g.r : Nat) : Int) = (j : Int) * (g.r : Int) := Int.natCast_mul j g.r
  refine callG_of_vc (wr := wr0) Γok mixed Try.func74 (by kernel_rfl) rfl (by kernel_rfl) (le_of_ble rfl) (by simp) ?_
  refine SCall.pure (gzero_ok) ?_
  refine SLoop.mk Nat (fun t => ([(1, .p (.int .i64 i)), (2, .p (.int .i64 j)), (3, .bptr 0 0), (6, .bptr 1 0), (7, .bptr 2 0), (11, .p (.int .i64 g.r)), (12, .p (.int .i64 t))], [.box 26 (genA m g), .box 30 zratA, .box 30 (bxQ (sm t fun t => g.G (i * g.r + t) * g.H (j * g.r + t)))]))
    (fun t => t ≤ g.r) (fun t => g.r - t) 0 [0, 1, 2] (Nat.zero_le _) ⟨rfl, by simp, rfl, rfl, rfl, ⟨rfl, rfl, rfl, rfl, rfl, rfl, rfl, trivial⟩, ⟨rfl, rfl, rfl, trivial⟩⟩ ?_
  intro t ht
  have ht : t ≤ g.r := ht
  by_cases htr : t < g.r
  · refine SCmp.yes (decide_eq_true (by omega)) ?_
    have l1 := row_lt hi htr
    have l2 := row_lt hj htr
    have lt : t * (2 * b + 1) ≤ 2 * (2 * b + 1) := Nat.mul_le_mul_right _ (by omega)
    refine SDraw.mkX (by kernel_rfl) ?_
    repeat refine SOp.mk _ _ (And.intro rfl rfl) rfl ?_
    refine SOp.mk _ _ (SWrap.i64z ((i * g.r : Nat) : Int) (by omega) (by omega) (And.intro rfl rfl)) rfl ?_
    repeat refine SOp.mk _ _ (And.intro rfl rfl) rfl ?_
    refine SOp.mk _ _ (SWrap.i64z ((i * g.r + t : Nat) : Int) (by omega) (by omega) (And.intro rfl rfl)) rfl ?_
    refine SOp.mk _ _ (SIdx.rf (i * g.r + t) rfl (by omega) (And.intro rfl rfl)) rfl ?_
    repeat refine SOp.mk _ _ (And.intro rfl rfl) rfl ?_
    refine SOp.mk _ _ (SWrap.i64z ((j * g.r : Nat) : Int) (by omega) (by omega) (And.intro rfl rfl)) rfl ?_
    repeat refine SOp.mk _ _ (And.intro rfl rfl) rfl ?_
    refine SOp.mk _ _ (SWrap.i64z ((j * g.r + t : Nat) : Int) (by omega) (by omega) (And.intro rfl rfl)) rfl ?_
    refine SOp.mk _ _ (SIdx.rf (j * g.r + t) rfl (by omega) (And.intro rfl rfl)) rfl ?_
    repeat refine SOp.mk _ _ (And.intro rfl rfl) rfl ?_
    refine SOp.mk _ _ (SCall.pure (ratmul_ok _ _ (h.bG _ (by omega)).sz (h.bH _ (by omega)).sz (by omega)) (And.intro rfl rfl)) rfl ?_
    refine SOp.mk _ _ (SCall.pure (ratadd_ok _ _ (zS t ht).sz (zP t htr).sz (by omega)) (And.intro rfl rfl)) rfl ?_
    repeat refine SOp.mk _ _ (And.intro rfl rfl) rfl ?_
    refine SFin.mk (by kernel_rfl) ?_
    refine SWrap.i64z ((t + 1 : Nat) : Int) (by omega) (by omega) ?_
    exact ⟨t + 1, [0, 1, 2], htr, by show g.r - (t + 1) < g.r - t; omega, ⟨rfl, by simp, rfl, rfl, rfl, ⟨rfl, rfl, rfl, rfl, rfl, rfl, rfl, trivial⟩, ⟨rfl, rfl, rfl, trivial⟩⟩⟩
  · refine SCmp.no (decide_eq_false (by omega)) ?_
    obtain rfl : t = g.r := by omega
    exact SRet.pure (.p _ (pers_rat _ _ _))
theorem gover_ok (m : Nat → Bool) (g : GV) {b c : Nat} (h : Wf g b c) (a : Rat) {d : Nat} (ha : Bz a d) (hd : d ≤ 1000) (hk : g.k = 5 ∨ g.k = 7) (i j : Nat) (hi : i < g.n) (hj : j < g.n) :
    CallP Try.prog 72 [genP m g, ratP a, .int .i64 i, .int .i64 j] (.p (ratP (a / (g.A i - g.B j)))) [] := by
  have h4 := h.c4
  have h5 := h.bc
  have hl := h.la3 (by omega)
  have hl2 := h.lb5 hk
  have hdf := h.dif (i := i) (j := j) (by omega) (by omega)
  refine callG_of_vc (wr := wr0) Γok mixed Try.func72 (by kernel_rfl) rfl (by kernel_rfl) (le_of_ble rfl) (by simp) ?_
  refine SDraw.mkX (by kernel_rfl) ?_
  repeat refine SOp.mk _ _ (And.intro rfl rfl) rfl ?_
  refine SOp.mk _ _ (SIdx.rf i rfl (by omega) (And.intro rfl rfl)) rfl ?_
  repeat refine SOp.mk _ _ (And.intro rfl rfl) rfl ?_
  refine SOp.mk _ _ (SIdx.rf j rfl (by omega) (And.intro rfl rfl)) rfl ?_
  repeat refine SOp.mk _ _ (And.intro rfl rfl) rfl ?_
  refine SOp.mk _ _ (SCall.pure (ratsub_ok _ _ (h.bA i (by omega)).sz (h.bB j (by omega)).sz (by omega)) (And.intro rfl rfl)) rfl ?_
  refine SOp.mk _ _ (SCall.pureT (quo_ok a _ hdf.2 ha.sz hdf.1.sz (by omega)) (fun _ => rfl) (And.intro rfl rfl)) rfl ?_
  repeat refine SOp.mk _ _ (And.intro rfl rfl) rfl ?_
  refine SFin.mk (by kernel_rfl) ?_
  exact SRet.pure (.p _ (pers_rat _ _ _))
theorem gpower_ok (a : Rat) {b : Nat} (ha : Bz a b) (hb : b ≤ 100) (j : Nat) (hj : j ≤ 8) : CallP Try.prog 71 [ratP a, .int .i64 j] (.p (ratP (a ^ j))) [] := by
  refine callG_of_vc (wr := wr0) Γok mixed Try.func71 (by kernel_rfl) rfl (by kernel_rfl) (le_of_ble rfl) (by simp) ?_
  refine SCall.pure (gone_ok) ?_
  refine SLoop.mk (Nat × Rat) (fun (t, q) => ([(2, .bptr 0 0), (4, .bptr 1 0), (5, .bptr 2 0), (7, .p (.int .i64 j)), (8, .p (.int .i64 t))], [.box 30 (bxQ a), .box 30 zratA, .box 30 (bxQ q)]))
    (fun (t, q) => t ≤ j ∧ q = a ^ t) (fun x => j - x.1) (0, 1) [0, 1, 2] ⟨Nat.zero_le _, (Rat.pow_zero _).symm⟩ ⟨rfl, by simp, rfl, rfl, rfl, ⟨rfl, rfl, rfl, rfl, rfl, trivial⟩, ⟨rfl, rfl, rfl, trivial⟩⟩ ?_
  intro ⟨t, q⟩ ⟨ht, hq⟩
  by_cases htj : t < j
  · refine SCmp.yes (decide_eq_true (by omega)) ?_
    have zq : Bz q (b * t + 1) := by rw [hq]; exact bz_pow ha t
    have hbt : b * t ≤ b * 8 := Nat.mul_le_mul_left _ (by omega)
    refine SCall.pure (ratmul_ok _ _ zq.sz ha.sz (by omega)) ?_
    refine SWrap.i64z ((t + 1 : Nat) : Int) (by omega) (by omega) ?_
    exact ⟨(t + 1, q * a), [0, 1, 2], ⟨htj, by rw [hq, Rat.pow_succ]⟩, by show j - (t + 1) < j - t; omega, ⟨rfl, by simp, rfl, rfl, rfl, ⟨rfl, rfl, rfl, rfl, rfl, trivial⟩, ⟨rfl, rfl, rfl, trivial⟩⟩⟩
  · refine SCmp.no (decide_eq_false (by omega)) ?_
    obtain rfl : t = j := by omega
    rw [← hq]
    exact SRet.pure (.p _ (pers_rat _ _ _))
end Go.Proofs.Ytjfcphohgicolaa

namespace Go.Proofs.Ytjfcphohgicolaa
open Go
set_option linter.unusedVariables false
set_option linter.unusedSimpArgs false
set_option maxRecDepth 10000
theorem gcopy_ok {q : Rat} {k : Nat} (h : Bz q k) (hk : k ≤ 1000000) : CallP Try.prog 51 [ratP q, ratP 0] (.p (ratP q)) [] := by
  have := ratadd_ok q 0 h.sz bz_zero.sz (by omega)
  rw [Rat.add_zero] at this; exact this
theorem gentry_ok (m : Nat → Bool) (g : GV) {b c : Nat} (h : Wf g b c) (i j : Nat) (hi : i < g.n) (hj : j < g.n) :
    CallP Try.prog 46 [genP m g, .int .i64 i, .int .i64 j] (.p (ratP (ent g i j))) [] := by
  have h8 := h.n6
  have h2 := h.r2
  have h4 := h.c4
  have h5 := h.bc
  rcases k_cases h.k1 h.k7 with e | e | e | e | e | e | e
  · have hl := h.la12 (.inl e)
    have hE : ent g i j = g.A (i + g.n - 1 - j) := by unfold ent; rw [if_pos e]
    rw [hE]
    refine callG_of_vc (wr := wr0) Γok mixed Try.func46 (by kernel_rfl) rfl (by kernel_rfl) (le_of_ble rfl) (by simp) ?_
    refine SCmp.yes (decide_eq_true (by omega)) ?_
    refine SDraw.mkX (by kernel_rfl) ?_
    repeat refine SOp.mk _ _ (And.intro rfl rfl) rfl ?_
    refine SOp.mk _ _ (SWrap.i64z ((i : Int) - j) rfl (by omega) (And.intro rfl rfl)) rfl ?_
    repeat refine SOp.mk _ _ (And.intro rfl rfl) rfl ?_
    refine SOp.mk _ _ (SWrap.i64z ((i + g.n - j : Nat) : Int) (by omega) (by omega) (And.intro rfl rfl)) rfl ?_
    refine SOp.mk _ _ (SWrap.i64z ((i + g.n - 1 - j : Nat) : Int) (by omega) (by omega) (And.intro rfl rfl)) rfl ?_
    refine SOp.mk _ _ (SIdx.rf (i + g.n - 1 - j) rfl (by omega) (And.intro rfl rfl)) rfl ?_
    repeat refine SOp.mk _ _ (And.intro rfl rfl) rfl ?_
    refine SOp.mk _ _ (SCall.pure (gzero_ok) (And.intro rfl rfl)) rfl ?_
    refine SOp.mk _ _ (SCall.pure (gcopy_ok (h.bA (i + g.n - 1 - j) (by omega)) (by omega)) (And.intro rfl rfl)) rfl ?_
    repeat refine SOp.mk _ _ (And.intro rfl rfl) rfl ?_
    refine SFin.mk (by kernel_rfl) ?_
    exact SRet.pure (.p _ (pers_rat _ _ _))
  · have hl := h.la12 (.inr e)
    have hE : ent g i j = g.A (i + j) := by unfold ent; rw [if_neg (by omega), if_pos e]
    rw [hE]
    refine callG_of_vc (wr := wr0) Γok mixed Try.func46 (by kernel_rfl) rfl (by kernel_rfl) (le_of_ble rfl) (by simp) ?_
    refine SCmp.no (decide_eq_false (by omega)) ?_
    refine SCmp.yes (decide_eq_true (by omega)) ?_
    refine SDraw.mkX (by kernel_rfl) ?_
    repeat refine SOp.mk _ _ (And.intro rfl rfl) rfl ?_
    refine SOp.mk _ _ (SWrap.i64z ((i + j : Nat) : Int) (by omega) (by omega) (And.intro rfl rfl)) rfl ?_
    refine SOp.mk _ _ (SIdx.rf (i + j) rfl (by omega) (And.intro rfl rfl)) rfl ?_
    repeat refine SOp.mk _ _ (And.intro rfl rfl) rfl ?_
    refine SOp.mk _ _ (SCall.pure (gzero_ok) (And.intro rfl rfl)) rfl ?_
    refine SOp.mk _ _ (SCall.pure (gcopy_ok (h.bA (i + j) (by omega)) (by omega)) (And.intro rfl rfl)) rfl ?_
    repeat refine SOp.mk _ _ (And.intro rfl rfl) rfl ?_
    refine SFin.mk (by kernel_rfl) ?_
    exact SRet.pure (.p _ (pers_rat _ _ _))
  · have hl := h.la3 (by omega)
    have hE : ent g i j = g.A ((i + g.n - j) % g.n) := by unfold ent; rw [if_neg (by omega), if_neg (by omega), if_pos e]
    have hm : (i + g.n - j) % g.n < g.n := Nat.mod_lt _ (by omega)
    rw [hE]
    refine callG_of_vc (wr := wr0) Γok mixed Try.func46 (by kernel_rfl) rfl (by kernel_rfl) (le_of_ble rfl) (by simp) ?_
    refine SCmp.no (decide_eq_false (by omega)) ?_
    refine SCmp.no (decide_eq_false (by omega)) ?_
    refine SCmp.yes (decide_eq_true (by omega)) ?_
    refine SDraw.mkX (by kernel_rfl) ?_
    repeat refine SOp.mk _ _ (And.intro rfl rfl) rfl ?_
    refine SOp.mk _ _ (SWrap.i64z ((i : Int) - j) rfl (by omega) (And.intro rfl rfl)) rfl ?_
    repeat refine SOp.mk _ _ (And.intro rfl rfl) rfl ?_
    refine SOp.mk _ _ (SWrap.i64z ((i + g.n - j : Nat) : Int) (by omega) (by omega) (And.intro rfl rfl)) rfl ?_
    repeat refine SOp.mk _ _ (And.intro rfl rfl) rfl ?_
    refine SOp.mk _ _ (SRem (b := g.n) (by omega) rfl (And.intro rfl rfl)) rfl ?_
    refine SOp.mk _ _ (SIdx.rf ((i + g.n - j) % g.n) rfl (by omega) (And.intro rfl rfl)) rfl ?_
    repeat refine SOp.mk _ _ (And.intro rfl rfl) rfl ?_
    refine SOp.mk _ _ (SCall.pure (gzero_ok) (And.intro rfl rfl)) rfl ?_
    refine SOp.mk _ _ (SCall.pure (gcopy_ok (h.bA ((i + g.n - j) % g.n) (by omega)) (by omega)) (And.intro rfl rfl)) rfl ?_
    repeat refine SOp.mk _ _ (And.intro rfl rfl) rfl ?_
    refine SFin.mk (by kernel_rfl) ?_
    exact SRet.pure (.p _ (pers_rat _ _ _))
  · have hl := h.la3 (by omega)
    have hE : ent g i j = g.A i ^ j := by unfold ent; rw [if_neg (by omega), if_neg (by omega), if_neg (by omega), if_pos e]
    rw [hE]
    refine callG_of_vc (wr := wr0) Γok mixed Try.func46 (by kernel_rfl) rfl (by kernel_rfl) (le_of_ble rfl) (by simp) ?_
    refine SCmp.no (decide_eq_false (by omega)) ?_
    refine SCmp.no (decide_eq_false (by omega)) ?_
    refine SCmp.no (decide_eq_false (by omega)) ?_
    refine SCmp.yes (decide_eq_true (by omega)) ?_
    refine SIdx.rf i rfl (by omega) ?_
    refine SCall.pure (gpower_ok _ (h.bA i (by omega)) (by omega) j (by omega)) ?_
    exact SRet.pure (.p _ (pers_rat _ _ _))
  · have hE : ent g i j = 1 / (g.A i - g.B j) := by unfold ent; rw [if_neg (by omega), if_neg (by omega), if_neg (by omega), if_neg (by omega), if_pos e]
    rw [hE]
    refine callG_of_vc (wr := wr0) Γok mixed Try.func46 (by kernel_rfl) rfl (by kernel_rfl) (le_of_ble rfl) (by simp) ?_
    refine SCmp.no (decide_eq_false (by omega)) ?_
    refine SCmp.no (decide_eq_false (by omega)) ?_
    refine SCmp.no (decide_eq_false (by omega)) ?_
    refine SCmp.no (decide_eq_false (by omega)) ?_
    refine SCmp.yes (decide_eq_true (by omega)) ?_
    refine SDraw.mkX (by kernel_rfl) ?_
    repeat refine SOp.mk _ _ (And.intro rfl rfl) rfl ?_
    refine SOp.mk _ _ (SCall.pure (gone_ok) (And.intro rfl rfl)) rfl ?_
    repeat refine SOp.mk _ _ (And.intro rfl rfl) rfl ?_
    refine SOp.mk _ _ (SCall.pure (gover_ok m g h 1 bz_one (by omega) (.inl e) i j hi hj) (And.intro rfl rfl)) rfl ?_
    repeat refine SOp.mk _ _ (And.intro rfl rfl) rfl ?_
    refine SFin.mk (by kernel_rfl) ?_
    exact SRet.pure (.p _ (pers_rat _ _ _))
  · have hE : ent g i j = sm (min i j + 1) fun m => rowS g (i - m) (j - m) := by unfold ent; rw [if_neg (by omega), if_neg (by omega), if_neg (by omega), if_neg (by omega), if_neg (by omega), if_pos e]
    rw [hE]
    have zS := h.bSum (.inl e) hi hj
    refine callG_of_vc (wr := wr0) Γok mixed Try.func46 (by kernel_rfl) rfl (by kernel_rfl) (le_of_ble rfl) (by simp) ?_
    refine SCmp.no (decide_eq_false (by omega)) ?_
    refine SCmp.no (decide_eq_false (by omega)) ?_
    refine SCmp.no (decide_eq_false (by omega)) ?_
    refine SCmp.no (decide_eq_false (by omega)) ?_
    refine SCmp.no (decide_eq_false (by omega)) ?_
    refine SCmp.no (decide_eq_false (by omega)) ?_
    refine SCall.pure (gzero_ok) ?_
    refine SLoop.mk Nat (fun t => ([(1, .p (.int .i64 i)), (2, .p (.int .i64 j)), (3, .bptr 0 0), (6, .bptr 1 0), (7, .bptr 2 0), (8, .p (.int .i64 t))], [.box 26 (genA m g), .box 30 zratA, .box 30 (bxQ (sm t fun m => rowS g (i - m) (j - m)))]))
      (fun t => t ≤ min i j + 1) (fun t => min i j + 1 - t) 0 [0, 1, 2] (Nat.zero_le _) ⟨rfl, by simp, rfl, rfl, rfl, ⟨rfl, rfl, rfl, rfl, rfl, rfl, trivial⟩, ⟨rfl, rfl, rfl, trivial⟩⟩ ?_
    intro t ht
    have ht : t ≤ min i j + 1 := ht
    refine SZ.mk ((min i j : Nat) : Int) (by show (if (j : Int) < (i : Int) then (j : Int) else (i : Int)) = _; split <;> omega) ?_
    by_cases htj : t < min i j + 1
    · refine SCmp.yes (decide_eq_true (by omega)) ?_
      have lt : t * (2 * (2 * b + 1) + 1 + 1) ≤ 6 * (2 * (2 * b + 1) + 1 + 1) := Nat.mul_le_mul_right _ (by omega)
      refine SDraw.mkX (by kernel_rfl) ?_
      repeat refine SOp.mk _ _ (And.intro rfl rfl) rfl ?_
      refine SOp.mk _ _ (SWrap.i64z ((i - t : Nat) : Int) (by omega) (by omega) (And.intro rfl rfl)) rfl ?_
      repeat refine SOp.mk _ _ (And.intro rfl rfl) rfl ?_
      refine SOp.mk _ _ (SWrap.i64z ((j - t : Nat) : Int) (by omega) (by omega) (And.intro rfl rfl)) rfl ?_
      refine SOp.mk _ _ (SCall.pure (gdot_ok m g h (.inl e) (i - t) (j - t) (by omega) (by omega)) (And.intro rfl rfl)) rfl ?_
      refine SOp.mk _ _ (SCall.pure (ratadd_ok _ _ (zS t ht).sz (h.bRow (.inl e) (i := i - t) (j := j - t) (by omega) (by omega)).sz (by omega)) (And.intro rfl rfl)) rfl ?_
      repeat refine SOp.mk _ _ (And.intro rfl rfl) rfl ?_
      refine SFin.mk (by kernel_rfl) ?_
      refine SWrap.i64z ((t + 1 : Nat) : Int) (by omega) (by omega) ?_
      exact ⟨t + 1, [0, 1, 2], htj, by show min i j + 1 - (t + 1) < min i j + 1 - t; omega, ⟨rfl, by simp, rfl, rfl, rfl, ⟨rfl, rfl, rfl, rfl, rfl, rfl, trivial⟩, ⟨rfl, rfl, rfl, trivial⟩⟩⟩
    · refine SCmp.no (decide_eq_false (by omega)) ?_
      obtain rfl : t = min i j + 1 := by omega
      exact SRet.pure (.p _ (pers_rat _ _ _))
  · have hE : ent g i j = rowS g i j / (g.A i - g.B j) := by unfold ent; rw [if_neg (by omega), if_neg (by omega), if_neg (by omega), if_neg (by omega), if_neg (by omega), if_neg (by omega)]
    rw [hE]
    refine callG_of_vc (wr := wr0) Γok mixed Try.func46 (by kernel_rfl) rfl (by kernel_rfl) (le_of_ble rfl) (by simp) ?_
    refine SCmp.no (decide_eq_false (by omega)) ?_
    refine SCmp.no (decide_eq_false (by omega)) ?_
    refine SCmp.no (decide_eq_false (by omega)) ?_
    refine SCmp.no (decide_eq_false (by omega)) ?_
    refine SCmp.no (decide_eq_false (by omega)) ?_
    refine SCmp.yes (decide_eq_true (by omega)) ?_
    refine SDraw.mkX (by kernel_rfl) ?_
    repeat refine SOp.mk _ _ (And.intro rfl rfl) rfl ?_
    refine SOp.mk _ _ (SCall.pure (gdot_ok m g h (.inr e) i j hi hj) (And.intro rfl rfl)) rfl ?_
    repeat refine SOp.mk _ _ (And.intro rfl rfl) rfl ?_
    refine SOp.mk _ _ (SCall.pure (gover_ok m g h (rowS g i j) (h.bRow (.inr e) hi hj) (by omega) (.inr e) i j hi hj) (And.intro rfl rfl)) rfl ?_
    repeat refine SOp.mk _ _ (And.intro rfl rfl) rfl ?_
    refine SFin.mk (by kernel_rfl) ?_
    exact SRet.pure (.p _ (pers_rat _ _ _))
end Go.Proofs.Ytjfcphohgicolaa

namespace Go.Proofs.Ytjfcphohgicolaa
open Go
set_option linter.unusedVariables false
set_option linter.unusedSimpArgs false
abbrev half (p c n k : Nat) : List AV := fl n fun i => if i < k then .vec (.r p i) 3 0 c else .emp
abbrev halq (p c n k q : Nat) : List AV := fl n fun i => if i < k then .vec (.r p i) 3 0 c else if i = k then .vec (.t q) 3 0 c else .emp
theorem half_full {p c n : Nat} : half p c n n = plc p c n id := fl_congr fun i hi => if_pos hi
theorem half_set {p c n k q : Nat} : (half p c n k).set k (.vec (.t q) 3 0 c) = halq p c n k q := by
  rw [fl_set]
  refine fl_congr fun i _ => ?_
  unfold upd
  by_cases e : i = k
  · rw [if_pos e, if_neg (by omega), if_pos e]
  · rw [if_neg e]
    show (if i < k then AV.vec (.r p i) 3 0 c else .emp) = _
    by_cases e2 : i < k
    · rw [if_pos e2, if_pos e2]
    · rw [if_neg e2, if_neg e2, if_neg e]
theorem halq_get {p c n k q : Nat} (h : k < n) : (halq p c n k q)[k]? = some (.vec (.t q) 3 0 c) := by
  rw [fl_get h, if_neg (Nat.lt_irrefl k), if_pos rfl]
theorem halq_ren {hs : List Nat} {P : Hp} {p c n k q : Nat} (p' q' : Nat) (hp : hs.getD p 0 = p') (hp' : p' < 1000) (hq : hs.getD q 0 = q') (hq' : q' < 1000) : AV.renL (renW hs P) (halq p c n k q) = halq p' c n k q' := by
  rw [renL_fl]
  refine fl_congr fun i hi => ?_
  have eb : Nat.blt p' 1000 = true := blt_iff.2 hp'
  have ec : Nat.blt q' 1000 = true := blt_iff.2 hq'
  by_cases e : i < k
  · rw [if_pos e, if_pos e]; simp only [AV.ren, renW, hp, eb, cond_true]
  · rw [if_neg e, if_neg e]
    by_cases e2 : i = k
    · rw [if_pos e2, if_pos e2]; simp only [AV.ren, renW, hq, ec, cond_true]; rw [show ptop q' = q' from Nat.mod_eq_of_lt hq']
    · rw [if_neg e2, if_neg e2]; simp only [AV.ren]
/-- The pool takes in the row that is filled. -/
theorem half_absorb {hs : List Nat} {P : Hp} {p p' q c n k : Nat} (hp : hs.getD p 0 = p' + 1000 * (q + 1)) (hp' : p' < 1000) (hl : plenAt P p = k + 1) : AV.renL (renW hs P) (half p c n (k + 1)) = halq p' c n k q := by
  rw [renL_fl]
  have eb : Nat.blt (hs.getD p 0) 1000 = false := by
    cases hb : Nat.blt (hs.getD p 0) 1000 with
    | false => rfl
    | true => have := blt_iff.1 hb; omega
  have e1 : hs.getD p 0 % 1000 = p' := by omega
  have e2 : hs.getD p 0 / 1000 - 1 = q := by omega
  refine fl_congr fun i hi => ?_
  by_cases h1 : i < k
  · have e4 : Nat.blt (i + 1) (k + 1) = true := blt_iff.2 (by omega)
    rw [if_pos (by omega), if_pos h1]
    simp only [AV.ren, renW, eb, hl, e4, cond_false, cond_true, e1]
  · by_cases h2 : i = k
    · have e4 : Nat.blt (i + 1) (k + 1) = false := by
        cases hb : Nat.blt (i + 1) (k + 1) with
        | false => rfl
        | true => have := blt_iff.1 hb; omega
      rw [if_pos (by omega), if_neg h1, if_pos h2]
      simp only [AV.ren, renW, eb, hl, e4, cond_false, e2]
    · rw [if_neg (by omega), if_neg h1, if_neg h2]; simp only [AV.ren]
theorem half_in {P : Hp} {p c n k : Nat} (h : ∀ i, i < k → i < plenAt P p) : ∀ x ∈ half p c n k, ∀ h, x.men h → look P h ≠ .free := by
  intro x hx g hg
  obtain ⟨i, hi, rfl⟩ := fl_mem hx
  by_cases e : i < k
  · rw [if_pos e] at hg
    simp only [AV.men] at hg
    subst hg
    exact look_row (h i e)
  · rw [if_neg e] at hg; exact hg.elim
theorem halq_in {P : Hp} {p c n k q : Nat} (h : ∀ i, i < k → i < plenAt P p) (hq : look P (.t q) ≠ .free) : ∀ x ∈ halq p c n k q, ∀ h, x.men h → look P h ≠ .free := by
  intro x hx g hg
  obtain ⟨i, hi, rfl⟩ := fl_mem hx
  by_cases e : i < k
  · rw [if_pos e] at hg
    simp only [AV.men] at hg
    subst hg
    exact look_row (h i e)
  · rw [if_neg e] at hg
    by_cases e2 : i = k
    · rw [if_pos e2] at hg
      simp only [AV.men] at hg
      subst hg; exact hq
    · rw [if_neg e2] at hg; exact hg.elim
theorem half_ren0 {ρ : Hd → Hd} {p c n : Nat} : AV.renL ρ (half p c n 0) = List.replicate n .emp := by
  rw [renL_fl, replicate_fl]
  refine fl_congr fun i _ => ?_
  rw [if_neg (Nat.not_lt_zero i)]; simp only [AV.ren]
end Go.Proofs.Ytjfcphohgicolaa

namespace Go.Proofs.Ytjfcphohgicolaa
open Go
set_option linter.unusedVariables false
set_option linter.unusedSimpArgs false
set_option maxRecDepth 10000
theorem row_step {n j : Nat} {f : Nat → Rat} (h : j < n) : (fl n fun k => if k < j then ratP (f k) else rat0).set (j + 0) (ratP (f j)) = fl n fun k => if k < j + 1 then ratP (f k) else rat0 := by
  rw [fl_set]
  refine fl_congr fun k hk => ?_
  simp only [upd, Nat.add_zero]
  by_cases e : k = j
  · rw [if_pos e, if_pos (by omega), e]
  · rw [if_neg e]
    by_cases e2 : k < j
    · rw [if_pos e2, if_pos (by omega)]
    · rw [if_neg e2, if_neg (by omega)]
theorem row_full {n : Nat} {f : Nat → Rat} : rats (lst n f) = fl n fun k => if k < n then ratP (f k) else rat0 := by
  rw [rats, lst_fl, fl_map]; exact fl_congr fun k hk => (if_pos hk).symm
end Go.Proofs.Ytjfcphohgicolaa

namespace Go.Proofs.Ytjfcphohgicolaa
open Go
set_option linter.unusedVariables false
set_option linter.unusedSimpArgs false
set_option maxRecDepth 10000
theorem szero_ok : CallP Try.prog 87 [] (.p (ratP 0)) [] := by
  refine callG_of_vc (wr := wr0) Γok mixed Try.func87 (by kernel_rfl) rfl (by kernel_rfl) (le_of_ble rfl) (by simp) ?_
  refine SRet.pure ?_
  rw [ratP_zero]
  exact conv3 ⟨rfl, rfl, rfl⟩ (.p _ (.bool _)) (.p _ (.sl _ _ (fun e he => by simp at he))) (frz1 rfl)
end Go.Proofs.Ytjfcphohgicolaa

namespace Go.Proofs.Ytjfcphohgicolaa
open Go
set_option linter.unusedVariables false
set_option linter.unusedSimpArgs false
set_option maxRecDepth 10000
theorem bb_mono {b j k : Nat} (h : j ≤ k) : bb b j ≤ bb b k := Rmono (fun k => bb_step k) h
theorem nlen0 {q : Rat} (h : q = 0) : nlen q.num.natAbs = 0 := by rw [h]; exact nlen_zero_iff.2 rfl
theorem nlen1 {q : Rat} (h : q ≠ 0) : nlen q.num.natAbs ≠ 0 := fun e => h (Rat.num_eq_zero.1 (by have := nlen_zero_iff.1 e; omega))
end Go.Proofs.Ytjfcphohgicolaa

namespace Go.Proofs.Ytjfcphohgicolaa
set_option linter.unusedVariables false
theorem gabs_pos {c : Rat} (h : c ≠ 0) : 0 < c.abs := by
  have h1 := Rat.abs_nonneg (x := c)
  have h2 : c.abs ≠ 0 := fun e => h (Rat.abs_eq_zero_iff.1 e)
  grind
def patG (B : Nat → Nat → Rat) (k : Nat) : Nat → Nat
  | 0 => k
  | d + 1 => if (B (patG B k d) k).abs < (B (k + 1 + d) k).abs then k + 1 + d else patG B k d
def pvt (B : Nat → Nat → Rat) (n k : Nat) : Nat := patG B k (n - 1 - k)
theorem patG_spec {B : Nat → Nat → Rat} {k : Nat} : ∀ d, k ≤ patG B k d ∧ patG B k d ≤ k + d ∧ ∀ i, k ≤ i → i ≤ k + d → (B i k).abs ≤ (B (patG B k d) k).abs := by
  intro d
  induction d with
  | zero =>
    simp only [patG]
    refine ⟨Nat.le_refl _, by omega, fun i h1 h2 => ?_⟩
    obtain rfl : i = k := by omega
    exact Rat.le_refl
  | succ d ih =>
    obtain ⟨h1, h2, h3⟩ := ih
    simp only [patG]
    by_cases c : (B (patG B k d) k).abs < (B (k + 1 + d) k).abs
    · rw [if_pos c]
      refine ⟨by omega, by omega, fun i q1 q2 => ?_⟩
      by_cases e : i = k + 1 + d
      · rw [e]; exact Rat.le_refl
      · have := h3 i q1 (by omega); grind
    · rw [if_neg c]
      refine ⟨h1, by omega, fun i q1 q2 => ?_⟩
      by_cases e : i = k + 1 + d
      · rw [e]; grind
      · exact h3 i q1 (by omega)
theorem pvt_spec {B : Nat → Nat → Rat} {n k : Nat} (h : k < n) : k ≤ pvt B n k ∧ pvt B n k < n ∧ ∀ i, k ≤ i → i < n → (B i k).abs ≤ (B (pvt B n k) k).abs := by
  obtain ⟨h1, h2, h3⟩ := patG_spec (B := B) (k := k) (n - 1 - k)
  exact ⟨h1, by unfold pvt; omega, fun i q1 q2 => h3 i q1 (by omega)⟩
/-- Column k is cleared below row k; all of a row. -/
def redA (B : Nat → Nat → Rat) (k : Nat) : Nat → Nat → Rat := fun i j => if k < i then B i j - B i k / B k k * B k j else B i j
def swS (s : Nat → Nat) (p k : Nat) : Nat → Nat := fun i => s (if i = p then k else if i = k then p else i)
/-- A step's multiples, kept by rows. -/
def mulS (M P : Nat → Nat → Rat) (k : Nat) : Nat → Nat → Rat := fun i j => if j = k then (if k < i then P i k / P k k else if i = k then 1 else M i j) else M i j
structure GkS where
  B : Nat → Nat → Rat
  s : Nat → Nat
  M : Nat → Nat → Rat
def gkS (n k : Nat) (S : GkS) : GkS :=
  ⟨redA (swpM S.B (pvt S.B n k) k) k, swS S.s (pvt S.B n k) k, mulS (swpM S.M (pvt S.B n k) k) (swpM S.B (pvt S.B n k) k) k⟩
def gk (n : Nat) (A : Nat → Nat → Rat) (k : Nat) : GkS := iter (gkS n) k ⟨A, id, fun _ _ => 0⟩
/-- What the step k begins with, its rows exchanged. -/
def gkP (n : Nat) (A : Nat → Nat → Rat) (k : Nat) : Nat → Nat → Rat := swpM (gk n A k).B (pvt (gk n A k).B n k) k
def gpiv (n : Nat) (A : Nat → Nat → Rat) (k : Nat) : Rat := gkP n A k k k
theorem gk_succ {n : Nat} {A : Nat → Nat → Rat} {k : Nat} : gk n A (k + 1) = ⟨redA (gkP n A k) k, swS (gk n A k).s (pvt (gk n A k).B n k) k, mulS (swpM (gk n A k).M (pvt (gk n A k).B n k) k) (gkP n A k) k⟩ := rfl
theorem gpiv_eq {n : Nat} {A : Nat → Nat → Rat} {k : Nat} : gpiv n A k = (gk n A k).B (pvt (gk n A k).B n k) k := by unfold gpiv gkP; rw [swpM_r]
theorem swp_lt {p k n i : Nat} (hp : p < n) (hk : k < n) (hi : i < n) : (if i = p then k else if i = k then p else i) < n := by
  split
  · exact hk
  · split
    · exact hp
    · exact hi
theorem swp_ge' {p k i : Nat} (hp : k ≤ p) (hi : k ≤ i) : k ≤ (if i = p then k else if i = k then p else i) := by
  split
  · exact Nat.le_refl _
  · split
    · exact hp
    · exact hi
theorem swp_low {p k i : Nat} (hp : k ≤ p) (hi : i < k) : (if i = p then k else if i = k then p else i) = i := by
  rw [if_neg (by omega), if_neg (by omega)]
theorem swp_swp {p k i : Nat} : (if (if i = p then k else if i = k then p else i) = p then k else if (if i = p then k else if i = k then p else i) = k then p else (if i = p then k else if i = k then p else i)) = i := by
  by_cases e1 : i = p
  · rw [if_pos e1]
    by_cases e2 : k = p
    · rw [if_pos e2]; omega
    · rw [if_neg e2, if_pos rfl]; omega
  · rw [if_neg e1]
    by_cases e2 : i = k
    · rw [if_pos e2, if_pos rfl]; omega
    · rw [if_neg e2, if_neg e1, if_neg e2]
theorem swpM_low {A : Nat → Nat → Rat} {p k i : Nat} (hp : k ≤ p) (hi : i < k) : swpM A p k i = A i := by unfold swpM; rw [swp_low hp hi]
/-- The rows' order is one. -/
theorem gk_perm {n : Nat} {A : Nat → Nat → Rat} : ∀ k, k ≤ n → (∀ i, i < n → (gk n A k).s i < n) ∧ (∀ i j, i < n → j < n → (gk n A k).s i = (gk n A k).s j → i = j) ∧ ∀ r, r < n → ∃ i, i < n ∧ (gk n A k).s i = r := by
  intro k
  induction k with
  | zero => intro _; exact ⟨fun i hi => hi, fun i j _ _ e => e, fun r hr => ⟨r, hr, rfl⟩⟩
  | succ k ih =>
    intro hk
    obtain ⟨h1, h2, h3⟩ := ih (by omega)
    obtain ⟨p1, p2, _⟩ := pvt_spec (B := (gk n A k).B) (n := n) (k := k) (by omega)
    rw [gk_succ]
    refine ⟨fun i hi => h1 _ (swp_lt p2 (by omega) hi), fun i j hi hj e => ?_, fun r hr => ?_⟩
    · have := h2 _ _ (swp_lt p2 (by omega) hi) (swp_lt p2 (by omega) hj) e
      rw [← swp_swp (p := pvt (gk n A k).B n k) (k := k) (i := i), this, swp_swp]
    · obtain ⟨i, hi, e⟩ := h3 r hr
      exact ⟨_, swp_lt p2 (show k < n by omega) hi, by show (gk n A k).s _ = r; rw [swp_swp]; exact e⟩
theorem gk_gt {n : Nat} {A : Nat → Nat → Rat} {k i j : Nat} (h : k < i) : (gk n A (k + 1)).B i j = gkP n A k i j - gkP n A k i k / gkP n A k k k * gkP n A k k j := by rw [gk_succ]; exact if_pos h
theorem gk_le {n : Nat} {A : Nat → Nat → Rat} {k i j : Nat} (h : i ≤ k) : (gk n A (k + 1)).B i j = gkP n A k i j := by rw [gk_succ]; exact if_neg (by omega)
theorem gkP_low {n : Nat} {A : Nat → Nat → Rat} {k i : Nat} (hk : k < n) (h : i < k) : gkP n A k i = (gk n A k).B i := swpM_low (pvt_spec hk).1 h
/-- A row stays behind its own step. -/
theorem gk_row {n : Nat} {A : Nat → Nat → Rat} {i j : Nat} : ∀ d, i + 1 + d ≤ n → (gk n A (i + 1 + d)).B i j = gkP n A i i j := by
  intro d
  induction d with
  | zero => intro _; exact gk_le (Nat.le_refl _)
  | succ d ih =>
    intro h
    rw [← ih (by omega)]
    show (gk n A (i + 1 + d + 1)).B i j = _
    rw [gk_le (by omega), gkP_low (by omega) (by omega)]
theorem gk_row' {n : Nat} {A : Nat → Nat → Rat} {i j k : Nat} (h : i < k) (hk : k ≤ n) : (gk n A k).B i j = gkP n A i i j := by
  obtain ⟨d, rfl⟩ : ∃ d, k = i + 1 + d := ⟨k - (i + 1), by omega⟩
  exact gk_row d hk
/-- The triangles. -/
def gL (n : Nat) (A : Nat → Nat → Rat) : Nat → Nat → Rat := (gk n A n).M
def gU (n : Nat) (A : Nat → Nat → Rat) : Nat → Nat → Rat := (gk n A n).B
def gO (n : Nat) (A : Nat → Nat → Rat) : Nat → Nat := (gk n A n).s
theorem gU_diag {n : Nat} {A : Nat → Nat → Rat} {i : Nat} (hi : i < n) : gU n A i i = gpiv n A i := gk_row' hi (Nat.le_refl _)
/-- The multiples so far: none above the corner or ahead of its step; ones at the corner. -/
theorem gM_spec {n : Nat} {A : Nat → Nat → Rat} : ∀ k, k ≤ n → ∀ i j, i < n → (k ≤ j → (gk n A k).M i j = 0) ∧ (i < j → (gk n A k).M i j = 0) ∧ (i = j → j < k → (gk n A k).M i j = 1) := by
  intro k
  induction k with
  | zero => intro _ i j _; exact ⟨fun _ => rfl, fun _ => rfl, fun _ h => absurd h (Nat.not_lt_zero _)⟩
  | succ k ih =>
    intro hk i j hi
    have ih := ih (by omega)
    obtain ⟨p1, p2, _⟩ := pvt_spec (B := (gk n A k).B) (n := n) (k := k) (by omega)
    rw [gk_succ]
    have sw : k ≤ j → swpM (gk n A k).M (pvt (gk n A k).B n k) k i j = 0 := fun h => (ih _ j (swp_lt p2 (by omega) hi)).1 h
    show (_ → mulS _ _ k i j = 0) ∧ (_ → mulS _ _ k i j = 0) ∧ (_ → _ → mulS _ _ k i j = 1)
    unfold mulS
    refine ⟨fun h => ?_, fun h => ?_, fun h1 h2 => ?_⟩
    · rw [if_neg (by omega)]; exact sw (by omega)
    · by_cases e : j = k
      · rw [if_pos e, if_neg (by omega), if_neg (by omega)]; exact sw (by omega)
      · rw [if_neg e]
        by_cases c : k ≤ j
        · exact sw c
        · rw [swpM_low p1 (by omega)]; exact (ih i j hi).2.1 h
    · by_cases e : j = k
      · rw [if_pos e, if_neg (by omega), if_pos (by omega)]
      · rw [if_neg e, swpM_low p1 (by omega)]; exact (ih i j hi).2.2 h1 (by omega)
theorem gL_diag {n : Nat} {A : Nat → Nat → Rat} {i : Nat} (hi : i < n) : gL n A i i = 1 := (gM_spec n (Nat.le_refl _) i i hi).2.2 rfl hi
theorem gL_up {n : Nat} {A : Nat → Nat → Rat} {i j : Nat} (hi : i < n) (h : i < j) : gL n A i j = 0 := (gM_spec n (Nat.le_refl _) i j hi).2.1 h
end Go.Proofs.Ytjfcphohgicolaa

namespace Go.Proofs.Ytjfcphohgicolaa
set_option linter.unusedVariables false
def mxN (f : Nat → Rat) : Nat → Rat → Rat
  | 0, g => g
  | c + 1, g => if mxN f c g < (f c).abs then (f c).abs else mxN f c g
/-- The greatest size, of so many rows from one on. -/
def mxR (B : Nat → Nat → Rat) (n k : Nat) : Nat → Rat → Rat
  | 0, g => g
  | d + 1, g => mxN (B (k + d)) n (mxR B n k d g)
theorem mxN_ge {f : Nat → Rat} {g : Rat} : ∀ c, g ≤ mxN f c g ∧ ∀ j, j < c → (f j).abs ≤ mxN f c g := by
  intro c
  induction c with
  | zero => exact ⟨Rat.le_refl, fun j h => absurd h (Nat.not_lt_zero _)⟩
  | succ c ih =>
    obtain ⟨h1, h2⟩ := ih
    simp only [mxN]
    by_cases e : mxN f c g < (f c).abs
    · rw [if_pos e]
      refine ⟨by grind, fun j hj => ?_⟩
      by_cases ej : j = c
      · rw [ej]; exact Rat.le_refl
      · have := h2 j (by omega); grind
    · rw [if_neg e]
      refine ⟨h1, fun j hj => ?_⟩
      by_cases ej : j = c
      · rw [ej]; grind
      · exact h2 j (by omega)
theorem mxR_ge {B : Nat → Nat → Rat} {n k : Nat} {g : Rat} : ∀ d, g ≤ mxR B n k d g ∧ ∀ i j, k ≤ i → i < k + d → j < n → (B i j).abs ≤ mxR B n k d g := by
  intro d
  induction d with
  | zero => exact ⟨Rat.le_refl, fun i j h1 h2 => by omega⟩
  | succ d ih =>
    obtain ⟨h1, h2⟩ := ih
    obtain ⟨q1, q2⟩ := mxN_ge (f := B (k + d)) (g := mxR B n k d g) n
    simp only [mxR]
    refine ⟨by grind, fun i j e1 e2 e3 => ?_⟩
    by_cases e : i = k + d
    · rw [e]; exact q2 j e3
    · have := h2 i j e1 (by omega) e3; grind
/-- The greatest size so far, as the steps come. -/
def ggr (n : Nat) (A : Nat → Nat → Rat) : Nat → Rat
  | 0 => mxR A n 0 n 0
  | k + 1 => mxR (gk n A k).B n k (n - k) (ggr n A k)
theorem ggr_pos {n : Nat} {A : Nat → Nat → Rat} (hn : 0 < n) (hp : gpiv n A 0 ≠ 0) : 0 < ggr n A 0 := by
  obtain ⟨p1, p2, _⟩ := pvt_spec (B := (gk n A 0).B) (n := n) (k := 0) hn
  have h := (mxR_ge (B := A) (n := n) (k := 0) (g := 0) n).2 (pvt (gk n A 0).B n 0) 0 (Nat.zero_le _) (by omega) hn
  rw [gpiv_eq] at hp
  have := gabs_pos hp
  show 0 < mxR A n 0 n 0
  have e : (gk n A 0).B (pvt (gk n A 0).B n 0) 0 = A (pvt (gk n A 0).B n 0) 0 := rfl
  rw [e] at this
  grind
end Go.Proofs.Ytjfcphohgicolaa

namespace Go.Proofs.Ytjfcphohgicolaa
open Go
set_option linter.unusedVariables false
set_option linter.unusedSimpArgs false
set_option maxRecDepth 10000
theorem vabs_ok (q : Rat) {k : Nat} (h : Bz q k) (hk : k ≤ 1099511627776) : CallP Try.prog 48 [ratP q] (.p (ratP q.abs)) [] := by
  have := abs_ok q (h.nn hk) (h.nd hk)
  rwa [absP] at this
theorem cmpQ_pos {p q : Rat} : (0 < cmpQ p q) ↔ q < p := by
  unfold cmpQ
  split
  · rename_i h; constructor
    · intro h; omega
    · intro h2; grind
  · rename_i h
    split
    · rename_i e; constructor
      · intro h; omega
      · intro h2; grind
    · rename_i e
      constructor
      · intro _; grind
      · intro _; omega
end Go.Proofs.Ytjfcphohgicolaa

namespace Go.Proofs.Ytjfcphohgicolaa
open Go
set_option linter.unusedVariables false
set_option linter.unusedSimpArgs false
set_option maxRecDepth 10000
theorem kzero_ok : CallP Try.prog 28 [] (.p (ratP 0)) [] := by
  refine callG_of_vc (wr := wr0) Γok mixed Try.func28 (by kernel_rfl) rfl (by kernel_rfl) (le_of_ble rfl) (by simp) ?_
  refine SRet.pure ?_
  rw [ratP_zero]
  exact conv3 ⟨rfl, rfl, rfl⟩ (.p _ (.bool _)) (.p _ (.sl _ _ (fun e he => by simp at he))) (frz1 rfl)
theorem kone_ok : CallP Try.prog 52 [] (.p (ratP 1)) [] := by
  refine callG_of_vc (wr := wr0) Γok mixed Try.func52 (by kernel_rfl) rfl (by kernel_rfl) (le_of_ble rfl) (by simp) ?_
  refine SRet.pure ?_
  rw [ratP_one']
  exact conv3 ⟨rfl, rfl, rfl⟩ (.p _ (.bool _)) (frz1 rfl) (frz1 rfl)
abbrev permP (n : Nat) (s : Nat → Nat) : List PV := fl n fun i => .int .i64 ((s i : Nat) : Int)
abbrev gwA (n : Nat) (q : Rat) : List AV := [.vec (.t 1) 1 0 n, .vec (.t 3) 1 0 n, .map (.t 4), .p (.bool (decide (q.num < 0))), .p (natP q.num.natAbs), .p (natP q.den)]
abbrev gwB (n : Nat) (G : Nat → Nat → Rat) (s : Nat → Nat) (es : List (PV × PV)) (q : Rat) : List Blk := [.box 61 (gwA n q), .rows 24 (plc 2 n n s), .pool 30 3 (plr n n G), .vec 3 1 (permP n s), .map es]
theorem pers_perm {n : Nat} {s : Nat → Nat} : ∀ e ∈ permP n s, ∀ c ∈ e.cells, Pers c := fun e he c hc => by
  obtain ⟨i, _, rfl⟩ := fl_mem he
  simp only [PV.cells, List.mem_singleton] at hc
  subst hc; exact .int _ _
theorem permP_set {n i k : Nat} {s : Nat → Nat} : (permP n s).set i (.int .i64 ((k : Nat) : Int)) = permP n (upd s i k) := by
  rw [fl_set]; exact fl_congr fun j _ => by unfold upd; split <;> rfl
theorem permP_congr {n : Nat} {s s' : Nat → Nat} (h : ∀ i, i < n → s i = s' i) : permP n s = permP n s' := fl_congr fun i hi => by rw [h i hi]
theorem plr_congr {n w : Nat} {G G' : Nat → Nat → Rat} (h : ∀ r j, r < n → j < w → G r j = G' r j) : plr n w G = plr n w G' := fl_congr fun r hr => by rw [lst_congr fun j hj => h r j hr hj]
/-- All of it is handed back. -/
theorem SRet.gw {n : Nat} {G G' : Nat → Nat → Rat} {s s' : Nat → Nat} {es es' : List (PV × PV)} {q q' : Rat} {H : Hp} {av r : AV} (hH : H.take 5 = gwB n G' s' es' q') (hes : ∀ e ∈ es', Pers e.1 ∧ Pers e.2) (hv : Conv [0, 1, 2, 3, 4] H av r) :
    SRet (gwB n G s es q) av H r (gwB n G' s' es' q') := by
  have get : ∀ i, i < 5 → H.getD i .free = (gwB n G' s' es' q').getD i .free := fun i hi => by
    rw [← hH]; simp [List.getD, List.getElem?_take_of_lt hi]
  have g0 : H.getD 0 .free = .box 61 (gwA n q') := get 0 (by decide)
  have g1 : H.getD 1 .free = .rows 24 (plc 2 n n s') := get 1 (by decide)
  have g2 : H.getD 2 .free = .pool 30 3 (plr n n G') := get 2 (by decide)
  have g3 : H.getD 3 .free = .vec 3 1 (permP n s') := get 3 (by decide)
  have g4 : H.getD 4 .free = .map es' := get 4 (by decide)
  have key : ∀ h : Hd, look (gwB n G s es q) h ≠ .free → (look H h).live ∨ (h = .t 2 ∧ look H h ≠ .free) := fun h hh => by
    have hk := look_lt hh
    have hk : h.key < 5 := hk
    cases h with
    | t i =>
      simp only [look]
      have hk : i < 5 := hk
      match i, hk with
      | 0, _ => rw [g0]; exact .inl trivial
      | 1, _ => rw [g1]; exact .inl trivial
      | 2, _ => rw [g2]; exact .inr ⟨rfl, fun e => by cases e⟩
      | 3, _ => rw [g3]; exact .inl trivial
      | 4, _ => rw [g4]; exact .inl trivial
    | r i k =>
      have hk : i < 5 := hk
      match i, hk with
      | 0, _ => exact absurd rfl hh
      | 1, _ => exact absurd rfl hh
      | 3, _ => exact absurd rfl hh
      | 4, _ => exact absurd rfl hh
      | 2, _ =>
        have hkn : k < n := by
          apply Classical.byContradiction
          intro hkn
          refine hh ?_
          show (Blk.pool 30 3 (plr n n G)).row k = .free
          simp only [Blk.row]
          rw [List.getElem?_eq_none (by simp; omega)]
        left
        simp only [look]
        rw [g2]
        simp only [Blk.row]
        rw [fl_get hkn]; trivial
  refine .mk [0, 1, 2, 3, 4] rfl (by decide) rfl (Nat.le_refl _) (fun h hh => ?_) (fun h hh => ?_) (fun i h B e1 e2 => ?_) hv
  · rcases key h (Blk.live_ne hh) with h1 | ⟨rfl, _⟩
    · exact h1
    · exact hh.elim
  · rcases key h hh with h1 | ⟨_, h1⟩
    · exact Blk.live_ne h1
    · exact h1
  · match i, e1, e2 with
    | 0, e1, e2 =>
      cases e1; cases e2; rw [g0]
      refine .box (fun d hd => by simp only [gwA, List.mem_cons, List.not_mem_nil, or_false] at hd; rcases hd with rfl | rfl | rfl | rfl | rfl | rfl <;> rfl) rfl fun b c d e1 e2 => ?_
      match b, e1, e2 with
      | 0, e1, e2 => cases e1; cases e2; exact .vec rfl
      | 1, e1, e2 => cases e1; cases e2; exact .vec rfl
      | 2, e1, e2 => cases e1; cases e2; exact .map rfl
      | 3, e1, e2 => cases e1; cases e2; exact .p _ (.bool _)
      | 4, e1, e2 => cases e1; cases e2; exact .p _ (.sl _ _ (pers_limbs _))
      | 5, e1, e2 => cases e1; cases e2; exact .p _ (.sl _ _ (pers_limbs _))
    | 1, e1, e2 =>
      cases e1; cases e2; rw [g1]
      refine .rows (fun d hd => by obtain ⟨i, _, rfl⟩ := fl_mem hd; rfl) rfl fun b c d e1 e2 => ?_
      obtain ⟨hb, rfl⟩ := fl_get_iff.1 e1
      obtain ⟨_, rfl⟩ := fl_get_iff.1 e2
      exact .vecr rfl
    | 2, e1, e2 =>
      cases e1; cases e2; rw [g2]
      exact .pool fun k es hk => by
        obtain ⟨_, h⟩ := fl_get_iff.1 hk
        cases h; exact pers_rats _
    | 3, e1, e2 => cases e1; cases e2; rw [g3]; exact .vec pers_perm
    | 4, e1, e2 => cases e1; cases e2; rw [g4]; exact .map hes
theorem plc_id {ρ : Hd → Hd} {p c n : Nat} {s : Nat → Nat} (h : ∀ k, ρ (.r p k) = .r p k) : AV.renL ρ (plc p c n s) = plc p c n s := by
  rw [renL_fl]; exact fl_congr fun i _ => by simp only [AV.ren, h]
/-- A call that works on it. -/
theorem SCall.gw {P : Program} {f : FuncId} {L : Hd → Blk} {base n k : Nat} {K : AV → List (Hd × Blk) → Prop} {G G' : Nat → Nat → Rat} {s s' : Nat → Nat} {es es' : List (PV × PV)} {q q' : Rat} {r : AV}
    (hc : CallG P f [.bptr 0 0, .p (.int .i64 (k : Int))] (gwB n G s es q) r (gwB n G' s' es' q')) (hr : ∀ ρ, r.ren ρ = r) (hb : 5 ≤ base)
    (e0 : L (.t 0) = .box 61 (gwA n q) ∧ ∀ k, L (.r 0 k) = .free) (e1 : L (.t 1) = .rows 24 (plc 2 n n s) ∧ ∀ k, L (.r 1 k) = .free) (e2 : L (.t 2) = .dead ∧ ∀ k, L (.r 2 k) = (Blk.pool 30 3 (plr n n G)).row k)
    (e3 : L (.t 3) = .vec 3 1 (permP n s) ∧ ∀ k, L (.r 3 k) = .free) (e4 : L (.t 4) = .map es ∧ ∀ k, L (.r 4 k) = .free)
    (hk : K r [(.t 0, .box 61 (gwA n q')), (.t 1, .rows 24 (plc 2 n n s')), (.t 2, .pool 30 3 (plr n n G')), (.t 3, .vec 3 1 (permP n s')), (.t 4, .map es')]) {raw : List AV} :
    SCall P true f raw [.bptr 0 0, .p (.int .i64 (k : Int))] L base K := by
  have hρ : ∀ k, renOf [0, 1, 2, 3, 4] base (.r 2 k) = .r 2 k := fun k => rfl
  refine .mk [0, 1, 2, 3, 4] [.bptr 0 0, .p (.int .i64 (k : Int))] r (gwB n G s es q) (gwB n G' s' es' q') (fun e => by cases e) (by decide) (fun h hh => by simp only [List.mem_cons, List.not_mem_nil, or_false] at hh; omega) rfl rfl (fun i h B g1 g2 => ?_)
    (fun B hB => by simp only [gwB, List.mem_cons, List.not_mem_nil, or_false] at hB; rcases hB with rfl | rfl | rfl | rfl | rfl <;> exact ⟨fun e => by (cases e), fun e => by (cases e)⟩)
    (fun B hB k hk => ?_) (Nat.le_refl _) (fun B hB => by simp only [gwB, List.mem_cons, List.not_mem_nil, or_false] at hB; rcases hB with rfl | rfl | rfl | rfl | rfl <;> exact fun e => by (cases e))
    (fun a ha k hk => by
      simp only [List.mem_cons, List.not_mem_nil, or_false] at ha
      rcases ha with rfl | rfl
      · simp only [AV.men] at hk; subst hk; decide
      · simp only [AV.men] at hk) hc ?_
  · match i, g1, g2 with
    | 0, g1, g2 => cases g1; cases g2; exact e0
    | 1, g1, g2 =>
      cases g1; cases g2
      refine ⟨?_, e1.2⟩
      show _ = Blk.rows _ (AV.renL _ _)
      rw [plc_id hρ]; exact e1.1
    | 2, g1, g2 => cases g1; cases g2; exact e2
    | 3, g1, g2 => cases g1; cases g2; exact e3
    | 4, g1, g2 => cases g1; cases g2; exact e4
  · simp only [gwB, List.mem_cons, List.not_mem_nil, or_false] at hB
    rcases hB with rfl | rfl | rfl | rfl | rfl
    · simp only [Blk.men, gwA, AV.menL, AV.men, or_false, false_or] at hk
      rcases hk with rfl | rfl | rfl <;> decide
    · simp only [Blk.men, AV.menL_iff] at hk
      obtain ⟨c, hc, hk⟩ := hk
      obtain ⟨i, _, rfl⟩ := fl_mem hc
      simp only [AV.men] at hk
      subst hk; exact (by decide : 2 < 5)
    · exact hk.elim
    · exact hk.elim
    · exact hk.elim
  · rw [hr]
    show K r [_, (_, Blk.rows _ (AV.renL _ _)), _, _, _]
    rw [plc_id hρ]
    exact hk
theorem plr_in {n w r : Nat} {G : Nat → Nat → Rat} (h : r < n) : r < (plr n w G).length := by simpa using h
theorem mxN_bz {f : Nat → Rat} {g : Rat} {D : Nat} (hg : Bz g D) : ∀ c, (∀ j, j < c → Bz (f j) D) → Bz (mxN f c g) D := by
  intro c
  induction c with
  | zero => exact fun _ => hg
  | succ c ih =>
    intro h
    simp only [mxN]
    split
    · exact (h c (by omega)).abs
    · exact ih fun j hj => h j (by omega)
theorem mxR_bz {B : Nat → Nat → Rat} {n k : Nat} {g : Rat} {D : Nat} (hg : Bz g D) : ∀ d, (∀ i j, k ≤ i → i < k + d → j < n → Bz (B i j) D) → Bz (mxR B n k d g) D := by
  intro d
  induction d with
  | zero => exact fun _ => hg
  | succ d ih =>
    intro h
    simp only [mxR]
    exact mxN_bz (ih fun i j h1 h2 h3 => h i j h1 (by omega) h3) n fun j hj => h (k + d) j (by omega) (by omega) hj
theorem glook_ok (n k : Nat) (G B : Nat → Nat → Rat) (s : Nat → Nat) (es : List (PV × PV)) (q : Rat) {D : Nat} (hk : k ≤ n) (hn : n ≤ 1000) (hs : ∀ i, i < n → s i < n) (hG : ∀ i j, i < n → j < n → G (s i) j = B i j)
    (hB : ∀ i j, i < n → j < n → Bz (B i j) D) (hq : Bz q D) (hD : D + D ≤ 1000000) (hes : ∀ e ∈ es, Pers e.1 ∧ Pers e.2) :
    CallG Try.prog 29 [.bptr 0 0, .p (.int .i64 (k : Int))] (gwB n G s es q) (.tup []) (gwB n G s es (mxR B n k (n - k) q)) := by
  refine callG_of_vc (wr := wr0) Γok mixed Try.func29 (by kernel_rfl) rfl (by kernel_rfl) (le_of_ble rfl) (by simp) ?_
  refine SCut.mk k n rfl rfl hk (Nat.le_refl _) ?_
  refine SZ.mk ((n - k : Nat) : Int) rfl ?_
  refine SLoop.mk Nat (fun d => ([(0, .bptr 0 0), (13, .vec 1 1 (0 + k) (n - k)), (14, .p (.int .i64 ((n - k : Nat) : Int))), (15, .p (.int .i64 (d : Nat)))], gwB n G s es (mxR B n k d q)))
    (fun d => d ≤ n - k) (fun d => n - k - d) 0 [0, 1, 2, 3, 4] (Nat.zero_le _) ⟨rfl, by simp, rfl, rfl, rfl, ⟨rfl, rfl, rfl, rfl, trivial⟩, ⟨rfl, congrArg _ (plc_ren 2 rfl (by decide)), rfl, rfl, rfl, rows_in fun q hq => by simpa [plenAt] using hs q hq, by simp, trivial⟩⟩ ?_
  intro d hd
  have hd : d ≤ n - k := hd
  by_cases hdn : d < n - k
  · refine SCmp.yes (decide_eq_true (by omega)) ?_
    refine SPos.mk d rfl hdn ?_
    refine SIdxA.plc (k + d) (by omega) (by omega) ?_
    refine SZ.mk (n : Int) rfl ?_
    have zr : Bz (mxR B n k d q) D := mxR_bz hq d fun i j h1 h2 h3 => hB i j (by omega) h3
    refine SLoop.mk Nat (fun c => ([(0, .bptr 0 0), (13, .vec 1 1 (0 + k) (n - k)), (14, .p (.int .i64 ((n - k : Nat) : Int))), (15, .p (.int .i64 (d : Nat))), (19, .vec (.r 2 (s (k + d))) 3 0 n), (20, .p (.int .i64 n)), (21, .p (.int .i64 (c : Nat)))], gwB n G s es (mxN (B (k + d)) c (mxR B n k d q))))
      (fun c => c ≤ n) (fun c => n - c) 0 [0, 1, 2, 3, 4] (Nat.zero_le _) ⟨rfl, by simp, rfl, rfl, rfl, ⟨rfl, rfl, rfl, rfl, rfl, rfl, rfl, trivial⟩, ⟨rfl, congrArg _ (plc_ren 2 rfl (by decide)), rfl, rfl, rfl, plr_in (hs _ (show k + d < n by omega)), rows_in fun q hq => by simpa [plenAt] using hs q hq, by simp, trivial⟩⟩ ?_
    intro c hc
    have hc : c ≤ n := hc
    by_cases hcn : c < n
    · refine SCmp.yes (decide_eq_true (by omega)) ?_
      have zc := hB (k + d) c (by omega) hcn
      have zm : Bz (mxN (B (k + d)) c (mxR B n k d q)) D := mxN_bz zr c fun j hj => hB (k + d) j (by omega) (by omega)
      refine SPos.mk c rfl hcn ?_
      refine SRow.plr (hs _ (by omega)) ?_
      refine SIdx.rv (c + 0) (B (k + d) c) rfl (by omega) (hG _ _ (by omega) hcn) ?_
      by_cases hgt : mxN (B (k + d)) c (mxR B n k d q) < (B (k + d) c).abs
      · have e : mxN (B (k + d)) (c + 1) (mxR B n k d q) = (B (k + d) c).abs := if_pos hgt
        refine SDraw.mk (by kernel_rfl) ?_
        repeat refine SOp.mk _ _ (And.intro rfl rfl) rfl ?_
        refine SOp.mk _ _ (SCall.pure (vabs_ok (B (k + d) c) zc (by omega)) (And.intro rfl rfl)) rfl ?_
        repeat refine SOp.mk _ _ (And.intro rfl rfl) rfl ?_
        refine SOp.mk _ _ (SCall.pure (ratcmp_ok _ _ zc.abs.sz zm.sz (by omega)) (And.intro rfl rfl)) rfl ?_
        refine SOp.mk _ _ (SCmp.yes (decide_eq_true (cmpQ_pos.2 hgt)) (And.intro rfl rfl)) rfl ?_
        refine SCall.pure (vabs_ok (B (k + d) c) zc (by omega)) ?_
        refine SWrap.i64z ((c + 1 : Nat) : Int) (by omega) (by omega) ?_
        exact ⟨c + 1, [0, 1, 2, 3, 4], hcn, by show n - (c + 1) < n - c; omega, ⟨rfl, by simp, rfl, rfl, rfl, ⟨rfl, rfl, rfl, rfl, rfl, rfl, rfl, trivial⟩, ⟨by rw [e]; rfl, congrArg _ (plc_ren 2 rfl (by decide)), rfl, rfl, rfl, plr_in (hs _ (show k + d < n by omega)), rows_in fun q hq => by simpa [plenAt] using hs q hq, by simp, trivial⟩⟩⟩
      · have e : mxN (B (k + d)) (c + 1) (mxR B n k d q) = mxN (B (k + d)) c (mxR B n k d q) := if_neg hgt
        refine SDraw.mk (by kernel_rfl) ?_
        repeat refine SOp.mk _ _ (And.intro rfl rfl) rfl ?_
        refine SOp.mk _ _ (SCall.pure (vabs_ok (B (k + d) c) zc (by omega)) (And.intro rfl rfl)) rfl ?_
        repeat refine SOp.mk _ _ (And.intro rfl rfl) rfl ?_
        refine SOp.mk _ _ (SCall.pure (ratcmp_ok _ _ zc.abs.sz zm.sz (by omega)) (And.intro rfl rfl)) rfl ?_
        refine SOp.mk _ _ (SCmp.no (decide_eq_false (mt cmpQ_pos.1 hgt)) (And.intro rfl rfl)) rfl ?_
        refine SWrap.i64z ((c + 1 : Nat) : Int) (by omega) (by omega) ?_
        exact ⟨c + 1, [0, 1, 2, 3, 4], hcn, by show n - (c + 1) < n - c; omega, ⟨rfl, by simp, rfl, rfl, rfl, ⟨rfl, rfl, rfl, rfl, rfl, rfl, rfl, trivial⟩, ⟨by rw [e]; rfl, congrArg _ (plc_ren 2 rfl (by decide)), rfl, rfl, rfl, plr_in (hs _ (show k + d < n by omega)), rows_in fun q hq => by simpa [plenAt] using hs q hq, by simp, trivial⟩⟩⟩
    · refine SCmp.no (decide_eq_false (by omega)) ?_
      obtain rfl : c = n := by omega
      refine SWrap.i64z ((d + 1 : Nat) : Int) (by omega) (by omega) ?_
      exact ⟨d + 1, [0, 1, 2, 3, 4], hdn, by show c - k - (d + 1) < c - k - d; omega, ⟨rfl, by simp, rfl, rfl, rfl, ⟨rfl, rfl, rfl, rfl, trivial⟩, ⟨rfl, congrArg _ (plc_ren 2 rfl (by decide)), rfl, rfl, rfl, rows_in fun q hq => by simpa [plenAt] using hs q hq, by simp, trivial⟩⟩⟩
  · refine SCmp.no (decide_eq_false (by omega)) ?_
    obtain rfl : d = n - k := by omega
    exact SRet.gw rfl hes (.tup rfl fun i c d e => by simp at e)
end Go.Proofs.Ytjfcphohgicolaa

namespace Go.Proofs.Ytjfcphohgicolaa
open Go
set_option linter.unusedVariables false
set_option linter.unusedSimpArgs false
set_option maxRecDepth 10000
theorem upd_swS {s : Nat → Nat} {p k : Nat} : upd (upd s k (s p)) p (s k) = swS s p k := by
  funext i
  unfold upd swS
  by_cases e : i = p
  · rw [if_pos e, if_pos e]
  · rw [if_neg e, if_neg e]
    by_cases e2 : i = k
    · rw [if_pos e2, if_pos e2]
    · rw [if_neg e2, if_neg e2]
theorem swS_lt {s : Nat → Nat} {n p k : Nat} (hs : ∀ i, i < n → s i < n) (hp : p < n) (hk : k < n) : ∀ i, i < n → swS s p k i < n := fun i hi => hs _ (swp_lt hp hk hi)
theorem SIdx.perm {n : Nat} {s : Nat → Nat} {i : Int} {K : Nat → PV → Prop} (j : Nat) (hi : i = j) (hj : j < n) (hk : K j (.int .i64 ((s j : Nat) : Int))) : SIdx (permP n s) i K := .mk j _ hi (fl_get hj) hk
theorem SLt.perm {n i : Nat} {s : Nat → Nat} {K : Prop} (h : i < n) (hk : K) : SLt i (permP n s).length K := .mk (by simpa using h) hk
theorem SEs.perm {n i k : Nat} {s : Nat → Nat} {K : List PV → Prop} (hk : K (permP n (upd s i k))) : SEs ((permP n s).set i (.int .i64 ((k : Nat) : Int))) K := .mk _ permP_set hk
theorem gpick_ok (n k : Nat) (G B : Nat → Nat → Rat) (s : Nat → Nat) (es : List (PV × PV)) (q : Rat) (b : Bool) {D : Nat} (hk : k < n) (hn : n ≤ 1000) (hs : ∀ i, i < n → s i < n) (hG : ∀ i j, i < n → j < n → G (s i) j = B i j)
    (hB : ∀ i j, i < n → j < n → Bz (B i j) D) (hD : D + D ≤ 1000000) (hes : ∀ e ∈ es, Pers e.1 ∧ Pers e.2) (hb : b = decide (B (pvt B n k) k ≠ 0)) :
    CallG Try.prog 30 [.bptr 0 0, .p (.int .i64 (k : Int))] (gwB n G s es q) (.p (.bool b)) (gwB n G (swS s (pvt B n k) k) es q) := by
  obtain ⟨p1, p2, _⟩ := pvt_spec (B := B) hk
  refine callG_of_vc (wr := wr0) Γok mixed Try.func30 (by kernel_rfl) rfl (by kernel_rfl) (le_of_ble rfl) (by simp) ?_
  refine SWrap.i64z ((k + 1 + 0 : Nat) : Int) (by omega) (by omega) ?_
  refine SLoop.mk Nat (fun d => ([(0, .bptr 0 0), (1, .p (.int .i64 k)), (5, .p (.int .i64 (patG B k d : Nat))), (6, .p (.int .i64 ((k + 1 + d : Nat) : Int)))], gwB n G s es q))
    (fun d => k + 1 + d ≤ n) (fun d => n - d) 0 [0, 1, 2, 3, 4] (by show k + 1 + 0 ≤ n; omega) ⟨rfl, by simp, rfl, rfl, rfl, ⟨rfl, rfl, rfl, rfl, trivial⟩, ⟨rfl, congrArg _ (plc_ren 2 rfl (by decide)), rfl, rfl, rfl, rows_in fun q hq => by simpa [plenAt] using hs q hq, by simp, trivial⟩⟩ ?_
  intro d hd
  have hd : k + 1 + d ≤ n := hd
  obtain ⟨a1, a2, _⟩ := patG_spec (B := B) (k := k) d
  refine SZ.mk (n : Int) rfl ?_
  by_cases hdn : k + 1 + d < n
  · refine SCmp.yes (decide_eq_true (by omega)) ?_
    have z1 := hB (k + 1 + d) k hdn hk
    have z2 := hB (patG B k d) k (by omega) hk
    by_cases hgt : (B (patG B k d) k).abs < (B (k + 1 + d) k).abs
    · have e : patG B k (d + 1) = k + 1 + d := if_pos hgt
      refine SDraw.mk (by kernel_rfl) ?_
      repeat refine SOp.mk _ _ (And.intro rfl rfl) rfl ?_
      refine SOp.mk _ _ (SPos.mk (k + 1 + d) rfl hdn (And.intro rfl rfl)) rfl ?_
      refine SOp.mk _ _ (SIdxA.plc (k + 1 + d + 0) rfl (by omega) (And.intro rfl rfl)) rfl ?_
      repeat refine SOp.mk _ _ (And.intro rfl rfl) rfl ?_
      refine SOp.mk _ _ (SPos.mk k rfl hk (And.intro rfl rfl)) rfl ?_
      refine SOp.mk _ _ (SRow.plr (hs _ (by omega)) <| SIdx.rv (k + 0) (B (k + 1 + d) k) rfl (by omega) (hG _ _ (by omega) hk) (And.intro rfl rfl)) rfl ?_
      refine SOp.mk _ _ (SCall.pure (vabs_ok _ z1 (by omega)) (And.intro rfl rfl)) rfl ?_
      repeat refine SOp.mk _ _ (And.intro rfl rfl) rfl ?_
      refine SOp.mk _ _ (SPos.mk (patG B k d) rfl (by omega) (And.intro rfl rfl)) rfl ?_
      refine SOp.mk _ _ (SIdxA.plc (patG B k d + 0) rfl (by omega) (And.intro rfl rfl)) rfl ?_
      repeat refine SOp.mk _ _ (And.intro rfl rfl) rfl ?_
      refine SOp.mk _ _ (SPos.mk k rfl hk (And.intro rfl rfl)) rfl ?_
      refine SOp.mk _ _ (SRow.plr (hs _ (by omega)) <| SIdx.rv (k + 0) (B (patG B k d) k) rfl (by omega) (hG _ _ (by omega) hk) (And.intro rfl rfl)) rfl ?_
      refine SOp.mk _ _ (SCall.pure (vabs_ok _ z2 (by omega)) (And.intro rfl rfl)) rfl ?_
      refine SOp.mk _ _ (SCall.pure (ratcmp_ok _ _ z1.abs.sz z2.abs.sz (by omega)) (And.intro rfl rfl)) rfl ?_
      refine SOp.mk _ _ (SCmp.yes (decide_eq_true (cmpQ_pos.2 hgt)) (And.intro rfl rfl)) rfl ?_
      refine SWrap.i64z ((k + 1 + (d + 1) : Nat) : Int) (by omega) (by omega) ?_
      exact ⟨d + 1, [0, 1, 2, 3, 4], by show k + 1 + (d + 1) ≤ n; omega, by show n - (d + 1) < n - d; omega, ⟨rfl, by simp, rfl, rfl, rfl, ⟨rfl, rfl, congrArg (fun x : Nat => AV.p (.int .i64 (x : Int))) e, rfl, trivial⟩, ⟨rfl, congrArg _ (plc_ren 2 rfl (by decide)), rfl, rfl, rfl, rows_in fun q hq => by simpa [plenAt] using hs q hq, by simp, trivial⟩⟩⟩
    · have e : patG B k (d + 1) = patG B k d := if_neg hgt
      refine SDraw.mk (by kernel_rfl) ?_
      repeat refine SOp.mk _ _ (And.intro rfl rfl) rfl ?_
      refine SOp.mk _ _ (SPos.mk (k + 1 + d) rfl hdn (And.intro rfl rfl)) rfl ?_
      refine SOp.mk _ _ (SIdxA.plc (k + 1 + d + 0) rfl (by omega) (And.intro rfl rfl)) rfl ?_
      repeat refine SOp.mk _ _ (And.intro rfl rfl) rfl ?_
      refine SOp.mk _ _ (SPos.mk k rfl hk (And.intro rfl rfl)) rfl ?_
      refine SOp.mk _ _ (SRow.plr (hs _ (by omega)) <| SIdx.rv (k + 0) (B (k + 1 + d) k) rfl (by omega) (hG _ _ (by omega) hk) (And.intro rfl rfl)) rfl ?_
      refine SOp.mk _ _ (SCall.pure (vabs_ok _ z1 (by omega)) (And.intro rfl rfl)) rfl ?_
      repeat refine SOp.mk _ _ (And.intro rfl rfl) rfl ?_
      refine SOp.mk _ _ (SPos.mk (patG B k d) rfl (by omega) (And.intro rfl rfl)) rfl ?_
      refine SOp.mk _ _ (SIdxA.plc (patG B k d + 0) rfl (by omega) (And.intro rfl rfl)) rfl ?_
      repeat refine SOp.mk _ _ (And.intro rfl rfl) rfl ?_
      refine SOp.mk _ _ (SPos.mk k rfl hk (And.intro rfl rfl)) rfl ?_
      refine SOp.mk _ _ (SRow.plr (hs _ (by omega)) <| SIdx.rv (k + 0) (B (patG B k d) k) rfl (by omega) (hG _ _ (by omega) hk) (And.intro rfl rfl)) rfl ?_
      refine SOp.mk _ _ (SCall.pure (vabs_ok _ z2 (by omega)) (And.intro rfl rfl)) rfl ?_
      refine SOp.mk _ _ (SCall.pure (ratcmp_ok _ _ z1.abs.sz z2.abs.sz (by omega)) (And.intro rfl rfl)) rfl ?_
      refine SOp.mk _ _ (SCmp.no (decide_eq_false (mt cmpQ_pos.1 hgt)) (And.intro rfl rfl)) rfl ?_
      refine SWrap.i64z ((k + 1 + (d + 1) : Nat) : Int) (by omega) (by omega) ?_
      exact ⟨d + 1, [0, 1, 2, 3, 4], by show k + 1 + (d + 1) ≤ n; omega, by show n - (d + 1) < n - d; omega, ⟨rfl, by simp, rfl, rfl, rfl, ⟨rfl, rfl, congrArg (fun x : Nat => AV.p (.int .i64 (x : Int))) e, rfl, trivial⟩, ⟨rfl, congrArg _ (plc_ren 2 rfl (by decide)), rfl, rfl, rfl, rows_in fun q hq => by simpa [plenAt] using hs q hq, by simp, trivial⟩⟩⟩
  · refine SCmp.no (decide_eq_false (by omega)) ?_
    have e : patG B k d = pvt B n k := by unfold pvt; rw [show n - 1 - k = d by omega]
    rw [e]
    generalize hp : pvt B n k = p at p1 p2 hb ⊢
    have hs' := swS_lt hs p2 hk
    refine SDraw.mkX (by kernel_rfl) ?_
    repeat refine SOp.mk _ _ (And.intro rfl rfl) rfl ?_
    refine SOp.mk _ _ (SPos.mk p rfl p2 (And.intro rfl rfl)) rfl ?_
    refine SOp.mk _ _ (SIdxA.plc (p + 0) rfl p2 (And.intro rfl rfl)) rfl ?_
    repeat refine SOp.mk _ _ (And.intro rfl rfl) rfl ?_
    refine SOp.mk _ _ (SPos.mk k rfl hk (And.intro rfl rfl)) rfl ?_
    refine SOp.mk _ _ (SIdxA.plc (k + 0) rfl hk (And.intro rfl rfl)) rfl ?_
    refine SOp.mk _ _ (SPos.mk k rfl hk (And.intro rfl rfl)) rfl ?_
    refine SOp.mk _ _ (SLt.plc hk <| SAs.plc (And.intro rfl rfl)) rfl ?_
    refine SOp.mk _ _ (SPos.mk p rfl p2 (And.intro rfl rfl)) rfl ?_
    refine SOp.mk _ _ (SLt.plc p2 <| SAs.plc (And.intro rfl rfl)) rfl ?_
    refine SFin.mk (by kernel_rfl) ?_
    refine SDraw.mkX (by kernel_rfl) ?_
    repeat refine SOp.mk _ _ (And.intro rfl rfl) rfl ?_
    refine SOp.mk _ _ (SPos.mk p rfl p2 (And.intro rfl rfl)) rfl ?_
    refine SOp.mk _ _ (SIdx.perm p rfl p2 (And.intro rfl rfl)) rfl ?_
    repeat refine SOp.mk _ _ (And.intro rfl rfl) rfl ?_
    refine SOp.mk _ _ (SPos.mk k rfl hk (And.intro rfl rfl)) rfl ?_
    refine SOp.mk _ _ (SIdx.perm k rfl hk (And.intro rfl rfl)) rfl ?_
    refine SOp.mk _ _ (SPos.mk k rfl hk (And.intro rfl rfl)) rfl ?_
    refine SOp.mk _ _ (SLt.perm hk <| SEs.perm (And.intro rfl rfl)) rfl ?_
    refine SOp.mk _ _ (SPos.mk p rfl p2 (And.intro rfl rfl)) rfl ?_
    refine SOp.mk _ _ (SLt.perm p2 <| SEs.perm (And.intro rfl rfl)) rfl ?_
    refine SFin.mk (by kernel_rfl) ?_
    refine SPos.mk k rfl hk ?_
    refine SIdxA.plc (k + 0) rfl hk ?_
    refine SPos.mk k rfl hk ?_
    have eg : G (upd (upd s k (s p)) p (s k) k) k = B p k := by
      rw [upd_swS]
      show G (s (if k = p then k else if k = k then p else k)) k = _
      by_cases c : k = p
      · rw [if_pos c, hG k k hk hk, c]
      · rw [if_neg c, if_pos rfl, hG p k p2 hk]
    have el : upd (upd s k (s p)) p (s k) k < n := by rw [upd_swS]; exact hs' k hk
    refine SRow.plr el ?_
    refine SIdx.rv (k + 0) (B p k) rfl hk eg ?_
    refine SZ.mk (nlen (B p k).num.natAbs : Int) (by simp) ?_
    by_cases hz : B p k = 0
    · refine SCmp.no (decide_eq_false (by rw [nlen0 hz]; decide)) ?_
      have hb : b = false := by rw [hb]; exact decide_eq_false (fun h => h hz)
      subst hb
      rw [← upd_swS]
      exact SRet.gw rfl hes (.tf _)
    · refine SCmp.yes (decide_eq_true (by have := nlen1 hz; omega)) ?_
      have hb : b = true := by rw [hb]; exact decide_eq_true hz
      subst hb
      rw [← upd_swS]
      exact SRet.gw rfl hes (.tf _)
end Go.Proofs.Ytjfcphohgicolaa

namespace Go.Proofs.Ytjfcphohgicolaa
open Go
set_option linter.unusedVariables false
set_option linter.unusedSimpArgs false
set_option maxRecDepth 10000
abbrev gtE (s : Nat → Nat) (P : Nat → Nat → Rat) (k d : Nat) : PV × PV := (pairP (s (k + 1 + d)) k, ratP (P (k + 1 + d) k / P k k))
/-- Entries by rows and columns, of columns ahead of one. -/
def KeyB (es : List (PV × PV)) (k : Nat) : Prop := ∀ e ∈ es, ∃ r j v, e = (pairP r j, ratP v) ∧ j < k
theorem KeyB.pers {es : List (PV × PV)} {k : Nat} (h : KeyB es k) : ∀ e ∈ es, Pers e.1 ∧ Pers e.2 := fun e he => by
  obtain ⟨r, j, v, rfl, _⟩ := h e he
  exact ⟨pers_pair _ _, pers_rat _ _ _⟩
theorem KeyB.app {es : List (PV × PV)} {k d : Nat} {s : Nat → Nat} {P : Nat → Nat → Rat} (h : KeyB es k) : KeyB (es ++ fl d (gtE s P k)) (k + 1) := fun e he => by
  rcases List.mem_append.1 he with he | he
  · obtain ⟨r, j, v, e, hj⟩ := h e he
    exact ⟨r, j, v, e, by omega⟩
  · obtain ⟨d, _, rfl⟩ := fl_mem he
    exact ⟨_, _, _, rfl, by omega⟩
theorem SKeys.kb {b : PV → Bool} {es : List (PV × PV)} {k : Nat} {K : Prop} (h : KeyB es k) (hb : ∀ i k : Nat, b (pairP i k) = true) (hK : K) : SKeys b es K :=
  .mk (fun e he => by obtain ⟨r, j, v, rfl, _⟩ := h e he; exact hb _ _) hK
theorem SPut.kb {es : List (PV × PV)} {n k d i : Nat} {s : Nat → Nat} {P : Nat → Nat → Rat} {v : PV} {K : List (PV × PV) → Prop} (h : KeyB es k) (inj : ∀ i j, i < n → j < n → s i = s j → i = j) (hi : i = k + 1 + d) (hd : i < n) (hv : v = ratP (P i k / P k k))
    (hK : K (es ++ fl (d + 1) (gtE s P k))) : SPut (es ++ fl d (gtE s P k)) (pairP (s i) k) v K := by
  subst hv; subst hi
  refine .new _ (fun e he => ?_) (by rw [List.append_assoc, fl_snoc]) hK
  rcases List.mem_append.1 he with he | he
  · obtain ⟨r, j, v, rfl, hj⟩ := h e he
    rw [keq_pair]; exact decide_eq_false fun h => by omega
  · obtain ⟨d', hd', rfl⟩ := fl_mem he
    rw [keq_pair]; exact decide_eq_false fun ⟨h, _⟩ => by have := inj _ _ hd (by omega) h; omega
set_option maxHeartbeats 1000000 in
theorem gclean_ok (n k : Nat) (G P : Nat → Nat → Rat) (s si : Nat → Nat) (es : List (PV × PV)) (q : Rat) {D : Nat} (hk : k < n) (hn : n ≤ 1000) (hs : ∀ i, i < n → s i < n) (inj : ∀ i j, i < n → j < n → s i = s j → i = j)
    (hsi : ∀ r, r < n → si r < n ∧ s (si r) = r) (hG : ∀ i j, i < n → j < n → G (s i) j = P i j) (hP : ∀ i j, i < n → j < n → Bz (P i j) D) (hD : 4 * D + 1 ≤ 1000000) (hp : P k k ≠ 0) (hes : KeyB es k) :
    CallG Try.prog 31 [.bptr 0 0, .p (.int .i64 (k : Int))] (gwB n G s es q) (.tup []) (gwB n (fun r j => redA P k (si r) j) s (es ++ fl (n - 1 - k) (gtE s P k)) q) := by
  refine callG_of_vc (wr := wr0) Γok mixed Try.func31 (by kernel_rfl) rfl (by kernel_rfl) (le_of_ble rfl) (by simp) ?_
  refine SWrap.i64z ((k + 1 : Nat) : Int) (by omega) (by omega) ?_
  refine SLoop.mk (Nat × Nat × (Nat → Nat → Rat)) (fun (i, d, G) => ([(0, .bptr 0 0), (1, .p (.int .i64 k)), (4, .p (.int .i64 (i : Nat)))], gwB n G s (es ++ fl d (gtE s P k)) q))
    (fun (i, d, G) => i = k + 1 + d ∧ i ≤ n ∧ ∀ t c, t < n → c < n → G (s t) c = if t < i then redA P k t c else P t c) (fun x => n - x.1) (k + 1, 0, G) [0, 1, 2, 3, 4]
    ⟨rfl, by omega, fun t c ht hc => by
      rw [hG t c ht hc]
      split
      · unfold redA; rw [if_neg (by omega)]
      · rfl⟩ ⟨rfl, by simp, rfl, rfl, rfl, ⟨rfl, rfl, rfl, trivial⟩, ⟨rfl, congrArg _ (plc_ren 2 rfl (by decide)), rfl, rfl, congrArg Blk.map (List.append_nil _), rows_in fun q hq => by simpa [plenAt] using hs q hq, by simp, trivial⟩⟩ ?_
  intro ⟨i, d, G1⟩ ⟨hi, hd, hG1⟩
  refine SZ.mk (n : Int) rfl ?_
  by_cases hin : i < n
  · refine SCmp.yes (decide_eq_true (by omega)) ?_
    have gi : ∀ c, c < n → G1 (s i) c = P i c := fun c hc => by rw [hG1 i c (by omega) hc, if_neg (by omega)]
    have gk : ∀ c, c < n → G1 (s k) c = P k c := fun c hc => by rw [hG1 k c hk hc, if_pos (by omega)]; unfold redA; rw [if_neg (Nat.lt_irrefl k)]
    have z1 := hP i k hin hk
    have z2 := hP k k hk hk
    have zq := z1.div z2
    have hq := quo_ok (P i k) (P k k) hp z1.sz z2.sz (by omega)
    obtain ⟨Q, hQ⟩ : ∃ Q, Q = P i k / P k k := ⟨_, rfl⟩
    rw [← hQ] at zq hq
    refine SDraw.mkX (by kernel_rfl) ?_
    repeat refine SOp.mk _ _ (And.intro rfl rfl) rfl ?_
    refine SOp.mk _ _ (SPos.mk i rfl hin (And.intro rfl rfl)) rfl ?_
    refine SOp.mk _ _ (SIdxA.plc (i + 0) rfl hin (And.intro rfl rfl)) rfl ?_
    repeat refine SOp.mk _ _ (And.intro rfl rfl) rfl ?_
    refine SOp.mk _ _ (SPos.mk k rfl hk (And.intro rfl rfl)) rfl ?_
    refine SOp.mk _ _ (SRow.plr (hs _ hin) <| SIdx.rv (k + 0) (P i k) rfl hk (gi k hk) (And.intro rfl rfl)) rfl ?_
    repeat refine SOp.mk _ _ (And.intro rfl rfl) rfl ?_
    refine SOp.mk _ _ (SPos.mk k rfl hk (And.intro rfl rfl)) rfl ?_
    refine SOp.mk _ _ (SIdxA.plc (k + 0) rfl hk (And.intro rfl rfl)) rfl ?_
    repeat refine SOp.mk _ _ (And.intro rfl rfl) rfl ?_
    refine SOp.mk _ _ (SPos.mk k rfl hk (And.intro rfl rfl)) rfl ?_
    refine SOp.mk _ _ (SRow.plr (hs _ hk) <| SIdx.rv (k + 0) (P k k) rfl hk (gk k hk) (And.intro rfl rfl)) rfl ?_
    refine SOp.mk _ _ (SCall.pureT (hq) (fun _ => rfl) (And.intro rfl rfl)) rfl ?_
    repeat refine SOp.mk _ _ (And.intro rfl rfl) rfl ?_
    refine SFin.mk (by kernel_rfl) ?_
    refine SDraw.mkX (by kernel_rfl) ?_
    repeat refine SOp.mk _ _ (And.intro rfl rfl) rfl ?_
    refine SOp.mk _ _ (SPos.mk i rfl hin (And.intro rfl rfl)) rfl ?_
    refine SOp.mk _ _ (SIdx.perm (i + 0) rfl hin (And.intro rfl rfl)) rfl ?_
    repeat refine SOp.mk _ _ (And.intro rfl rfl) rfl ?_
    refine SOp.mk _ _ (SKeys.kb hes.app (fun _ _ => rfl) <| SPut.kb (P := P) hes inj hi hin (congrArg ratP hQ) (And.intro rfl rfl)) rfl ?_
    refine SFin.mk (by kernel_rfl) ?_
    refine SPos.mk i rfl hin ?_
    refine SIdxA.plc (i + 0) rfl hin ?_
    refine SZ.mk (n : Int) rfl ?_
    refine SLoop.mk (Nat × (Nat → Nat → Rat)) (fun (c, G) => ([(0, .bptr 0 0), (1, .p (.int .i64 k)), (4, .p (.int .i64 (i : Nat))), (5, .bptr 5 0), (64, .p (.int .i64 n)), (65, .p (.int .i64 (c : Nat)))], gwB n G s (es ++ fl (d + 1) (gtE s P k)) q ++ [.box 30 (bxQ Q)]))
      (fun (c, G) => c ≤ n ∧ ∀ t x, t < n → x < n → G (s t) x = if t = i then (if x < c then redA P k i x else P i x) else G1 (s t) x) (fun x => n - x.1) (0, G1) [0, 1, 2, 3, 4, 5]
      ⟨Nat.zero_le _, fun t x ht hx => by
        by_cases e : t = i
        · rw [if_pos e, if_neg (Nat.not_lt_zero _), e]; exact gi x hx
        · rw [if_neg e]⟩ ⟨rfl, by simp, rfl, rfl, rfl, ⟨rfl, rfl, rfl, rfl, rfl, rfl, trivial⟩, ⟨rfl, congrArg _ (plc_ren 2 rfl (by decide)), rfl, rfl, rfl, rfl, rows_in fun q hq => by simpa [plenAt] using hs q hq, by simp, trivial⟩⟩ ?_
    intro ⟨c, G2⟩ ⟨hc, hG2⟩
    by_cases hcn : c < n
    · refine SCmp.yes (decide_eq_true (by omega)) ?_
      have di : G2 (s i) c = P i c := by rw [hG2 i c hin hcn, if_pos rfl, if_neg (Nat.lt_irrefl c)]
      have dk : G2 (s k) c = P k c := by rw [hG2 k c hk hcn, if_neg (by omega)]; exact gk c hcn
      have z3 := hP i c hin hcn
      have z4 := hP k c hk hcn
      refine SDraw.mkX (by kernel_rfl) ?_
      repeat refine SOp.mk _ _ (And.intro rfl rfl) rfl ?_
      refine SOp.mk _ _ (SPos.mk i rfl hin (And.intro rfl rfl)) rfl ?_
      refine SOp.mk _ _ (SIdxA.plc (i + 0) rfl hin (And.intro rfl rfl)) rfl ?_
      repeat refine SOp.mk _ _ (And.intro rfl rfl) rfl ?_
      refine SOp.mk _ _ (SPos.mk i rfl hin (And.intro rfl rfl)) rfl ?_
      refine SOp.mk _ _ (SIdxA.plc (i + 0) rfl hin (And.intro rfl rfl)) rfl ?_
      repeat refine SOp.mk _ _ (And.intro rfl rfl) rfl ?_
      refine SOp.mk _ _ (SPos.mk c rfl hcn (And.intro rfl rfl)) rfl ?_
      refine SOp.mk _ _ (SRow.plr (hs _ hin) <| SIdx.rv (c + 0) (P i c) rfl hcn di (And.intro rfl rfl)) rfl ?_
      repeat refine SOp.mk _ _ (And.intro rfl rfl) rfl ?_
      refine SOp.mk _ _ (SPos.mk k rfl hk (And.intro rfl rfl)) rfl ?_
      refine SOp.mk _ _ (SIdxA.plc (k + 0) rfl hk (And.intro rfl rfl)) rfl ?_
      repeat refine SOp.mk _ _ (And.intro rfl rfl) rfl ?_
      refine SOp.mk _ _ (SPos.mk c rfl hcn (And.intro rfl rfl)) rfl ?_
      refine SOp.mk _ _ (SRow.plr (hs _ hk) <| SIdx.rv (c + 0) (P k c) rfl hcn dk (And.intro rfl rfl)) rfl ?_
      refine SOp.mk _ _ (SCall.pure (ratmul_ok Q (P k c) zq.sz z4.sz (by omega)) (And.intro rfl rfl)) rfl ?_
      refine SOp.mk _ _ (SCall.pure (ratsub_ok (P i c) (Q * P k c) z3.sz (zq.mul z4).sz (by omega)) (And.intro rfl rfl)) rfl ?_
      refine SOp.mk _ _ (SPos.mk c rfl hcn (And.intro rfl rfl)) rfl ?_
      refine SOp.mk _ _ (SRow.plr (hs _ hin) <| SLt.rf (show c + 0 < n by omega) <| SEs.rf (And.intro rfl rfl)) rfl ?_
      refine SPool.plr (hs _ hin) ?_
      refine SFin.mk (by kernel_rfl) ?_
      refine SWrap.i64z ((c + 1 : Nat) : Int) (by omega) (by omega) ?_
      refine ⟨(c + 1, _), [0, 1, 2, 3, 4, 5], ⟨hcn, ?_⟩, by show n - (c + 1) < n - c; omega, ⟨rfl, by simp, rfl, rfl, rfl, ⟨rfl, rfl, rfl, rfl, rfl, rfl, trivial⟩, ⟨rfl, congrArg _ (plc_ren 2 rfl (by decide)), rfl, rfl, rfl, rfl, rows_in fun q hq => by simpa [plenAt] using hs q hq, by simp, trivial⟩⟩⟩
      exact upd2_step inj hin hcn hG2 (by rw [hQ]; exact (if_pos (by omega)).symm)
    · refine SCmp.no (decide_eq_false (by omega)) ?_
      obtain rfl : c = n := by omega
      refine SWrap.i64z ((i + 1 : Nat) : Int) (by omega) (by omega) ?_
      refine ⟨(i + 1, d + 1, G2), [0, 1, 2, 3, 4], ⟨by omega, hin, fun t x ht hx => ?_⟩, by show c - (i + 1) < c - i; omega, ⟨rfl, by simp, rfl, rfl, rfl, ⟨rfl, rfl, rfl, trivial⟩, ⟨rfl, congrArg _ (plc_ren 2 rfl (by decide)), rfl, rfl, rfl, rows_in fun q hq => by simpa [plenAt] using hs q hq, by simp, trivial⟩⟩⟩
      rw [hG2 t x ht hx]
      by_cases e : t = i
      · rw [if_pos e, if_pos hx, if_pos (by omega), e]
      · rw [if_neg e, hG1 t x ht hx]
        by_cases e2 : t < i
        · rw [if_pos e2, if_pos (by omega)]
        · rw [if_neg e2, if_neg (by omega)]
  · refine SCmp.no (decide_eq_false (by omega)) ?_
    obtain rfl : d = n - 1 - k := by omega
    have e : plr n n G1 = plr n n fun r j => redA P k (si r) j := plr_congr fun r j hr hj => by
      obtain ⟨h1, h2⟩ := hsi r hr
      have := hG1 (si r) j h1 hj
      rw [h2, if_pos (by omega)] at this
      exact this
    exact SRet.gw (congrArg (fun x => [Blk.box 61 (gwA n q), .rows 24 (plc 2 n n s), .pool 30 3 x, .vec 3 1 (permP n s), .map (es ++ fl (n - 1 - k) (gtE s P k))]) e) hes.app.pers (.tup rfl fun i c d e => by simp at e)
end Go.Proofs.Ytjfcphohgicolaa

namespace Go.Proofs.Ytjfcphohgicolaa
open Go
set_option linter.unusedVariables false
set_option linter.unusedSimpArgs false
set_option maxRecDepth 10000
theorem kbelow_ok (i j : Nat) : CallP Try.prog 53 [pairP i j] (.p (.bool (decide (j < i)))) [] := by
  by_cases c : j < i
  · rw [decide_eq_true c]
    refine callG_of_vc (wr := wr0) Γok mixed Try.func53 (by kernel_rfl) rfl (by kernel_rfl) (le_of_ble rfl) (by simp) ?_
    refine SZ.mk (i : Int) (by show (if (j : Int) > i then (j : Int) else i) = i; split <;> omega) ?_
    have h1 : ((i : Int) == (i : Int)) = true := eqT rfl
    have h2 : ((j : Int) == (i : Int)) = false := eqF (by omega)
    refine SCmp.yes (by rw [h1, h2]; rfl) ?_
    refine SCmp.yes (decide_eq_true (by omega)) ?_
    exact SRet.pure (.tf _)
  · rw [decide_eq_false c]
    refine callG_of_vc (wr := wr0) Γok mixed Try.func53 (by kernel_rfl) rfl (by kernel_rfl) (le_of_ble rfl) (by simp) ?_
    refine SZ.mk (j : Int) (by show (if (j : Int) > i then (j : Int) else i) = j; split <;> omega) ?_
    have h1 : ((i : Int) == (i : Int)) = true := eqT rfl
    have h2 : ((j : Int) == (j : Int)) = true := eqT rfl
    refine SCmp.no (by rw [h1, h2]; rfl) ?_
    exact SRet.pure (.tf _)
def gtk (n : Nat) (A : Nat → Nat → Rat) : Nat → List (PV × PV)
  | 0 => []
  | k + 1 => gtk n A k ++ fl (n - 1 - k) (gtE (gk n A (k + 1)).s (gkP n A k) k)
theorem gtk_key {n : Nat} {A : Nat → Nat → Rat} : ∀ k, KeyB (gtk n A k) k := by
  intro k
  induction k with
  | zero => intro e he; simp [gtk] at he
  | succ k ih => exact ih.app
theorem gtk_get {n : Nat} {A : Nat → Nat → Rat} : ∀ k, k ≤ n → ∀ i j, i < n → j < i → j < k → ∃ a : Nat, (gtk n A k)[a]? = some (pairP ((gk n A k).s i) j, ratP ((gk n A k).M i j)) ∧
    ∀ (b : Nat) e', b ≠ a → (gtk n A k)[b]? = some e' → PV.keq (pairP ((gk n A k).s i) j) e'.1 = false := by
  intro k
  induction k with
  | zero => intro _ i j _ _ h; exact absurd h (Nat.not_lt_zero _)
  | succ k ih =>
    intro hk i j hi hji hjk
    obtain ⟨p1, p2, _⟩ := pvt_spec (B := (gk n A k).B) (n := n) (k := k) (by omega)
    obtain ⟨_, inj, _⟩ := gk_perm (n := n) (A := A) (k + 1) hk
    have news : ∀ (b : Nat) e', (fl (n - 1 - k) (gtE (gk n A (k + 1)).s (gkP n A k) k))[b]? = some e' → ∃ d, d = b ∧ k + 1 + d < n ∧ e' = gtE (gk n A (k + 1)).s (gkP n A k) k d := fun b e' he => by
      obtain ⟨hb, rfl⟩ := fl_get_iff.1 he
      exact ⟨b, rfl, by omega, rfl⟩
    simp only [gtk]
    by_cases e : j = k
    · subst e
      have eM : (gk n A (j + 1)).M i j = gkP n A j i j / gkP n A j j j := by rw [gk_succ]; show mulS _ _ j i j = _; unfold mulS; rw [if_pos rfl, if_pos hji]
      refine ⟨(gtk n A j).length + (i - (j + 1)), ?_, fun b e' hb he => ?_⟩
      · rw [List.getElem?_append_right (by omega), show (gtk n A j).length + (i - (j + 1)) - (gtk n A j).length = i - (j + 1) by omega, fl_get (by omega), eM]
        simp only [gtE]
        rw [show j + 1 + (i - (j + 1)) = i by omega]
      · by_cases hl : b < (gtk n A j).length
        · rw [List.getElem?_append_left hl] at he
          obtain ⟨r, j', v, rfl, hj'⟩ := gtk_key j e' (List.mem_of_getElem? he)
          rw [keq_pair]; exact decide_eq_false fun h => by omega
        · rw [List.getElem?_append_right (by omega)] at he
          obtain ⟨d, hd, hdn, rfl⟩ := news _ _ he
          rw [keq_pair]
          exact decide_eq_false fun ⟨h, _⟩ => by have := inj _ _ hi hdn h; omega
    · have hi' := swp_lt p2 (show k < n by omega) hi
      have hji' : j < (if i = pvt (gk n A k).B n k then k else if i = k then pvt (gk n A k).B n k else i) := by
        by_cases c : i < k
        · rw [swp_low p1 c]; exact hji
        · have := swp_ge' p1 (show k ≤ i by omega); omega
      obtain ⟨a, h1, h2⟩ := ih (by omega) _ j hi' hji' (by omega)
      have eS : (gk n A (k + 1)).s i = (gk n A k).s (if i = pvt (gk n A k).B n k then k else if i = k then pvt (gk n A k).B n k else i) := by rw [gk_succ]; rfl
      have eM : (gk n A (k + 1)).M i j = (gk n A k).M (if i = pvt (gk n A k).B n k then k else if i = k then pvt (gk n A k).B n k else i) j := by rw [gk_succ]; exact if_neg e
      have hl := (List.getElem?_eq_some_iff.1 h1).1
      refine ⟨a, by rw [List.getElem?_append_left hl, eS, eM]; exact h1, fun b e' hb he => ?_⟩
      by_cases hl : b < (gtk n A k).length
      · rw [List.getElem?_append_left hl] at he; rw [eS]; exact h2 b e' hb he
      · rw [List.getElem?_append_right (by omega)] at he
        obtain ⟨d, hd, hdn, rfl⟩ := news _ _ he
        rw [keq_pair]; exact decide_eq_false fun h => by omega
/-- What is worked on, lent. -/
abbrev gkPtr (n : Nat) (rows : List PV) (s : Nat → Nat) (es : List (PV × PV)) (q : Rat) : PV := .pel true (.agg [.sl true 1 rows, .sl true 1 (permP n s), .mp true es, .bool (decide (q.num < 0)), natP q.num.natAbs, natP q.den])
theorem glower_ok (n : Nat) (A : Nat → Nat → Rat) (rows : List PV) (q : Rat) {D : Nat} (i j : Nat) (hi : i < n) (hj : j < n) (hz : Bz (gL n A i j) D) (hD : D ≤ 1000000) :
    CallP Try.prog 33 [gkPtr n rows (gO n A) (gtk n A n) q, pairP i j] (.p (ratP (gL n A i j))) [] := by
  by_cases e : i = j
  · subst e
    rw [gL_diag hi]
    refine callG_of_vc (wr := wr0) Γok mixed Try.func33 (by kernel_rfl) rfl (by kernel_rfl) (le_of_ble rfl) (by simp) ?_
    refine SCmp.yes (eqT rfl) ?_
    refine SCall.pure (kone_ok) ?_
    exact SRet.pure (.p _ (pers_rat _ _ _))
  · have hb := kbelow_ok i j
    by_cases c : j < i
    · rw [decide_eq_true c] at hb
      obtain ⟨a, h1, h2⟩ := gtk_get (A := A) n (Nat.le_refl _) i j hi c hj
      refine callG_of_vc (wr := wr0) Γok mixed Try.func33 (by kernel_rfl) rfl (by kernel_rfl) (le_of_ble rfl) (by simp) ?_
      refine SCmp.no (eqF (by omega)) ?_
      refine SCall.pure (hb) ?_
      refine SCond.mk (fun _ => ?_) (fun h => by cases h)
      refine SDraw.mkX (by kernel_rfl) ?_
      repeat refine SOp.mk _ _ (And.intro rfl rfl) rfl ?_
      refine SOp.mk _ _ (SIdx.perm i rfl hi (And.intro rfl rfl)) rfl ?_
      repeat refine SOp.mk _ _ (And.intro rfl rfl) rfl ?_
      refine SOp.mk _ _ (SKeys.kb (gtk_key n) (fun _ _ => rfl) <| SGet.yes a _ h1 (by rw [keq_pair]; exact decide_eq_true ⟨rfl, rfl⟩) h2 (And.intro rfl rfl)) rfl ?_
      refine SOp.mk _ _ (SCall.pure (kzero_ok) (And.intro rfl rfl)) rfl ?_
      refine SOp.mk _ _ (SCall.pure (gcopy_ok hz hD) (And.intro rfl rfl)) rfl ?_
      repeat refine SOp.mk _ _ (And.intro rfl rfl) rfl ?_
      refine SFin.mk (by kernel_rfl) ?_
      exact SRet.pure (.p _ (pers_rat _ _ _))
    · rw [decide_eq_false c] at hb
      rw [gL_up hi (by omega)]
      refine callG_of_vc (wr := wr0) Γok mixed Try.func33 (by kernel_rfl) rfl (by kernel_rfl) (le_of_ble rfl) (by simp) ?_
      refine SCmp.no (eqF (by omega)) ?_
      refine SCall.pure (hb) ?_
      refine SCond.mk (fun h => by cases h) (fun _ => ?_)
      refine SCall.pure (kzero_ok) ?_
      exact SRet.pure (.p _ (pers_rat _ _ _))
abbrev halv (p c n k q c' : Nat) : List AV := fl n fun i => if i < k then .vec (.r p i) 3 0 c else if i = k then .vec (.t q) 3 0 c' else .emp
theorem half_get {p c n k : Nat} (h : k < n) : (half p c n k)[k]? = some .emp := by rw [fl_get h, if_neg (Nat.lt_irrefl k)]
theorem half_setv {p c n k q c' : Nat} : (half p c n k).set k (.vec (.t q) 3 0 c') = halv p c n k q c' := by
  rw [fl_set]
  refine fl_congr fun i _ => ?_
  unfold upd
  by_cases e : i = k
  · rw [if_pos e, if_neg (by omega), if_pos e]
  · rw [if_neg e]
    show (if i < k then AV.vec (.r p i) 3 0 c else .emp) = _
    by_cases e2 : i < k
    · rw [if_pos e2, if_pos e2]
    · rw [if_neg e2, if_neg e2, if_neg e]
theorem halv_get {p c n k q c' : Nat} (h : k < n) : (halv p c n k q c')[k]? = some (.vec (.t q) 3 0 c') := by rw [fl_get h, if_neg (Nat.lt_irrefl k), if_pos rfl]
theorem halv_set {p c n k q c' q2 c2 : Nat} : (halv p c n k q c').set k (.vec (.t q2) 3 0 c2) = halv p c n k q2 c2 := by
  rw [fl_set]
  refine fl_congr fun i _ => ?_
  unfold upd
  by_cases e : i = k
  · rw [if_pos e, if_neg (by omega), if_pos e]
  · rw [if_neg e]
    show (if i < k then AV.vec (.r p i) 3 0 c else if i = k then AV.vec (.t q) 3 0 c' else .emp) = _
    by_cases e2 : i < k
    · rw [if_pos e2, if_pos e2]
    · rw [if_neg e2, if_neg e2, if_neg e, if_neg e]
theorem halv_ren {hs : List Nat} {P : Hp} {p c n k q c' : Nat} (p' q' : Nat) (hp : hs.getD p 0 = p') (hp' : p' < 1000) (hq : hs.getD q 0 = q') (hq' : q' < 1000) : AV.renL (renW hs P) (halv p c n k q c') = halv p' c n k q' c' := by
  rw [renL_fl]
  refine fl_congr fun i hi => ?_
  have eb : Nat.blt p' 1000 = true := blt_iff.2 hp'
  have ec : Nat.blt q' 1000 = true := blt_iff.2 hq'
  by_cases e : i < k
  · rw [if_pos e, if_pos e]; simp only [AV.ren, renW, hp, eb, cond_true]
  · rw [if_neg e, if_neg e]
    by_cases e2 : i = k
    · rw [if_pos e2, if_pos e2]; simp only [AV.ren, renW, hq, ec, cond_true]; rw [show ptop q' = q' from Nat.mod_eq_of_lt hq']
    · rw [if_neg e2, if_neg e2]; simp only [AV.ren]
theorem half_ren {hs : List Nat} {P : Hp} {p c n k : Nat} (p' : Nat) (hp : hs.getD p 0 = p') (hp' : p' < 1000) : AV.renL (renW hs P) (half p c n k) = half p' c n k := by
  rw [renL_fl]
  refine fl_congr fun i hi => ?_
  have eb : Nat.blt p' 1000 = true := blt_iff.2 hp'
  by_cases e : i < k
  · rw [if_pos e, if_pos e]; simp only [AV.ren, renW, hp, eb, cond_true]
  · rw [if_neg e, if_neg e]; simp only [AV.ren]
theorem halv_in {P : Hp} {p c n k q c' : Nat} (h : ∀ i, i < k → i < plenAt P p) (hq : look P (.t q) ≠ .free) : ∀ x ∈ halv p c n k q c', ∀ h, x.men h → look P h ≠ .free := by
  intro x hx g hg
  obtain ⟨i, hi, rfl⟩ := fl_mem hx
  by_cases e : i < k
  · rw [if_pos e] at hg
    simp only [AV.men] at hg
    subst hg
    exact look_row (h i e)
  · rw [if_neg e] at hg
    by_cases e2 : i = k
    · rw [if_pos e2] at hg
      simp only [AV.men] at hg
      subst hg; exact hq
    · rw [if_neg e2] at hg; exact hg.elim
theorem gown_ok (m m' : Bool) (n : Nat) (A : Nat → Nat → Rat) {D : Nat} (n1 : 1 ≤ n) (hn : n ≤ 1000) (hA : ∀ i j, i < n → j < n → Bz (A i j) D) (hD : D ≤ 1000000) :
    CallP Try.prog 32 [matP m m' n n A] (.p (matP false false n n A)) [] := by
  refine callG_of_vc (wr := wr0) Γok mixed Try.func32 (by kernel_rfl) rfl (by kernel_rfl) (le_of_ble rfl) (by simp) ?_
  refine SZ.mk (n : Int) (by simp) ?_
  refine SZ.mk (n : Int) rfl ?_
  refine SLt.mk (by simp) ?_
  refine SMake.mk n rfl (by simp; omega) (by omega) ?_
  refine SMk.rows ?_
  refine SZ.mk (n : Int) (by simp) ?_
  refine SLoop.mkT Nat (fun i => ([(0, .p (matP m m' n n A)), (3, .vec 0 1 0 n), (11, .p (.int .i64 n)), (12, .p (.int .i64 (i : Nat)))], [.rows 24 (half 1 n n i), .pool 30 3 (plr i n A)]))
    (fun i => i ≤ n) (fun i => n - i) 0 [0, 1] _ _ (.pool 30 3 (.done _ _)) (Nat.zero_le _) ⟨rfl, by simp, rfl, rfl, rfl, ⟨rfl, rfl, rfl, rfl, trivial⟩, ⟨congrArg _ half_ren0, rfl, half_in fun i hi => absurd hi (Nat.not_lt_zero _), trivial⟩⟩ ?_
  intro i hi
  have hi : i ≤ n := hi
  by_cases hin : i < n
  · refine SCmp.yes (decide_eq_true (by omega)) ?_
    refine SIdx.mf i rfl hin ?_
    refine SZ.mk (n : Int) (by simp [lst]) ?_
    refine SLoop.mk Nat (fun j => match j with
        | 0 => ([(0, .p (matP m m' n n A)), (3, .vec 0 1 0 n), (4, .p (.int .i64 (i : Nat))), (11, .p (.int .i64 n)), (12, .p (.int .i64 (i : Nat))), (18, .p (ratsM m' (lst n (A i)))), (19, .p (.int .i64 n)), (20, .p (.int .i64 0))], [.rows 24 (half 1 n n i), .pool 30 3 (plr i n A)])
        | j + 1 => ([(0, .p (matP m m' n n A)), (3, .vec 0 1 0 n), (4, .p (.int .i64 (i : Nat))), (11, .p (.int .i64 n)), (12, .p (.int .i64 (i : Nat))), (18, .p (ratsM m' (lst n (A i)))), (19, .p (.int .i64 n)), (20, .p (.int .i64 ((j + 1 : Nat) : Int)))], [.rows 24 (halv 1 n n i 2 (j + 1)), .pool 30 3 (plr i n A), .vec 30 3 (rats (lst (j + 1) (A i)))]))
      (fun j => j ≤ n) (fun j => n - j) 0 [0, 1] (Nat.zero_le _) ⟨rfl, by simp, rfl, rfl, rfl, ⟨rfl, rfl, rfl, rfl, rfl, rfl, rfl, rfl, trivial⟩, ⟨congrArg _ (half_ren 1 rfl (by decide)), rfl, half_in fun i hi => by simpa [plenAt] using hi, trivial⟩⟩ ?_
    intro j hj
    match j, hj with
    | 0, hj =>
      refine SCmp.yes (decide_eq_true (by omega)) ?_
      refine SIdx.rf 0 rfl (by omega) ?_
      refine SDraw.mkX (by kernel_rfl) ?_
      repeat refine SOp.mk _ _ (And.intro rfl rfl) rfl ?_
      refine SOp.mk _ _ (SPos.mk i rfl hin (And.intro rfl rfl)) rfl ?_
      refine SOp.mk _ _ (SIdxA.mk (i + 0) _ rfl (half_get hin) (And.intro rfl rfl)) rfl ?_
      repeat refine SOp.mk _ _ (And.intro rfl rfl) rfl ?_
      refine SOp.mk _ _ (SCall.pure (kzero_ok) (And.intro rfl rfl)) rfl ?_
      refine SOp.mk _ _ (SCall.pure (gcopy_ok (hA i 0 hin (by omega)) hD) (And.intro rfl rfl)) rfl ?_
      repeat refine SOp.mk _ _ (And.intro rfl rfl) rfl ?_
      refine SOp.mk _ _ (SView.all rfl <| SRoom.mk (by simp) (by simp) (And.intro rfl rfl)) rfl ?_
      repeat refine SOp.mk _ _ (And.intro rfl rfl) rfl ?_
      refine SOp.mk _ _ (SPos.mk i rfl hin (And.intro rfl rfl)) rfl ?_
      refine SOp.mk _ _ (SLt.mk (by simp; omega) <| SAs.mk (halv 1 n n i 4 1) half_setv (And.intro rfl rfl)) rfl ?_
      repeat refine SOp.mk _ _ (And.intro rfl rfl) rfl ?_
      refine SFin.mk (by kernel_rfl) ?_
      refine SWrap.i64z ((0 + 1 : Nat) : Int) (by omega) (by omega) ?_
      exact ⟨1, [0, 1, 4], n1, by show n - 1 < n - 0; omega, ⟨rfl, by simp, rfl, rfl, rfl, ⟨rfl, rfl, rfl, rfl, rfl, rfl, rfl, rfl, trivial⟩, ⟨congrArg _ (halv_ren 1 4 rfl (by decide) rfl (by decide)), rfl, rfl, halv_in (fun i hi => by simpa [plenAt] using hi) (fun e => by cases e), trivial⟩⟩⟩
    | j + 1, hj =>
      have hj : j + 1 ≤ n := hj
      by_cases hjn : j + 1 < n
      · refine SCmp.yes (decide_eq_true (by omega)) ?_
        refine SIdx.rf (j + 1) rfl hjn ?_
        refine SDraw.mkX (by kernel_rfl) ?_
        repeat refine SOp.mk _ _ (And.intro rfl rfl) rfl ?_
        refine SOp.mk _ _ (SPos.mk i rfl hin (And.intro rfl rfl)) rfl ?_
        refine SOp.mk _ _ (SIdxA.mk (i + 0) _ rfl (halv_get hin) (And.intro rfl rfl)) rfl ?_
        repeat refine SOp.mk _ _ (And.intro rfl rfl) rfl ?_
        refine SOp.mk _ _ (SCall.pure (kzero_ok) (And.intro rfl rfl)) rfl ?_
        refine SOp.mk _ _ (SCall.pure (gcopy_ok (hA i (j + 1) hin hjn) hD) (And.intro rfl rfl)) rfl ?_
        repeat refine SOp.mk _ _ (And.intro rfl rfl) rfl ?_
        refine SOp.mk _ _ (SEqN.mk (by simp [lst]) <| SView.all rfl <| SRoom.mk (by simp [lst]; omega) (by simp [lst]; omega) <| SEs.mk (rats (lst (j + 1 + 1) (A i))) (app_lst _ _ _ (rfl)) <| SZN.mk (j + 1 + 1) (by simp [lst]) (And.intro rfl rfl)) rfl ?_
        repeat refine SOp.mk _ _ (And.intro rfl rfl) rfl ?_
        refine SOp.mk _ _ (SPos.mk i rfl hin (And.intro rfl rfl)) rfl ?_
        refine SOp.mk _ _ (SLt.mk (by simp; omega) <| SAs.mk (halv 1 n n i 5 (j + 1 + 1)) halv_set (And.intro rfl rfl)) rfl ?_
        repeat refine SOp.mk _ _ (And.intro rfl rfl) rfl ?_
        refine SFin.mk (by kernel_rfl) ?_
        refine SWrap.i64z ((j + 1 + 1 : Nat) : Int) (by omega) (by omega) ?_
        exact ⟨j + 1 + 1, [0, 1, 5], hjn, by show n - (j + 1 + 1) < n - (j + 1); omega, ⟨rfl, by simp, rfl, rfl, rfl, ⟨rfl, rfl, rfl, rfl, rfl, rfl, rfl, rfl, trivial⟩, ⟨congrArg _ (halv_ren 1 5 rfl (by decide) rfl (by decide)), rfl, rfl, halv_in (fun i hi => by simpa [plenAt] using hi) (fun e => by cases e), trivial⟩⟩⟩
      · refine SCmp.no (decide_eq_false (by omega)) ?_
        obtain rfl : n = j + 1 := by omega
        refine SWrap.i64z ((i + 1 : Nat) : Int) (by omega) (by omega) ?_
        exact ⟨i + 1, [0, 3001], hin, by show j + 1 - (i + 1) < j + 1 - i; omega, ⟨rfl, by simp, rfl, rfl, rfl, ⟨rfl, rfl, rfl, rfl, trivial⟩, ⟨congrArg _ (half_absorb rfl (by decide) (by simp [plenAt])), ⟨_, _, _, _, rfl, rfl, congrArg _ plr_snoc⟩, half_in fun i hi => by simpa [plenAt] using hi, trivial⟩⟩⟩
  · refine SCmp.no (decide_eq_false (by omega)) ?_
    obtain rfl : i = n := by omega
    exact SRet.pure (frzM (H := [_, _]) (h := 0) (p := 1) (congrArg (Blk.rows _) half_full) rfl fun i hi => hi)
end Go.Proofs.Ytjfcphohgicolaa

namespace Go.Proofs.Ytjfcphohgicolaa
open Go
set_option linter.unusedVariables false
set_option linter.unusedSimpArgs false
set_option maxRecDepth 10000
theorem rall_ok (m m' q q' : Bool) (n w : Nat) (A : Nat → Nat → Rat) {a : Nat} (hA : ∀ i k, i < n → k < w → Bz (A i k) a) (ha : a + a ≤ 1048576) (hn : n ≤ 1000) (hw : w ≤ 1000) :
    CallP Try.prog 12 [matP m m' n w A, matP q q' n w A] (.p (.bool true)) [] := by
  refine callG_of_vc (wr := wr0) Γok mixed Try.func12 (by kernel_rfl) rfl (by kernel_rfl) (le_of_ble rfl) (by simp) ?_
  refine SZ.mk (n : Int) (by simp) ?_
  refine SZ.mk (n : Int) (by simp) ?_
  refine SCmp.no (neF rfl) ?_
  refine SLoop.mk Nat (fun i => ([(0, .p (matP m m' n w A)), (1, .p (matP q q' n w A)), (5, .p (.int .i64 i))], []))
    (fun i => i ≤ n) (fun i => n - i) 0 [] (Nat.zero_le _) ⟨rfl, .nil, rfl, rfl, rfl, ⟨rfl, rfl, rfl, trivial⟩, trivial⟩ ?_
  intro i hi
  have hi : i ≤ n := hi
  refine SZ.mk (n : Int) (by simp) ?_
  by_cases hin : i < n
  · refine SCmp.yes (decide_eq_true (by omega)) ?_
    have hl : Bl (lst w (A i)) a := Bl.lst fun k hk => hA i k hin hk
    have hR := rrows_ok m' q' (lst w (A i)) (lst w (A i)) hl hl ha (by rw [lst_length]; omega)
    rw [decide_eq_true rfl] at hR
    refine SDraw.mk (by kernel_rfl) ?_
    repeat refine SOp.mk _ _ (And.intro rfl rfl) rfl ?_
    refine SOp.mk _ _ (SIdx.mf i rfl hin (And.intro rfl rfl)) rfl ?_
    repeat refine SOp.mk _ _ (And.intro rfl rfl) rfl ?_
    refine SOp.mk _ _ (SIdx.mf i rfl hin (And.intro rfl rfl)) rfl ?_
    repeat refine SOp.mk _ _ (And.intro rfl rfl) rfl ?_
    refine SOp.mk _ _ (SCall.pure (hR) (And.intro rfl rfl)) rfl ?_
    refine SOp.mk _ _ (SCmp.no rfl (And.intro rfl rfl)) rfl ?_
    refine SWrap.i64z ((i + 1 : Nat) : Int) (by omega) (by omega) ?_
    exact ⟨i + 1, [], hin, by show n - (i + 1) < n - i; omega, ⟨rfl, .nil, rfl, rfl, rfl, ⟨rfl, rfl, rfl, trivial⟩, trivial⟩⟩
  · refine SCmp.no (decide_eq_false (by omega)) ?_
    exact SRet.pure (.tf _)
/-- What is told of a tree is told of another one. -/
def PRle (p' p : PV) : Prop := ∀ w FB v, PR w FB p' v → PR w FB p v
theorem PRle.refl (p : PV) : PRle p p := fun _ _ _ h => h
theorem PRle.nil (m : Bool) (W : Nat) : PRle (.raw (.slice none 0 0)) (.sl m W []) := fun w FB v h => by cases h; exact .nil _ _ _
theorem PRle.agg {cs' cs : List PV} (hl : cs'.length = cs.length) (ho : ∀ c ∈ cs, c.one = true) (h : ∀ (i : Nat) c' c, cs'[i]? = some c' → cs[i]? = some c → PRle c' c) : PRle (.agg cs') (.agg cs) := fun w FB v hv => by
  cases hv with
  | agg _ vs hone hl' h' =>
    refine .agg cs vs ho (by rw [hl', hl]) fun i c v e1 e2 => ?_
    have hi : i < cs'.length := by rw [hl]; exact (List.getElem?_eq_some_iff.1 e1).1
    exact h i cs'[i] c (List.getElem?_eq_getElem hi) e1 _ _ _ (h' i _ v (List.getElem?_eq_getElem hi) e2)
theorem CallG.weak {P : Program} {f : FuncId} {pvs pvs' : List PV} {r : AV} {nb : List Blk} (hc : CallP P f pvs r nb) (hl : pvs'.length = pvs.length) (h : ∀ (i : Nat) p' p, pvs'[i]? = some p' → pvs[i]? = some p → PRle p' p) : CallP P f pvs' r nb :=
  ⟨hc.fn, fun w F Bor β vs ha => hc.run w F Bor β vs { ha with
    len := by rw [ha.len, List.length_map, List.length_map, hl]
    rel := fun i a v e1 e2 => by
      rw [List.getElem?_map] at e1
      cases e : pvs[i]? with
      | none => rw [e] at e1; cases e1
      | some p =>
        rw [e] at e1; cases e1
        have hi : i < pvs'.length := by rw [hl]; exact (List.getElem?_eq_some_iff.1 e).1
        have e' : pvs'[i]? = some pvs'[i] := List.getElem?_eq_getElem hi
        have := ha.rel i (.p pvs'[i]) v (by rw [List.getElem?_map, e']; rfl) e2
        exact .p (h i _ p e' e _ _ _ this.pOf)
    ma := fun a ha k hk => by obtain ⟨v, _, rfl⟩ := List.mem_map.1 ha; simp only [AV.men] at hk }⟩
end Go.Proofs.Ytjfcphohgicolaa

namespace Go.Proofs.Ytjfcphohgicolaa
open Go
set_option linter.unusedVariables false
set_option linter.unusedSimpArgs false
set_option maxRecDepth 10000
/-- Both rows of nodes are lent. -/
def m15 : Nat → Bool
  | 0 => true
  | 1 => true
  | _ => false
theorem PRle.gen {m : Nat → Bool} {g : GV} {k n r : Int} {a b c d : PV} (hk : k = g.k) (hn : n = g.n) (hr : r = g.r) (ha : PRle a (ratsM (m 0) (lst g.la g.A))) (hb : PRle b (ratsM (m 1) (lst g.lb g.B))) (hc : PRle c (ratsM (m 2) (lst g.lh g.G))) (hd : PRle d (ratsM (m 3) (lst g.lh g.H))) :
    PRle (.agg [.int .i64 k, .int .i64 n, .int .i64 r, a, b, c, d]) (genP m g) := by
  subst hk; subst hn; subst hr
  refine PRle.agg rfl (fun c hc => ?_) fun i c' c e1 e2 => ?_
  · simp only [genC, List.mem_cons, List.not_mem_nil, or_false] at hc
    rcases hc with rfl | rfl | rfl | rfl | rfl | rfl | rfl <;> rfl
  · match i, e1, e2 with
    | 0, e1, e2 => cases e1; cases e2; exact .refl _
    | 1, e1, e2 => cases e1; cases e2; exact .refl _
    | 2, e1, e2 => cases e1; cases e2; exact .refl _
    | 3, e1, e2 => cases e1; cases e2; exact ha
    | 4, e1, e2 => cases e1; cases e2; exact hb
    | 5, e1, e2 => cases e1; cases e2; exact hc
    | 6, e1, e2 => cases e1; cases e2; exact hd
theorem CallG.weak1 {P : Program} {f : FuncId} {p p' : PV} {r : AV} {nb : List Blk} (hc : CallP P f [p] r nb) (h : PRle p' p) : CallP P f [p'] r nb :=
  CallG.weak hc rfl fun i p1 p2 e1 e2 => by
    match i, e1, e2 with
    | 0, e1, e2 => cases e1; cases e2; exact h
end Go.Proofs.Ytjfcphohgicolaa

namespace Go.Proofs.Ytjfcphohgicolaa
open Go
set_option linter.unusedVariables false
set_option linter.unusedSimpArgs false
set_option maxRecDepth 10000
/-- The matrix, handed out as the caller's own. -/
theorem gexpandO_ok (m : Nat → Bool) (g : GV) {b c : Nat} (h : Wf g b c) : CallP Try.prog 27 [genP m g] (.vec 0 1 0 g.n) [.rows 24 (plc 1 g.n g.n id), .pool 30 3 (plr g.n g.n (ent g))] := by
  have h6 := h.n6
  have n1 := h.n1
  refine callG_of_vc (wr := wr0) Γok mixed Try.func27 (by kernel_rfl) rfl (by kernel_rfl) (le_of_ble rfl) (by simp) ?_
  refine SCall.pure (gcheck_ok m g h) ?_
  refine SCmp.no (rfl) ?_
  refine SZ.mk (g.n : Int) rfl ?_
  refine SLt.mk (by simp) ?_
  refine SMake.mk g.n rfl (by simp; omega) (by omega) ?_
  refine SMk.rows ?_
  refine SZ.mk (g.n : Int) rfl ?_
  refine SLoop.mkT Nat (fun i => ([(1, .bptr 0 0), (3, .vec 1 1 0 g.n), (13, .p (.int .i64 g.n)), (14, .p (.int .i64 i))], [.box 26 (genA m g), .rows 24 (half 2 g.n g.n i), .pool 30 3 (plr i g.n (ent g))]))
    (fun i => i ≤ g.n) (fun i => g.n - i) 0 [0, 1, 2] _ _ (.pool 30 3 (.done _ _)) (Nat.zero_le _) ⟨rfl, by simp, rfl, rfl, rfl, ⟨rfl, rfl, rfl, rfl, trivial⟩, ⟨rfl, congrArg _ half_ren0, rfl, half_in fun i hi => absurd hi (Nat.not_lt_zero _), trivial⟩⟩ ?_
  intro i hi
  have hi : i ≤ g.n := hi
  by_cases hin : i < g.n
  · refine SCmp.yes (decide_eq_true (by omega)) ?_
    refine SZ.mk (g.n : Int) rfl ?_
    refine SLt.mk (by simp) ?_
    refine SMake.rat g.n rfl (by omega) ?_
    refine SPos.mk i rfl hin ?_
    refine SLt.mk (by simp; omega) ?_
    refine SAs.mk (halq 2 g.n g.n i 3) half_set ?_
    refine SPos.mk i rfl hin ?_
    refine SIdxA.mk i _ rfl (halq_get hin) ?_
    refine SZ.mk (g.n : Int) rfl ?_
    refine SLoop.mk (Nat × (Nat → Rat)) (fun (j, F) => ([(1, .bptr 0 0), (3, .vec 1 1 0 g.n), (4, .p (.int .i64 i)), (13, .p (.int .i64 g.n)), (14, .p (.int .i64 i)), (27, .p (.int .i64 g.n)), (28, .p (.int .i64 j))], [.box 26 (genA m g), .rows 24 (halq 2 g.n g.n i 3), .pool 30 3 (plr i g.n (ent g)), .vec 30 3 (fl g.n fun k => if k < j then ratP (ent g i k) else rat0)]))
      (fun (j, F) => j ≤ g.n) (fun x => g.n - x.1) (0, ent g i) [0, 1, 2, 3] (Nat.zero_le _) ⟨rfl, by simp, rfl, rfl, rfl, ⟨rfl, rfl, rfl, rfl, rfl, rfl, rfl, trivial⟩, ⟨rfl, congrArg _ (halq_ren 2 3 rfl (by decide) rfl (by decide)), rfl, congrArg _ ((fl_congr fun k hk => if_neg (by omega)).trans (replicate_fl g.n rat0).symm), halq_in (fun i hi => by simpa [plenAt] using hi) (fun e => by cases e), trivial⟩⟩ ?_
    intro ⟨j, F⟩ hj
    have hj : j ≤ g.n := hj
    by_cases hjn : j < g.n
    · refine SCmp.yes (decide_eq_true (by omega)) ?_
      refine SDraw.mkX (by kernel_rfl) ?_
      repeat refine SOp.mk _ _ (And.intro rfl rfl) rfl ?_
      refine SOp.mk _ _ (SPos.mk i rfl hin (And.intro rfl rfl)) rfl ?_
      refine SOp.mk _ _ (SIdxA.mk i _ rfl (halq_get hin) (And.intro rfl rfl)) rfl ?_
      repeat refine SOp.mk _ _ (And.intro rfl rfl) rfl ?_
      refine SOp.mk _ _ (SCall.pure (gentry_ok m g h i j hin hjn) (And.intro rfl rfl)) rfl ?_
      refine SOp.mk _ _ (SPos.mk j rfl hjn (And.intro rfl rfl)) rfl ?_
      refine SOp.mk _ _ (SLt.mk (by simp; omega) <| SEs.mk _ (row_step hjn) (And.intro rfl rfl)) rfl ?_
      repeat refine SOp.mk _ _ (And.intro rfl rfl) rfl ?_
      refine SFin.mk (by kernel_rfl) ?_
      refine SWrap.i64z ((j + 1 : Nat) : Int) (by omega) (by omega) ?_
      exact ⟨(j + 1, F), [0, 1, 2, 3], hjn, by show g.n - (j + 1) < g.n - j; omega, ⟨rfl, by simp, rfl, rfl, rfl, ⟨rfl, rfl, rfl, rfl, rfl, rfl, rfl, trivial⟩, ⟨rfl, congrArg _ (halq_ren 2 3 rfl (by decide) rfl (by decide)), rfl, rfl, halq_in (fun i hi => by simpa [plenAt] using hi) (fun e => by cases e), trivial⟩⟩⟩
    · refine SCmp.no (decide_eq_false (by omega)) ?_
      obtain rfl : j = g.n := by omega
      refine SWrap.i64z ((i + 1 : Nat) : Int) (by omega) (by omega) ?_
      exact ⟨i + 1, [0, 1, 4002], hin, by show g.n - (i + 1) < g.n - i; omega, ⟨rfl, by simp, rfl, rfl, rfl, ⟨rfl, rfl, rfl, rfl, trivial⟩, ⟨rfl, congrArg _ (half_absorb rfl (by decide) (by simp [plenAt])), ⟨_, _, _, _, rfl, rfl, congrArg _ (plr_snoc.trans (congrArg (fun r => plr i g.n (ent g) ++ [some r]) row_full))⟩, half_in fun i hi => by simpa [plenAt] using hi, trivial⟩⟩⟩
  · refine SCmp.no (decide_eq_false (by omega)) ?_
    obtain rfl : i = g.n := by omega
    refine SRet.mk [1, 2] rfl (by decide) rfl (Nat.zero_le _) (fun h hl => by rw [look_nil] at hl; exact hl.elim) (fun h hl => absurd (look_nil h) hl) (fun a h B e1 e2 => ?_) (.vec rfl)
    match a, e1, e2 with
    | 0, e1, e2 =>
      cases e1; cases e2
      show ConvB _ _ (Blk.rows _ (half 2 g.n g.n g.n)) _
      rw [half_full]
      refine .rows (fun d hd => by obtain ⟨i, _, rfl⟩ := fl_mem hd; rfl) (by simp) fun b c d e1 e2 => ?_
      obtain ⟨hb, rfl⟩ := fl_get_iff.1 e1
      obtain ⟨_, rfl⟩ := fl_get_iff.1 e2
      exact .vecr rfl
    | 1, e1, e2 =>
      cases e1; cases e2
      exact .pool fun k es hk => by
        obtain ⟨_, h⟩ := fl_get_iff.1 hk
        cases h; exact pers_rats _
/-- A call that makes a matrix and answers with it. -/
theorem SCall.mtx {P : Program} {wr : Bool} {f : FuncId} {L : Hd → Blk} {base n w N : Nat} {K : AV → List (Hd × Blk) → Prop} {pvs : List PV} {T T' : TypeId} {G : Nat → Nat → Rat} (hc : CallP P f pvs (.vec 0 1 0 n) [.rows T (plc 1 w n id), .pool T' 3 (plr N w G)])
    (hk : K (.vec base 1 0 n) [(.t base, .rows T (plc (base + 1) w n id)), (.t (base + 1), .pool T' 3 (plr N w G))]) {raw : List AV} : SCall P wr f raw (pvs.map .p) L base K := by
  refine SCall.news hc (fun B hB => by simp only [List.mem_cons, List.not_mem_nil, or_false] at hB; rcases hB with rfl | rfl <;> exact fun e => by (cases e)) ?_
  have e : AV.renL (renOf [] base) (plc 1 w n id) = plc (base + 1) w n id := by
    rw [renL_fl]; exact fl_congr fun i _ => by simp only [AV.ren, renOf, renN]; rfl
  show K (.vec (.t (base + (0 - 0))) 1 0 n) [(.t (base + (0 - 0)), .rows T (AV.renL _ _)), (.t (base + (1 - 0)), _)]
  rw [e]; exact hk
/-- A contract that tells less of its answer. -/
theorem CallG.weakR {P : Program} {f : FuncId} {pvs : List PV} {r r' : AV} {nb : List Blk} (hc : CallP P f pvs r' nb) (h : ∀ w FB β v, VR w FB β r' v → VR w FB β r v) (hm : ∀ k, ¬ r.men k) : CallP P f pvs r nb :=
  ⟨hc.fn, fun w F Bor β vs ha => (hc.run w F Bor β vs ha).mono fun e w' ⟨v, F', β', h1, h2⟩ => ⟨v, F', β', h1, { h2 with rel := h _ _ _ _ h2.rel, mr := fun k hk => (hm k hk).elim }⟩⟩
theorem VR.weak2 {p p' : PV} {c : PV} (h : PRle p' p) : ∀ w FB β v, VR w FB β (.tup [.p p', .p c]) v → VR w FB β (.tup [.p p, .p c]) v := fun w FB β v hv => by
  cases hv with | tup _ vs hl hr =>
  refine .tup _ vs hl fun i d x e1 e2 => ?_
  match i, e1, e2 with
  | 0, e1, e2 => cases e1; exact .p (h _ _ _ (hr 0 _ _ rfl e2).pOf)
  | 1, e1, e2 => cases e1; exact hr 1 _ _ rfl e2
def GkB (n : Nat) (A : Nat → Nat → Rat) (D : Nat) : Prop := ∀ k, k ≤ n → ∀ i j, i < n → j < n → Bz ((gk n A k).B i j) D
theorem GkB.P {n : Nat} {A : Nat → Nat → Rat} {D : Nat} (h : GkB n A D) {k : Nat} (hk : k < n) : ∀ i j, i < n → j < n → Bz (gkP n A k i j) D := fun i j hi hj => by
  obtain ⟨p1, p2, _⟩ := pvt_spec (B := (gk n A k).B) hk
  exact h k (by omega) _ j (swp_lt p2 hk hi) hj
theorem gk_bz {n b : Nat} {A : Nat → Nat → Rat} (hA : ∀ i j, i < n → j < n → Bz (A i j) b) : ∀ k, k ≤ n → ∀ i j, i < n → j < n → Bz ((gk n A k).B i j) (bb b k) := by
  intro k
  induction k with
  | zero => intro _ i j hi hj; exact hA i j hi hj
  | succ k ih =>
    intro hk i j hi hj
    have ih := ih (by omega)
    obtain ⟨p1, p2, _⟩ := pvt_spec (B := (gk n A k).B) (n := n) (k := k) (by omega)
    have zP : ∀ i j, i < n → j < n → Bz (gkP n A k i j) (bb b k) := fun i j hi hj => ih _ j (swp_lt p2 (by omega) hi) hj
    by_cases c : k < i
    · rw [gk_gt c]
      exact ((zP i j hi hj).sub (((zP i k hi (by omega)).div (zP k k (by omega) (by omega))).mul (zP k j (by omega) hj))).mono (by simp only [bb]; omega)
    · rw [gk_le (by omega)]; exact (zP i j hi hj).mono (by simp only [bb]; omega)
theorem GkB.of {n b : Nat} {A : Nat → Nat → Rat} (n1 : 1 ≤ n) (hA : ∀ i j, i < n → j < n → Bz (A i j) b) : GkB n A (bb b (n - 1)) := fun k hk i j hi hj => by
  by_cases e : k = n
  · obtain ⟨d, rfl⟩ : ∃ d, n = d + 1 := ⟨n - 1, by omega⟩
    obtain ⟨p1, p2, _⟩ := pvt_spec (B := (gk (d + 1) A d).B) (n := d + 1) (k := d) (by omega)
    rw [e, gk_le (by omega)]
    exact gk_bz hA d (by omega) _ j (swp_lt p2 (by omega) hi) hj
  · exact (gk_bz hA k hk i j hi hj).mono (bb_mono (by omega))
theorem ggr_bz {n D : Nat} {A : Nat → Nat → Rat} (h : GkB n A D) (hD : 1 ≤ D) : ∀ k, k ≤ n → Bz (ggr n A k) D := by
  intro k
  induction k with
  | zero => intro _; exact mxR_bz (bz_zero.mono hD) n fun i j _ h2 h3 => h 0 (Nat.zero_le _) i j (by omega) h3
  | succ k ih => intro hk; exact mxR_bz (ih (by omega)) _ fun i j _ h2 h3 => h k (by omega) i j (by omega) h3
theorem gM_bz {n D : Nat} {A : Nat → Nat → Rat} (h : GkB n A D) (hD : 1 ≤ D) : ∀ k, k ≤ n → ∀ i j, i < n → Bz ((gk n A k).M i j) (D + D) := by
  intro k
  induction k with
  | zero => intro _ i j _; exact bz_zero.mono (by omega)
  | succ k ih =>
    intro hk i j hi
    obtain ⟨p1, p2, _⟩ := pvt_spec (B := (gk n A k).B) (n := n) (k := k) (by omega)
    have sw : Bz (swpM (gk n A k).M (pvt (gk n A k).B n k) k i j) (D + D) := ih (by omega) _ j (swp_lt p2 (by omega) hi)
    rw [gk_succ]
    show Bz (mulS _ _ k i j) _
    unfold mulS
    split
    · split
      · exact (h.P (by omega) i k hi (by omega)).div (h.P (by omega) k k (by omega) (by omega))
      · split
        · exact bz_one.mono (by omega)
        · exact sw
    · exact sw
def gro (n : Nat) (A : Nat → Nat → Rat) : Rat := ggr n A n / ggr n A 0
abbrev part0 : PV := .agg [.sl false 1 [], .sl false 1 [], .sl false 1 [], .bool false, .sl false 1 [], .sl false 1 []]
abbrev partC (n : Nat) (A : Nat → Nat → Rat) : List PV := [.sl false 1 (permP n (gO n A)), matP false false n n (gL n A), matP false false n n (gU n A), .bool (decide ((gro n A).num < 0)), natP (gro n A).num.natAbs, natP (gro n A).den]
abbrev partP (n : Nat) (A : Nat → Nat → Rat) : PV := .agg (partC n A)
theorem part_le : PRle (.agg [.raw (.slice none 0 0), .raw (.slice none 0 0), .raw (.slice none 0 0), .bool false, .sl false 1 [], .sl false 1 []]) part0 := by
  refine PRle.agg rfl (fun c hc => by simp only [List.mem_cons, List.not_mem_nil, or_false] at hc; rcases hc with rfl | rfl | rfl | rfl | rfl | rfl <;> rfl) fun i c' c e1 e2 => ?_
  match i, e1, e2 with
  | 0, e1, e2 => cases e1; cases e2; exact .nil _ _
  | 1, e1, e2 => cases e1; cases e2; exact .nil _ _
  | 2, e1, e2 => cases e1; cases e2; exact .nil _ _
  | 3, e1, e2 => cases e1; cases e2; exact .refl _
  | 4, e1, e2 => cases e1; cases e2; exact .refl _
  | 5, e1, e2 => cases e1; cases e2; exact .refl _
theorem pers_part0 : Pers (.agg [.raw (.slice none 0 0), .raw (.slice none 0 0), .raw (.slice none 0 0), .bool false, .sl false 1 [], .sl false 1 []]) := .agg _ fun c hc => by
  simp only [List.mem_cons, List.not_mem_nil, or_false] at hc
  rcases hc with rfl | rfl | rfl | rfl | rfl | rfl <;> first | exact .raw _ | exact .bool _ | exact .sl _ _ (fun e he => by simp at he)
theorem nomen2 {p c : PV} (k : Hd) : ¬ (AV.tup [.p p, .p c]).men k := fun h => by simp only [AV.men, AV.menL, or_false] at h
end Go.Proofs.Ytjfcphohgicolaa

namespace Go.Proofs.Ytjfcphohgicolaa
open Go
set_option linter.unusedVariables false
set_option linter.unusedSimpArgs false
set_option maxRecDepth 10000
abbrev wrK : FuncId → Bool := fun f => Nat.beq f 29 || (Nat.beq f 30 || Nat.beq f 31)
abbrev zpartA : List AV := [.p (.raw (.slice none 0 0)), .p (.raw (.slice none 0 0)), .p (.raw (.slice none 0 0)), .p (.bool false), .p (.sl false 1 []), .p (.sl false 1 [])]
theorem perm0 {n : Nat} : List.replicate n (PV.int .i64 0) = permP n fun t => if t < 0 then t else 0 := (replicate_fl n _).trans (fl_congr fun i _ => congrArg (fun x : Nat => PV.int .i64 (x : Int)) (if_neg (Nat.not_lt_zero i)).symm)
theorem gw_next {n k : Nat} {A : Nat → Nat → Rat} {si : Nat → Nat} (hk : k < n) (hsi : ∀ r, r < n → si r < n ∧ (gk n A (k + 1)).s (si r) = r) : ∀ i j, i < n → j < n → (fun r j => redA (gkP n A k) k (si r) j) ((gk n A (k + 1)).s i) j = (gk n A (k + 1)).B i j := fun i j hi hj => by
  obtain ⟨h1, h2, _⟩ := gk_perm (n := n) (A := A) (k + 1) hk
  obtain ⟨a, b⟩ := hsi _ (h1 i hi)
  have e := h2 _ _ a hi b
  show redA (gkP n A k) k (si ((gk n A (k + 1)).s i)) j = _
  rw [e, gk_succ]
theorem gw_swp {n k : Nat} {A G : Nat → Nat → Rat} (hk : k < n) (hG : ∀ i j, i < n → j < n → G ((gk n A k).s i) j = (gk n A k).B i j) : ∀ i j, i < n → j < n → G ((gk n A (k + 1)).s i) j = gkP n A k i j := fun i j hi hj => by
  obtain ⟨p1, p2, _⟩ := pvt_spec (B := (gk n A k).B) hk
  rw [gk_succ]
  exact hG _ j (swp_lt p2 hk hi) hj
theorem gw_inv {n k : Nat} {A : Nat → Nat → Rat} (hk : k ≤ n) : ∃ si : Nat → Nat, ∀ r, r < n → si r < n ∧ (gk n A k).s (si r) = r := by
  obtain ⟨_, _, h3⟩ := gk_perm (n := n) (A := A) k hk
  refine ⟨fun r => if h : r < n then (h3 r h).choose else 0, fun r hr => ?_⟩
  show (if h : r < n then (h3 r h).choose else 0) < n ∧ (gk n A k).s (if h : r < n then (h3 r h).choose else 0) = r
  rw [dif_pos hr]
  exact (h3 r hr).choose_spec
theorem kfactorZ_ok (m : Nat → Bool) (g : GV) {b c D K : Nat} (h : Wf g b c) (hk : g.k = 5 ∨ g.k = 7) (hB : GkB g.n (ent g) D) (h1 : 1 ≤ D) (hD : 4 * D + 1 ≤ 1000000) (hK : K < g.n) (hp : ∀ t, t < K → gpiv g.n (ent g) t ≠ 0) (hz : gpiv g.n (ent g) K = 0) :
    CallP Try.prog 11 [genP m g] (.tup [.p part0, .p (.int .i64 9)]) [] := by
  have h6 := h.n6
  have n1 := h.n1
  refine CallG.weakR ?_ (VR.weak2 part_le) nomen2
  rcases hk with e | e
  · refine callG_of_vc (wr := wrK) Γok mixed Try.func11 (by kernel_rfl) rfl (by kernel_rfl) (le_of_ble rfl) (by simp) ?_
    refine SCmp.no (neF (by rw [e]; rfl)) ?_
    refine SCall.mtx (gexpandO_ok m g h) ?_
    refine SNil.mk (fun _ => ?_) (fun h => absurd h (by omega))
    refine SDraw.mkX (by kernel_rfl) ?_
    repeat refine SOp.mk _ _ (And.intro rfl rfl) rfl ?_
    refine SOp.mk _ _ (SZ.mk (g.n : Int) rfl (And.intro rfl rfl)) rfl ?_
    repeat refine SOp.mk _ _ (And.intro rfl rfl) rfl ?_
    refine SOp.mk _ _ (SZ.mk (g.n : Int) rfl <| SLt.mk (by simp) <| SMake.mk g.n rfl (by show g.n * 8 ≤ _; omega) (by omega) (And.intro rfl rfl)) rfl ?_
    repeat refine SOp.mk _ _ (And.intro rfl rfl) rfl ?_
    refine SOp.mk _ _ (SCall.pure (kzero_ok) (And.intro rfl rfl)) rfl ?_
    repeat refine SOp.mk _ _ (And.intro rfl rfl) rfl ?_
    refine SFin.mk (by kernel_rfl) ?_
    refine SZ.mk (g.n : Int) rfl ?_
    refine SLoop.mk (Nat × (Nat → Nat)) (fun (i, s) => ([(2, .bptr 5 0), (5, .bptr 0 0), (39, .p (.int .i64 g.n)), (40, .p (.int .i64 (i : Nat)))],
        [.box 61 (gwA g.n 0), .rows 24 (plc 2 g.n g.n id), .pool 30 3 (plr g.n g.n (ent g)), .vec 3 1 (permP g.n s), .map [], .box 36 zpartA]))
      (fun (i, s) => i ≤ g.n ∧ ∀ t, t < g.n → s t = if t < i then t else 0) (fun x => g.n - x.1) (0, fun t => if t < 0 then t else 0) [6, 2, 3, 4, 5, 1] ⟨Nat.zero_le _, fun t _ => rfl⟩
      ⟨rfl, by simp, rfl, rfl, rfl, ⟨rfl, rfl, rfl, rfl, trivial⟩, ⟨rfl, congrArg _ (plc_ren 3 rfl (by decide)), rfl, congrArg _ perm0.symm, rfl, rfl, rows_in fun q hq => by simpa [plenAt] using hq, trivial⟩⟩ ?_
    intro ⟨i, s⟩ ⟨hi, hs⟩
    by_cases hin : i < g.n
    · refine SCmp.yes (decide_eq_true (by omega)) ?_
      refine SPos.mk i rfl hin ?_
      refine SLt.perm hin ?_
      refine SEs.perm ?_
      refine SWrap.i64z ((i + 1 : Nat) : Int) (by omega) (by omega) ?_
      refine ⟨(i + 1, _), [0, 1, 2, 3, 4, 5], ⟨hin, fun t ht => ?_⟩, by show g.n - (i + 1) < g.n - i; omega, ⟨rfl, by simp, rfl, rfl, rfl, ⟨rfl, rfl, rfl, rfl, trivial⟩, ⟨rfl, congrArg _ (plc_ren 2 rfl (by decide)), rfl, rfl, rfl, rfl, rows_in fun q hq => by simpa [plenAt] using hq, trivial⟩⟩⟩
      show upd s (i + 0) i t = _
      unfold upd
      by_cases e : t = i
      · rw [if_pos (by omega), if_pos (by omega), e]
      · rw [if_neg (by omega), hs t ht]
        by_cases e2 : t < i
        · rw [if_pos e2, if_pos (by omega)]
        · rw [if_neg e2, if_neg (by omega)]
    refine SCmp.no (decide_eq_false (by omega)) ?_
    obtain rfl : i = g.n := by omega
    have es : permP g.n s = permP g.n id := permP_congr fun t ht => by rw [hs t ht, if_pos ht]; rfl
    refine SCall.gw (glook_ok g.n 0 (ent g) (ent g) id [] 0 (Nat.zero_le _) (by omega) (fun i hi => hi) (fun _ _ _ _ => rfl) (hB 0 (Nat.zero_le _)) (bz_zero.mono h1) (by omega) (fun e he => by simp at he)) (fun _ => rfl) (by decide) ⟨rfl, fun _ => rfl⟩ ⟨rfl, fun _ => rfl⟩ ⟨rfl, fun _ => rfl⟩ ⟨congrArg (Blk.vec 3 1) es, fun _ => rfl⟩ ⟨rfl, fun _ => rfl⟩ ?_
    refine SZ.mk (g.n : Int) rfl ?_
    refine SLoop.mk (Nat × (Nat → Nat → Rat)) (fun (k, G) => ([(2, .bptr 5 0), (5, .bptr 0 0), (7, .bptr 6 0), (61, .p (.int .i64 g.n)), (62, .p (.int .i64 (k : Nat)))],
        gwB g.n G (gk g.n (ent g) k).s (gtk g.n (ent g) k) (ggr g.n (ent g) k) ++ [.box 36 zpartA, .box 30 (bxQ (ggr g.n (ent g) 0))]))
      (fun (k, G) => k ≤ K ∧ ∀ i j, i < g.n → j < g.n → G ((gk g.n (ent g) k).s i) j = (gk g.n (ent g) k).B i j) (fun x => g.n - x.1) (0, ent g) [0, 1, 2, 3, 4, 5, 6] ⟨Nat.zero_le _, fun _ _ _ _ => rfl⟩
      ⟨rfl, by simp, rfl, rfl, rfl, ⟨rfl, rfl, rfl, rfl, rfl, trivial⟩, ⟨rfl, congrArg _ (plc_ren 2 rfl (by decide)), rfl, rfl, rfl, rfl, rfl, rows_in (s := id) fun q hq => by simpa [plenAt] using hq, trivial⟩⟩ ?_
    intro ⟨k, G⟩ ⟨hkn, hG⟩
    obtain ⟨r1, r2, r3⟩ := gk_perm (n := g.n) (A := ent g) k (by omega)
    have zr := ggr_bz hB h1 k (by omega)
    refine SCmp.yes (decide_eq_true (by omega)) ?_
    by_cases e : k < K
    · refine SCall.gw (glook_ok g.n k G (gk g.n (ent g) k).B (gk g.n (ent g) k).s (gtk g.n (ent g) k) (ggr g.n (ent g) k) (by omega) (by omega) r1 hG (hB k (by omega)) zr (by omega) (gtk_key k).pers)
        (fun _ => rfl) (by decide) ⟨rfl, fun _ => rfl⟩ ⟨rfl, fun _ => rfl⟩ ⟨rfl, fun _ => rfl⟩ ⟨rfl, fun _ => rfl⟩ ⟨rfl, fun _ => rfl⟩ ?_
      refine SCall.gw (gpick_ok g.n k G (gk g.n (ent g) k).B (gk g.n (ent g) k).s (gtk g.n (ent g) k) (ggr g.n (ent g) (k + 1)) true (by omega) (by omega) r1 hG (hB k (by omega)) (by omega) (gtk_key k).pers ((decide_eq_true (by rw [← gpiv_eq]; exact hp k e)).symm))
        (fun _ => rfl) (by decide) ⟨rfl, fun _ => rfl⟩ ⟨rfl, fun _ => rfl⟩ ⟨rfl, fun _ => rfl⟩ ⟨rfl, fun _ => rfl⟩ ⟨rfl, fun _ => rfl⟩ ?_
      refine SCmp.no (rfl) ?_
      obtain ⟨si, hsi⟩ := gw_inv (n := g.n) (A := ent g) (k := k + 1) (by omega)
      obtain ⟨q1, q2, _⟩ := gk_perm (n := g.n) (A := ent g) (k + 1) (by omega)
      refine SCall.gw (gclean_ok g.n k G (gkP g.n (ent g) k) (gk g.n (ent g) (k + 1)).s si (gtk g.n (ent g) k) (ggr g.n (ent g) (k + 1)) (by omega) (by omega) q1 q2 hsi (gw_swp (by omega) hG) (hB.P (by omega)) (by omega) (hp k e) (gtk_key k))
        (fun _ => rfl) (by decide) ⟨rfl, fun _ => rfl⟩ ⟨rfl, fun _ => rfl⟩ ⟨rfl, fun _ => rfl⟩ ⟨rfl, fun _ => rfl⟩ ⟨rfl, fun _ => rfl⟩ ?_
      refine SWrap.i64z ((k + 1 : Nat) : Int) (by omega) (by omega) ?_
      exact ⟨(k + 1, fun r j => redA (gkP g.n (ent g) k) k (si r) j), [0, 1, 2, 3, 4, 5, 6], ⟨by omega, gw_next (by omega) hsi⟩, by show g.n - (k + 1) < g.n - k; omega, ⟨rfl, by simp, rfl, rfl, rfl, ⟨rfl, rfl, rfl, rfl, rfl, trivial⟩, ⟨rfl, congrArg _ (plc_ren 2 rfl (by decide)), rfl, rfl, rfl, rfl, rfl, rows_in fun q hq => by simpa [plenAt] using q1 q hq, trivial⟩⟩⟩
    · obtain rfl : k = K := by omega
      refine SCall.gw (glook_ok g.n k G (gk g.n (ent g) k).B (gk g.n (ent g) k).s (gtk g.n (ent g) k) (ggr g.n (ent g) k) (by omega) (by omega) r1 hG (hB k (by omega)) zr (by omega) (gtk_key k).pers)
        (fun _ => rfl) (by decide) ⟨rfl, fun _ => rfl⟩ ⟨rfl, fun _ => rfl⟩ ⟨rfl, fun _ => rfl⟩ ⟨rfl, fun _ => rfl⟩ ⟨rfl, fun _ => rfl⟩ ?_
      refine SCall.gw (gpick_ok g.n k G (gk g.n (ent g) k).B (gk g.n (ent g) k).s (gtk g.n (ent g) k) (ggr g.n (ent g) (k + 1)) false (by omega) (by omega) r1 hG (hB k (by omega)) (by omega) (gtk_key k).pers ((decide_eq_false (by rw [← gpiv_eq]; exact fun h => h hz)).symm))
        (fun _ => rfl) (by decide) ⟨rfl, fun _ => rfl⟩ ⟨rfl, fun _ => rfl⟩ ⟨rfl, fun _ => rfl⟩ ⟨rfl, fun _ => rfl⟩ ⟨rfl, fun _ => rfl⟩ ?_
      refine SCmp.yes (rfl) ?_
      refine SRet.pure (.tup rfl fun i c d e1 e2 => ?_)
      match i, e1, e2 with
      | 0, e1, e2 => cases e1; cases e2; exact .p _ pers_part0
      | 1, e1, e2 => cases e1; cases e2; exact .p _ (.int _ _)
  · refine callG_of_vc (wr := wrK) Γok mixed Try.func11 (by kernel_rfl) rfl (by kernel_rfl) (le_of_ble rfl) (by simp) ?_
    refine SCmp.yes (neT (by rw [e]; decide)) ?_
    refine SCmp.no (neF (by rw [e]; rfl)) ?_
    refine SCall.mtx (gexpandO_ok m g h) ?_
    refine SNil.mk (fun _ => ?_) (fun h => absurd h (by omega))
    refine SDraw.mkX (by kernel_rfl) ?_
    repeat refine SOp.mk _ _ (And.intro rfl rfl) rfl ?_
    refine SOp.mk _ _ (SZ.mk (g.n : Int) rfl (And.intro rfl rfl)) rfl ?_
    repeat refine SOp.mk _ _ (And.intro rfl rfl) rfl ?_
    refine SOp.mk _ _ (SZ.mk (g.n : Int) rfl <| SLt.mk (by simp) <| SMake.mk g.n rfl (by show g.n * 8 ≤ _; omega) (by omega) (And.intro rfl rfl)) rfl ?_
    repeat refine SOp.mk _ _ (And.intro rfl rfl) rfl ?_
    refine SOp.mk _ _ (SCall.pure (kzero_ok) (And.intro rfl rfl)) rfl ?_
    repeat refine SOp.mk _ _ (And.intro rfl rfl) rfl ?_
    refine SFin.mk (by kernel_rfl) ?_
    refine SZ.mk (g.n : Int) rfl ?_
    refine SLoop.mk (Nat × (Nat → Nat)) (fun (i, s) => ([(2, .bptr 5 0), (5, .bptr 0 0), (39, .p (.int .i64 g.n)), (40, .p (.int .i64 (i : Nat)))],
        [.box 61 (gwA g.n 0), .rows 24 (plc 2 g.n g.n id), .pool 30 3 (plr g.n g.n (ent g)), .vec 3 1 (permP g.n s), .map [], .box 36 zpartA]))
      (fun (i, s) => i ≤ g.n ∧ ∀ t, t < g.n → s t = if t < i then t else 0) (fun x => g.n - x.1) (0, fun t => if t < 0 then t else 0) [6, 2, 3, 4, 5, 1] ⟨Nat.zero_le _, fun t _ => rfl⟩
      ⟨rfl, by simp, rfl, rfl, rfl, ⟨rfl, rfl, rfl, rfl, trivial⟩, ⟨rfl, congrArg _ (plc_ren 3 rfl (by decide)), rfl, congrArg _ perm0.symm, rfl, rfl, rows_in fun q hq => by simpa [plenAt] using hq, trivial⟩⟩ ?_
    intro ⟨i, s⟩ ⟨hi, hs⟩
    by_cases hin : i < g.n
    · refine SCmp.yes (decide_eq_true (by omega)) ?_
      refine SPos.mk i rfl hin ?_
      refine SLt.perm hin ?_
      refine SEs.perm ?_
      refine SWrap.i64z ((i + 1 : Nat) : Int) (by omega) (by omega) ?_
      refine ⟨(i + 1, _), [0, 1, 2, 3, 4, 5], ⟨hin, fun t ht => ?_⟩, by show g.n - (i + 1) < g.n - i; omega, ⟨rfl, by simp, rfl, rfl, rfl, ⟨rfl, rfl, rfl, rfl, trivial⟩, ⟨rfl, congrArg _ (plc_ren 2 rfl (by decide)), rfl, rfl, rfl, rfl, rows_in fun q hq => by simpa [plenAt] using hq, trivial⟩⟩⟩
      show upd s (i + 0) i t = _
      unfold upd
      by_cases e : t = i
      · rw [if_pos (by omega), if_pos (by omega), e]
      · rw [if_neg (by omega), hs t ht]
        by_cases e2 : t < i
        · rw [if_pos e2, if_pos (by omega)]
        · rw [if_neg e2, if_neg (by omega)]
    refine SCmp.no (decide_eq_false (by omega)) ?_
    obtain rfl : i = g.n := by omega
    have es : permP g.n s = permP g.n id := permP_congr fun t ht => by rw [hs t ht, if_pos ht]; rfl
    refine SCall.gw (glook_ok g.n 0 (ent g) (ent g) id [] 0 (Nat.zero_le _) (by omega) (fun i hi => hi) (fun _ _ _ _ => rfl) (hB 0 (Nat.zero_le _)) (bz_zero.mono h1) (by omega) (fun e he => by simp at he)) (fun _ => rfl) (by decide) ⟨rfl, fun _ => rfl⟩ ⟨rfl, fun _ => rfl⟩ ⟨rfl, fun _ => rfl⟩ ⟨congrArg (Blk.vec 3 1) es, fun _ => rfl⟩ ⟨rfl, fun _ => rfl⟩ ?_
    refine SZ.mk (g.n : Int) rfl ?_
    refine SLoop.mk (Nat × (Nat → Nat → Rat)) (fun (k, G) => ([(2, .bptr 5 0), (5, .bptr 0 0), (7, .bptr 6 0), (61, .p (.int .i64 g.n)), (62, .p (.int .i64 (k : Nat)))],
        gwB g.n G (gk g.n (ent g) k).s (gtk g.n (ent g) k) (ggr g.n (ent g) k) ++ [.box 36 zpartA, .box 30 (bxQ (ggr g.n (ent g) 0))]))
      (fun (k, G) => k ≤ K ∧ ∀ i j, i < g.n → j < g.n → G ((gk g.n (ent g) k).s i) j = (gk g.n (ent g) k).B i j) (fun x => g.n - x.1) (0, ent g) [0, 1, 2, 3, 4, 5, 6] ⟨Nat.zero_le _, fun _ _ _ _ => rfl⟩
      ⟨rfl, by simp, rfl, rfl, rfl, ⟨rfl, rfl, rfl, rfl, rfl, trivial⟩, ⟨rfl, congrArg _ (plc_ren 2 rfl (by decide)), rfl, rfl, rfl, rfl, rfl, rows_in (s := id) fun q hq => by simpa [plenAt] using hq, trivial⟩⟩ ?_
    intro ⟨k, G⟩ ⟨hkn, hG⟩
    obtain ⟨r1, r2, r3⟩ := gk_perm (n := g.n) (A := ent g) k (by omega)
    have zr := ggr_bz hB h1 k (by omega)
    refine SCmp.yes (decide_eq_true (by omega)) ?_
    by_cases e : k < K
    · refine SCall.gw (glook_ok g.n k G (gk g.n (ent g) k).B (gk g.n (ent g) k).s (gtk g.n (ent g) k) (ggr g.n (ent g) k) (by omega) (by omega) r1 hG (hB k (by omega)) zr (by omega) (gtk_key k).pers)
        (fun _ => rfl) (by decide) ⟨rfl, fun _ => rfl⟩ ⟨rfl, fun _ => rfl⟩ ⟨rfl, fun _ => rfl⟩ ⟨rfl, fun _ => rfl⟩ ⟨rfl, fun _ => rfl⟩ ?_
      refine SCall.gw (gpick_ok g.n k G (gk g.n (ent g) k).B (gk g.n (ent g) k).s (gtk g.n (ent g) k) (ggr g.n (ent g) (k + 1)) true (by omega) (by omega) r1 hG (hB k (by omega)) (by omega) (gtk_key k).pers ((decide_eq_true (by rw [← gpiv_eq]; exact hp k e)).symm))
        (fun _ => rfl) (by decide) ⟨rfl, fun _ => rfl⟩ ⟨rfl, fun _ => rfl⟩ ⟨rfl, fun _ => rfl⟩ ⟨rfl, fun _ => rfl⟩ ⟨rfl, fun _ => rfl⟩ ?_
      refine SCmp.no (rfl) ?_
      obtain ⟨si, hsi⟩ := gw_inv (n := g.n) (A := ent g) (k := k + 1) (by omega)
      obtain ⟨q1, q2, _⟩ := gk_perm (n := g.n) (A := ent g) (k + 1) (by omega)
      refine SCall.gw (gclean_ok g.n k G (gkP g.n (ent g) k) (gk g.n (ent g) (k + 1)).s si (gtk g.n (ent g) k) (ggr g.n (ent g) (k + 1)) (by omega) (by omega) q1 q2 hsi (gw_swp (by omega) hG) (hB.P (by omega)) (by omega) (hp k e) (gtk_key k))
        (fun _ => rfl) (by decide) ⟨rfl, fun _ => rfl⟩ ⟨rfl, fun _ => rfl⟩ ⟨rfl, fun _ => rfl⟩ ⟨rfl, fun _ => rfl⟩ ⟨rfl, fun _ => rfl⟩ ?_
      refine SWrap.i64z ((k + 1 : Nat) : Int) (by omega) (by omega) ?_
      exact ⟨(k + 1, fun r j => redA (gkP g.n (ent g) k) k (si r) j), [0, 1, 2, 3, 4, 5, 6], ⟨by omega, gw_next (by omega) hsi⟩, by show g.n - (k + 1) < g.n - k; omega, ⟨rfl, by simp, rfl, rfl, rfl, ⟨rfl, rfl, rfl, rfl, rfl, trivial⟩, ⟨rfl, congrArg _ (plc_ren 2 rfl (by decide)), rfl, rfl, rfl, rfl, rfl, rows_in fun q hq => by simpa [plenAt] using q1 q hq, trivial⟩⟩⟩
    · obtain rfl : k = K := by omega
      refine SCall.gw (glook_ok g.n k G (gk g.n (ent g) k).B (gk g.n (ent g) k).s (gtk g.n (ent g) k) (ggr g.n (ent g) k) (by omega) (by omega) r1 hG (hB k (by omega)) zr (by omega) (gtk_key k).pers)
        (fun _ => rfl) (by decide) ⟨rfl, fun _ => rfl⟩ ⟨rfl, fun _ => rfl⟩ ⟨rfl, fun _ => rfl⟩ ⟨rfl, fun _ => rfl⟩ ⟨rfl, fun _ => rfl⟩ ?_
      refine SCall.gw (gpick_ok g.n k G (gk g.n (ent g) k).B (gk g.n (ent g) k).s (gtk g.n (ent g) k) (ggr g.n (ent g) (k + 1)) false (by omega) (by omega) r1 hG (hB k (by omega)) (by omega) (gtk_key k).pers ((decide_eq_false (by rw [← gpiv_eq]; exact fun h => h hz)).symm))
        (fun _ => rfl) (by decide) ⟨rfl, fun _ => rfl⟩ ⟨rfl, fun _ => rfl⟩ ⟨rfl, fun _ => rfl⟩ ⟨rfl, fun _ => rfl⟩ ⟨rfl, fun _ => rfl⟩ ?_
      refine SCmp.yes (rfl) ?_
      refine SRet.pure (.tup rfl fun i c d e1 e2 => ?_)
      match i, e1, e2 with
      | 0, e1, e2 => cases e1; cases e2; exact .p _ pers_part0
      | 1, e1, e2 => cases e1; cases e2; exact .p _ (.int _ _)
end Go.Proofs.Ytjfcphohgicolaa

