/- Polynomials through points: right, At. -/
import Derived.Test.YtkaooejeljdbnaaVw1
namespace Go.Proofs.Ytkaooejeljdbnaa
open Go
set_option linter.unusedVariables false
set_option linter.unusedSimpArgs false
set_option maxRecDepth 10000

theorem clos_ok (m : Bool) (a b : Rat) {k : Nat} (ha : Bz a k) (hb : Bz b k) (hk : k + k ≤ 1048576) : CallP Try.prog 165 [ratP b, .pel m (ratP a)] (.p (.bool (decide (a = b)))) [] := by
  refine callG_of_vc (wr := wr0) Γok mixed Try.func165 (by kernel_rfl) rfl (by kernel_rfl) (le_of_ble rfl) (by simp) ?_
  refine SCall.pure (ratsame_ok a b ha.sz hb.sz (by omega)) ?_
  exact SRet.pure (.p _ (.bool _))

def idxQ (a : Rat) : List Rat → Nat → Int
  | [], _ => -1
  | v :: l, i => if a = v then (i : Int) else idxQ a l (i + 1)
theorem idxQ_mem (a : Rat) : ∀ (l : List Rat) (i : Nat), (0 ≤ idxQ a l i) ↔ a ∈ l := by
  intro l
  induction l with
  | nil => intro i; simp [idxQ]
  | cons v l ih =>
    intro i
    simp only [idxQ, List.mem_cons]
    split
    · rename_i h; simp [h]
    · rename_i h; rw [ih]; simp [h]
theorem idxQ_ge (a : Rat) : ∀ (l : List Rat) (i : Nat), -1 ≤ idxQ a l i ∧ idxQ a l i ≤ i + l.length := by
  intro l
  induction l with
  | nil => intro i; simp [idxQ]
  | cons v l ih =>
    intro i
    simp only [idxQ, List.length_cons]
    split
    · omega
    · have := ih (i + 1); omega
theorem drop_cons (l : List Rat) {i : Nat} (h : i < l.length) : l.drop i = l.getD i 0 :: l.drop (i + 1) := by
  rw [List.drop_eq_getElem_cons h]; simp [List.getD, h]

theorem indexF_ok (m m' : Bool) (l : List Rat) (a : Rat) {k : Nat} (hl : Bl l k) (ha : Bz a k) (hk : k + k ≤ 1048576) (hn : l.length ≤ 1099511627776) :
    CallP Try.prog 197 [ratsM m l, .fn 165 [.pel m' (ratP a)]] (.p (.int .i64 (idxQ a l 0))) [] := by
  refine callG_of_vc (wr := wr0) Γok mixed Try.func197 (by kernel_rfl) rfl (by kernel_rfl) (le_of_ble rfl) (by simp) ?_
  refine SZ.mk (l.length : Int) (by simp) ?_
  refine SLoop.mk Nat (fun i => ([(0, .p (ratsM m l)), (1, .p (.fn 165 [.pel m' (ratP a)])), (7, .p (.int .i64 l.length)), (8, .p (.int .i64 i))], []))
    (fun i => i ≤ l.length ∧ idxQ a l 0 = idxQ a (l.drop i) i) (fun i => l.length - i) 0 [] ⟨Nat.zero_le _, rfl⟩ ⟨rfl, .nil, rfl, rfl, rfl, ⟨rfl, rfl, rfl, rfl, trivial⟩, trivial⟩ ?_
  intro i ⟨h1, h2⟩
  by_cases hi : i < l.length
  · refine SCmp.yes (decide_eq_true (by omega)) ?_
    refine SIdx.rb i rfl hi ?_
    refine SCall.pure (pvs := [ratP (l.getD i 0), .pel m' (ratP a)]) (clos_ok m' a (l.getD i 0) ha (hl i hi) hk) ?_
    rw [drop_cons l hi, idxQ] at h2
    refine SCond.mk (fun hb => ?_) (fun hb => ?_)
    · rw [h2, if_pos (of_decide_eq_true hb)]
      exact SRet.pure (.p _ (.int _ _))
    · rw [if_neg (of_decide_eq_false hb)] at h2
      refine SWrap.i64z ((i + 1 : Nat) : Int) (by omega) (by omega) ?_
      exact ⟨i + 1, [], ⟨hi, h2⟩, by show l.length - (i + 1) < l.length - i; omega, ⟨rfl, .nil, rfl, rfl, rfl, ⟨rfl, rfl, rfl, rfl, trivial⟩, trivial⟩⟩
  · refine SCmp.no (decide_eq_false (by omega)) ?_
    have : i = l.length := by omega
    subst this
    rw [h2, List.drop_length, idxQ]
    exact SRet.pure (.p _ (.int _ _))

theorem containsF_ok (m m' : Bool) (l : List Rat) (a : Rat) {k : Nat} (hl : Bl l k) (ha : Bz a k) (hk : k + k ≤ 1048576) (hn : l.length ≤ 1099511627776) :
    CallP Try.prog 164 [ratsM m l, .fn 165 [.pel m' (ratP a)]] (.p (.bool (decide (a ∈ l)))) [] := by
  refine callG_of_vc (wr := wr0) Γok mixed Try.func164 (by kernel_rfl) rfl (by kernel_rfl) (le_of_ble rfl) (by simp) ?_
  refine SCall.pure (indexF_ok m m' l a hl ha hk hn) ?_
  have := idxQ_mem a l 0
  by_cases h : a ∈ l
  · refine SCmp.yes (decide_eq_true (this.2 h)) ?_
    rw [decide_eq_true h]
    exact SRet.pure (.tf true)
  · refine SCmp.no (decide_eq_false (mt this.1 h)) ?_
    rw [decide_eq_false h]
    exact SRet.pure (.tf false)

theorem Bl.take {l : List Rat} {k : Nat} (h : Bl l k) (n : Nat) : Bl (l.take n) k := fun i hi => by
  rw [List.length_take] at hi
  have : (l.take n).getD i 0 = l.getD i 0 := by simp [List.getD, show i < n by omega]
  rw [this]; exact h i (by omega)
/-- What is wrong with nodes. -/
def rightZ (x f : List Rat) : Int := if x.length = 0 ∨ x.length ≠ f.length then 3 else if x.Nodup then 0 else 9
theorem right_ok (m m' : Bool) (x f : List Rat) {k : Nat} (hx : Bl x k) (hk : k + k ≤ 1048576) (hn : x.length ≤ 1099511627776) :
    CallP Try.prog 126 [ratsM m x, ratsM m' f] (.p (.int .i64 (rightZ x f))) [] := by
  refine callG_of_vc (wr := wr0) Γok mixed Try.func126 (by kernel_rfl) rfl (by kernel_rfl) (le_of_ble rfl) (by simp) ?_
  refine SZ.mk (x.length : Int) (by simp) ?_
  by_cases h0 : x.length = 0
  · refine SCmp.yes (eqT (by omega)) ?_
    rw [rightZ, if_pos (.inl h0)]
    exact SRet.pure (.p _ (.int _ _))
  · refine SCmp.no (eqF (by omega)) ?_
    refine SZ.mk (x.length : Int) (by simp) ?_
    refine SZ.mk (f.length : Int) (by simp) ?_
    refine SZ.mk (x.length : Int) (by simp) ?_
    refine SZ.mk (x.length : Int) (by simp) ?_
    by_cases hl : x.length = f.length
    · refine SCmp.no (by simp [hl]) ?_
      rw [rightZ, if_neg (by omega)]
      refine SZ.mk (x.length : Int) (by simp) ?_
      refine SLoop.mk Nat (fun i => ([(0, .p (ratsM m x)), (23, .p (ratsM m x)), (24, .p (.int .i64 x.length)), (25, .p (.int .i64 i))], [])) (fun i => i ≤ x.length ∧ (x.take i).Nodup) (fun i => x.length - i) 0 []
        ⟨Nat.zero_le _, List.nodup_nil⟩ ⟨rfl, .nil, rfl, rfl, rfl, ⟨rfl, rfl, rfl, rfl, trivial⟩, trivial⟩ ?_
      intro i ⟨h1, h2⟩
      by_cases hi : i < x.length
      · refine SCmp.yes (decide_eq_true (by omega)) ?_
        refine SIdx.rb i rfl hi ?_
        refine SZ.mk (i : Int) rfl ?_
        refine SLt.mk (by simp) ?_
        refine SCut.mk 0 i rfl rfl (by omega) (by simp; omega) ?_
        refine SEs.mk (rats (x.take i)) (by simp [List.map_take]) ?_
        have hc := containsF_ok m true (x.take i) (x.getD i 0) (hx.take i) (hx i hi) hk (by simp; omega)
        refine SCall.pure (pvs := [ratsM m (x.take i), .fn 165 [.pel true (ratP (x.getD i 0))]]) hc ?_
        have hnd : (x.take (i + 1)).Nodup ↔ x.getD i 0 ∉ x.take i := by
          rw [take_snoc x hi, List.nodup_append]
          simp [h2]
          constructor
          · intro h hm; exact h _ hm rfl
          · intro h a ha e; exact h (e ▸ ha)
        refine SCond.mk (fun hb => ?_) (fun hb => ?_)
        · have hb := of_decide_eq_true hb
          rw [if_neg (fun hx => (hnd.1 (hx.sublist (List.take_sublist _ _))) hb)]
          exact SRet.pure (.p _ (.int _ _))
        · have hb := of_decide_eq_false hb
          refine SWrap.i64z ((i + 1 : Nat) : Int) (by omega) (by omega) ?_
          exact ⟨i + 1, [], ⟨hi, hnd.2 hb⟩, by show x.length - (i + 1) < x.length - i; omega, ⟨rfl, .nil, rfl, rfl, rfl, ⟨rfl, rfl, rfl, rfl, trivial⟩, trivial⟩⟩
      · refine SCmp.no (decide_eq_false (by omega)) ?_
        rw [List.take_of_length_le (by omega)] at h2
        rw [if_pos h2]
        exact SRet.pure (.p _ (.int _ _))
    · refine SCmp.yes (by simp; omega) ?_
      rw [rightZ, if_pos (.inr hl)]
      exact SRet.pure (.p _ (.int _ _))

/-- A polynomial's value. -/
def hor (x : Rat) (c : List Rat) : Rat := c.foldr (fun a v => v * x + a) 0
abbrev rbox (q : Rat) : Blk := .box 37 [.p (.bool (decide (q.num < 0))), .p (natP q.num.natAbs), .p (natP q.den)]
theorem vat_ok (m : Bool) (c : List Rat) (x : Rat) {b s : Nat} (hc : Bl c b) (hx : Bz x s) (h : c.length * (s + b + 1) + s + b + 2 ≤ 1048576) (hn : c.length ≤ 1099511627776) :
    CallP Try.prog 25 [ratsM m c, ratP x] (.p (ratP (hor x c))) [] := by
  refine callG_of_vc (wr := wr0) Γok mixed Try.func25 (by kernel_rfl) rfl (by kernel_rfl) (le_of_ble rfl) (by simp) ?_
  refine SCall.pure (vzero_ok) ?_
  refine SZ.mk (c.length : Int) (by simp) ?_
  refine SWrap.i64z ((c.length : Int) - 1) rfl (by omega) ?_
  refine SLoop.mk (Nat × Int × Rat) (fun (j, z, v) => ([(0, .p (ratsM m c)), (3, .bptr 0 0), (4, .bptr 1 0), (5, .bptr 2 0), (6, .p (.int .i64 z))], [rbox x, .box 37 [.p (.bool false), .p (.sl false 1 []), .p (.sl false 1 [])], rbox v]))
    (fun (j, z, v) => j ≤ c.length ∧ z = (j : Int) - 1 ∧ v = hor x (c.drop j) ∧ Bz v ((c.length - j) * (s + b + 1) + 1)) (fun x => x.1) (c.length, (c.length : Int) - 1, 0) [0, 1, 2]
    ⟨Nat.le_refl _, rfl, by simp [hor], by rw [Nat.sub_self, Nat.zero_mul]; exact bz_zero⟩
    ⟨rfl, by simp, rfl, rfl, rfl, ⟨rfl, rfl, rfl, rfl, rfl, trivial⟩, ⟨rfl, rfl, rfl, trivial⟩⟩ ?_
  intro ⟨j, z, v⟩ ⟨h1, h2, h3, h4⟩
  by_cases hj : j = 0
  · subst hj
    refine SCmp.no (decide_eq_false (by omega)) ?_
    rw [List.drop_zero] at h3
    rw [← h3]
    exact SRet.pure (.p _ (pers_rat _ _ _))
  · obtain ⟨i, rfl⟩ := Nat.exists_eq_succ_of_ne_zero hj
    have hz : z = (i : Int) := by omega
    subst hz
    refine SCmp.yes (decide_eq_true (by omega)) ?_
    have hB : (c.length - i.succ) * (s + b + 1) + 1 + s + b + 1 ≤ 1048576 := by
      have : (c.length - i.succ) * (s + b + 1) ≤ c.length * (s + b + 1) := Nat.mul_le_mul_right _ (Nat.sub_le _ _)
      omega
    have hm := h4.mul hx
    have ha := hm.add (hc i (by omega))
    refine SDraw.mk (by kernel_rfl) ?_
    repeat refine SOp.mk _ _ (And.intro rfl rfl) rfl ?_
    refine SOp.mk _ _ (SCall.pure (ratmul_ok v x h4.sz hx.sz (by omega)) (And.intro rfl rfl)) rfl ?_
    repeat refine SOp.mk _ _ (And.intro rfl rfl) rfl ?_
    refine SOp.mk _ _ (SIdx.rb i rfl (by omega) (And.intro rfl rfl)) rfl ?_
    repeat refine SOp.mk _ _ (And.intro rfl rfl) rfl ?_
    refine SOp.mk _ _ (SCall.pure (ratadd_ok (v * x) (c.getD i 0) hm.sz (hc i (by omega)).sz (by omega)) (And.intro rfl rfl)) rfl ?_
    repeat refine SOp.mk _ _ (And.intro rfl rfl) rfl ?_
    refine SWrap.i64z ((i : Int) - 1) rfl (by omega) ?_
    refine ⟨(i, (i : Int) - 1, v * x + c.getD i 0), [0, 1, 2], ⟨by omega, rfl, ?_, ha.mono ?_⟩, Nat.lt_succ_self i, ⟨rfl, by simp, rfl, rfl, rfl, ⟨rfl, rfl, rfl, rfl, rfl, trivial⟩, ⟨rfl, rfl, rfl, trivial⟩⟩⟩
    · rw [drop_cons c (by omega), h3]; rfl
    · rw [show c.length - i = (c.length - i.succ) + 1 by omega, Nat.add_mul, Nat.one_mul]
      omega
end Go.Proofs.Ytkaooejeljdbnaa
