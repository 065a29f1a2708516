/- The order of nodes: the document's Leja. -/
import Derived.Test.YthenhipnibkdeaaJw1
namespace Go.Proofs.Ythenhipnibkdeaa
open Go
set_option linter.unusedVariables false
set_option linter.unusedSimpArgs false
set_option maxRecDepth 10000

/-- Which nodes are chosen. -/
def marks (n : Nat) (o : List Nat) : List PV := (List.range n).map fun i => .bool (decide (i ∈ o))
theorem marks_len {n : Nat} {o : List Nat} : (marks n o).length = n := by simp [marks]
theorem SIdx.mk' {n : Nat} {o : List Nat} {i : Int} {K : Nat → PV → Prop} (j : Nat) (b : Bool) (hi : i = j) (hj : j < n) (hb : decide (j ∈ o) = b) (hk : K j (.bool b)) : SIdx (marks n o) i K := by
  subst hb
  exact .mk j _ hi (by simp [marks, hj]) hk
theorem marks_nil (n : Nat) : List.replicate n (PV.bool false) = marks n [] := by
  apply List.ext_getElem (by simp [marks])
  intro k h1 h2
  simp [marks]
theorem marks_set {n j : Nat} {o : List Nat} : (marks n o).set j (.bool true) = marks n (o ++ [j]) := by
  apply List.ext_getElem (by simp [marks])
  intro k h1 h2
  simp only [List.getElem_set, marks, List.getElem_map, List.getElem_range]
  by_cases e : j = k
  · rw [if_pos e, decide_eq_true (by rw [e]; simp)]
  · rw [if_neg e]
    congr 1
    have : (k ∈ o ++ [j]) ↔ k ∈ o := by simp; omega
    simp only [this]
abbrev zbox : Blk := .box 37 [.p (.bool false), .p (.sl false 1 []), .p (.sl false 1 [])]
def obox (x : Nat → Rat) (o : List Nat) : Option Nat → Blk
  | none => zbox
  | some j => rbox (score x o j)
def part (x : Nat → Rat) (i : Nat) (o : List Nat) (q : Nat) : Rat := score x (o.take q) i
theorem part_step {x : Nat → Rat} {i q : Nat} {o : List Nat} (hq : q < o.length) : part x i o (q + 1) = (if q = 0 then 1 else part x i o q) * (x i - x (o.getD q 0)).abs := by
  have : o.take (q + 1) = o.take q ++ [o.getD q 0] := by rw [List.take_add_one]; simp [List.getD, List.getElem?_eq_getElem hq]
  rw [part, this, score_snoc]
  congr 1
  by_cases h : q = 0
  · subst h; rw [if_pos rfl, if_pos]; rfl
  · have hne : o.take q ≠ [] := fun e => by
      have := congrArg List.length e
      rw [List.length_take, List.length_nil] at this; omega
    rw [if_neg h, if_neg hne, part]

set_option maxHeartbeats 4000000 in
theorem rLeja_ok (m : Bool) (n : Nat) (x : Nat → Rat) {s : Nat} (hx : ∀ i, i < n → Bz (x i) s) (hb : n * (s + s + 1) + s + 1 ≤ 500000) (hn : n ≤ 1000000) :
    CallP Try.prog 31 [ratsM m (lst n x)] (.p (.sl false 1 (nats (leja x n n)))) [] := by
  refine callG_of_vc (wr := wr0) Γok mixed Try.func31 (by kernel_rfl) rfl (by kernel_rfl) (le_of_ble rfl) (by simp) ?_
  have hs : s ≤ 500000 := by omega
  obtain ⟨X, hX⟩ : ∃ X, X = lst n x := ⟨_, rfl⟩
  have hXl : X.length = n := by rw [hX, lst_length]
  have hXg : ∀ i, i < n → X.getD i 0 = x i := fun i hi => by rw [hX, lst_getD hi]
  rw [← hX]
  refine SZ.mk (n : Int) (by simp [hXl]) ?_
  refine SZ.mk (n : Int) rfl ?_
  refine SLt.mk (by simp) ?_
  refine SMake.mk n rfl (by show n * 1 ≤ _; omega) (by omega) ?_
  refine SLoop.mkT Nat (fun k => ([(0, .p (ratsM m X)), (3, .vec 1 1 0 k), (4, .vec 0 1 0 n)], [.vec 4 1 (marks n (leja x n k)), .vec 3 1 (nats (leja x n k))]))
    (fun k => k ≤ n) (fun k => n - k) 0 [0, 1] _ _ (.step 3 3 1 rfl (.done _ _)) (Nat.zero_le _) ⟨rfl, by simp, rfl, rfl, rfl, ⟨rfl, rfl, rfl, trivial⟩, ⟨congrArg _ (marks_nil n).symm, rfl, trivial⟩⟩ ?_
  intro k g1
  have g1 : k ≤ n := g1
  obtain ⟨o, ho⟩ : ∃ o, o = leja x n k := ⟨_, rfl⟩
  have hol : o.length = k := by rw [ho, leja_length]
  have hon : ∀ q ∈ o, q < n := by rw [ho]; exact leja_lt x n k (by omega)
  rw [← ho]
  refine SZ.mk (k : Int) rfl ?_
  refine SZ.mk (n : Int) (by simp [hXl]) ?_
  by_cases hk : k < n
  · refine SCmp.yes (decide_eq_true (by omega)) ?_
    obtain ⟨j, hj, hnext⟩ := leja_scan x hk
    rw [← ho] at hj hnext
    have hjn := (scan_some hj).1
    have hmul : s + s + 1 ≤ n * (s + s + 1) := Nat.le_mul_of_pos_left _ (by omega)
    have zs : ∀ q, q < n → Bz (score x o q) (n * (s + s + 1) + s + 1) := fun q hq => score_bz hx hq hon (by omega)
    refine SLoop.mk (Nat × Option Nat) (fun (i, best) => ([(0, .p (ratsM m X)), (3, .vec 1 1 0 k), (4, .vec 0 1 0 n), (5, .p (.int .i64 (optZ best))), (6, .bptr 2 0), (7, .p (.int .i64 i))], [.vec 4 1 (marks n o), .vec 3 1 (nats o), obox x o best]))
      (fun (i, best) => i ≤ n ∧ best = scan x o i) (fun x => n - x.1) (0, none) [0, 1, 2] ⟨Nat.zero_le _, rfl⟩ ⟨rfl, by simp, rfl, rfl, rfl, ⟨rfl, rfl, rfl, rfl, rfl, rfl, trivial⟩, ⟨rfl, rfl, rfl, trivial⟩⟩ ?_
    intro ⟨i, best⟩ ⟨u1, u2⟩
    refine SZ.mk (n : Int) (by simp [hXl]) ?_
    by_cases hi : i < n
    · refine SCmp.yes (decide_eq_true (by omega)) ?_
      refine SPos.mk i rfl hi ?_
      by_cases hio : i ∈ o
      · refine SIdx.mk' i true rfl hi (decide_eq_true hio) ?_
        refine SCond.mk (fun _ => ?_) (fun h => by cases h)
        refine SWrap.i64z ((i + 1 : Nat) : Int) (by omega) (by omega) ?_
        cases best with
        | none => exact ⟨(i + 1, none), [0, 1, 2], ⟨hi, by rw [scan_out hio]; exact u2⟩, by show n - (i + 1) < n - i; omega, ⟨rfl, by simp, rfl, rfl, rfl, ⟨rfl, rfl, rfl, rfl, rfl, rfl, trivial⟩, ⟨rfl, rfl, rfl, trivial⟩⟩⟩
        | some b => exact ⟨(i + 1, some b), [0, 1, 2], ⟨hi, by rw [scan_out hio]; exact u2⟩, by show n - (i + 1) < n - i; omega, ⟨rfl, by simp, rfl, rfl, rfl, ⟨rfl, rfl, rfl, rfl, rfl, rfl, trivial⟩, ⟨rfl, rfl, rfl, trivial⟩⟩⟩
      · refine SIdx.mk' i false rfl hi (decide_eq_false hio) ?_
        refine SCond.mk (fun h => by cases h) (fun _ => ?_)
        refine SIdx.rb i rfl (by omega) ?_
        rw [hXg i hi]
        refine SCall.pure (rabs_ok (x i) (hx i hi) (by omega)) ?_
        have zp : ∀ q, q ≤ k → Bz (part x i o q) (n * (s + s + 1) + s + 1) := fun q hq => score_bz hx hi (fun t ht => hon t (List.mem_of_mem_take ht)) (by simp; omega)
        have e0 : part x i o 0 = (x i).abs := score_nil x i
        have ek : part x i o k = score x o i := by rw [part, List.take_of_length_le (by omega)]
        rw [← e0]
        cases best with
        | none =>
          refine SLoop.mk Nat (fun q => ([(0, .p (ratsM m X)), (3, .vec 1 1 0 k), (4, .vec 0 1 0 n), (5, .p (.int .i64 (-1))), (6, .bptr 2 0), (7, .p (.int .i64 i)), (8, .bptr 3 0), (9, .p (.int .i64 q))], [.vec 4 1 (marks n o), .vec 3 1 (nats o), zbox, rbox (part x i o q)]))
            (fun q => q ≤ k) (fun q => k - q) 0 [0, 1, 2, 3] (Nat.zero_le _) ⟨rfl, by simp, rfl, rfl, rfl, ⟨rfl, rfl, rfl, rfl, rfl, rfl, rfl, rfl, trivial⟩, ⟨rfl, rfl, rfl, rfl, trivial⟩⟩ ?_
          intro q w1
          have w1 : q ≤ k := w1
          refine SZ.mk (k : Int) rfl ?_
          by_cases hq : q < k
          · refine SCmp.yes (decide_eq_true (by omega)) ?_
            have hqo : o.getD q 0 < n := hon _ (by rw [List.getD, List.getElem?_eq_getElem (by omega)]; exact List.getElem_mem _)
            obtain ⟨t, ht⟩ : ∃ t, t = o.getD q 0 := ⟨_, rfl⟩
            have hps := part_step (x := x) (i := i) (o := o) (q := q) (by omega)
            rw [← ht] at hps hqo
            have z1 := (hx i hi).sub (hx t hqo)
            refine SDraw.mk (by kernel_rfl) ?_
            repeat refine SOp.mk _ _ (And.intro rfl rfl) rfl ?_
            refine SOp.mk _ _ (SIdx.rb i rfl (by omega) (And.intro rfl rfl)) rfl ?_
            repeat refine SOp.mk _ _ (And.intro rfl rfl) rfl ?_
            rw [hXg i hi]
            refine SOp.mk _ _ (SPos.mk q rfl hq (And.intro rfl rfl)) rfl ?_
            refine SOp.mk _ _ (SIdx.nb q rfl (by omega) (And.intro rfl rfl)) rfl ?_
            rw [← ht]
            refine SOp.mk _ _ (SIdx.rb t rfl (by omega) (And.intro rfl rfl)) rfl ?_
            repeat refine SOp.mk _ _ (And.intro rfl rfl) rfl ?_
            rw [hXg t hqo]
            refine SOp.mk _ _ (SCall.pure (rsubq_ok _ _ (hx i hi) (hx t hqo) (by omega)) (And.intro rfl rfl)) rfl ?_
            refine SOp.mk _ _ (SCall.pure (rabs_ok _ z1 (by omega)) (And.intro rfl rfl)) rfl ?_
            repeat refine SOp.mk _ _ (And.intro rfl rfl) rfl ?_
            by_cases h0 : q = 0
            · refine SCmp.yes (eqT (by omega)) ?_
              refine SWrap.i64z ((q + 1 : Nat) : Int) (by omega) (by omega) ?_
              rw [if_pos h0] at hps
              have hps : part x i o (q + 1) = (x i - x t).abs := by rw [hps]; grind
              exact ⟨q + 1, [0, 1, 2, 3], hq, by show k - (q + 1) < k - q; omega, ⟨rfl, by simp, rfl, rfl, rfl, ⟨rfl, rfl, rfl, rfl, rfl, rfl, rfl, rfl, trivial⟩, ⟨rfl, rfl, rfl, congrArg rbox hps, trivial⟩⟩⟩
            · refine SCmp.no (eqF (by omega)) ?_
              rw [if_neg h0] at hps
              refine SCall.pure (rmulq_ok _ _ (zp q (by omega)) z1.abs (by omega)) ?_
              refine SWrap.i64z ((q + 1 : Nat) : Int) (by omega) (by omega) ?_
              exact ⟨q + 1, [0, 1, 2, 3], hq, by show k - (q + 1) < k - q; omega, ⟨rfl, by simp, rfl, rfl, rfl, ⟨rfl, rfl, rfl, rfl, rfl, rfl, rfl, rfl, trivial⟩, ⟨rfl, rfl, rfl, congrArg rbox hps, trivial⟩⟩⟩
          · refine SCmp.no (decide_eq_false (by omega)) ?_
            have hqk : q = k := by omega
            subst hqk
            refine SCmp.yes (rfl) ?_
            refine SDraw.mk (by kernel_rfl) ?_
            repeat refine SOp.mk _ _ (And.intro rfl rfl) rfl ?_
            refine SWrap.i64z ((i + 1 : Nat) : Int) (by omega) (by omega) ?_
            exact ⟨(i + 1, some i), [0, 1, 2], ⟨hi, by rw [scan_first hio u2.symm]⟩, by show n - (i + 1) < n - i; omega, ⟨rfl, by simp, rfl, rfl, rfl, ⟨rfl, rfl, rfl, rfl, rfl, rfl, trivial⟩, ⟨rfl, rfl, congrArg rbox ek.symm, trivial⟩⟩⟩
        | some b =>
          have hb' := scan_some u2.symm
          refine SLoop.mk Nat (fun q => ([(0, .p (ratsM m X)), (3, .vec 1 1 0 k), (4, .vec 0 1 0 n), (5, .p (.int .i64 b)), (6, .bptr 2 0), (7, .p (.int .i64 i)), (8, .bptr 3 0), (9, .p (.int .i64 q))], [.vec 4 1 (marks n o), .vec 3 1 (nats o), rbox (score x o b), rbox (part x i o q)]))
            (fun q => q ≤ k) (fun q => k - q) 0 [0, 1, 2, 3] (Nat.zero_le _) ⟨rfl, by simp, rfl, rfl, rfl, ⟨rfl, rfl, rfl, rfl, rfl, rfl, rfl, rfl, trivial⟩, ⟨rfl, rfl, rfl, rfl, trivial⟩⟩ ?_
          intro q w1
          have w1 : q ≤ k := w1
          refine SZ.mk (k : Int) rfl ?_
          by_cases hq : q < k
          · refine SCmp.yes (decide_eq_true (by omega)) ?_
            have hqo : o.getD q 0 < n := hon _ (by rw [List.getD, List.getElem?_eq_getElem (by omega)]; exact List.getElem_mem _)
            obtain ⟨t, ht⟩ : ∃ t, t = o.getD q 0 := ⟨_, rfl⟩
            have hps := part_step (x := x) (i := i) (o := o) (q := q) (by omega)
            rw [← ht] at hps hqo
            have z1 := (hx i hi).sub (hx t hqo)
            refine SDraw.mk (by kernel_rfl) ?_
            repeat refine SOp.mk _ _ (And.intro rfl rfl) rfl ?_
            refine SOp.mk _ _ (SIdx.rb i rfl (by omega) (And.intro rfl rfl)) rfl ?_
            repeat refine SOp.mk _ _ (And.intro rfl rfl) rfl ?_
            rw [hXg i hi]
            refine SOp.mk _ _ (SPos.mk q rfl hq (And.intro rfl rfl)) rfl ?_
            refine SOp.mk _ _ (SIdx.nb q rfl (by omega) (And.intro rfl rfl)) rfl ?_
            rw [← ht]
            refine SOp.mk _ _ (SIdx.rb t rfl (by omega) (And.intro rfl rfl)) rfl ?_
            repeat refine SOp.mk _ _ (And.intro rfl rfl) rfl ?_
            rw [hXg t hqo]
            refine SOp.mk _ _ (SCall.pure (rsubq_ok _ _ (hx i hi) (hx t hqo) (by omega)) (And.intro rfl rfl)) rfl ?_
            refine SOp.mk _ _ (SCall.pure (rabs_ok _ z1 (by omega)) (And.intro rfl rfl)) rfl ?_
            repeat refine SOp.mk _ _ (And.intro rfl rfl) rfl ?_
            by_cases h0 : q = 0
            · refine SCmp.yes (eqT (by omega)) ?_
              refine SWrap.i64z ((q + 1 : Nat) : Int) (by omega) (by omega) ?_
              rw [if_pos h0] at hps
              have hps : part x i o (q + 1) = (x i - x t).abs := by rw [hps]; grind
              exact ⟨q + 1, [0, 1, 2, 3], hq, by show k - (q + 1) < k - q; omega, ⟨rfl, by simp, rfl, rfl, rfl, ⟨rfl, rfl, rfl, rfl, rfl, rfl, rfl, rfl, trivial⟩, ⟨rfl, rfl, rfl, congrArg rbox hps, trivial⟩⟩⟩
            · refine SCmp.no (eqF (by omega)) ?_
              rw [if_neg h0] at hps
              refine SCall.pure (rmulq_ok _ _ (zp q (by omega)) z1.abs (by omega)) ?_
              refine SWrap.i64z ((q + 1 : Nat) : Int) (by omega) (by omega) ?_
              exact ⟨q + 1, [0, 1, 2, 3], hq, by show k - (q + 1) < k - q; omega, ⟨rfl, by simp, rfl, rfl, rfl, ⟨rfl, rfl, rfl, rfl, rfl, rfl, rfl, rfl, trivial⟩, ⟨rfl, rfl, rfl, congrArg rbox hps, trivial⟩⟩⟩
          · refine SCmp.no (decide_eq_false (by omega)) ?_
            have hqk : q = k := by omega
            subst hqk
            refine SCmp.no (decide_eq_false (by omega)) ?_
            have hc := rcmpq_ok (part x i o q) (score x o b) (zp q (Nat.le_refl _)) (zs b (by omega)) (by omega)
            refine SCall.pure (hc) ?_
            rw [ek] at hc
            by_cases hlt : score x o b < score x o i
            · refine SCmp.yes (decide_eq_true (by rw [ek]; exact cmpQ_pos.2 hlt)) ?_
              refine SDraw.mk (by kernel_rfl) ?_
              repeat refine SOp.mk _ _ (And.intro rfl rfl) rfl ?_
              refine SWrap.i64z ((i + 1 : Nat) : Int) (by omega) (by omega) ?_
              exact ⟨(i + 1, some i), [0, 1, 2], ⟨hi, by rw [scan_more hio u2.symm, if_pos hlt]⟩, by show n - (i + 1) < n - i; omega, ⟨rfl, by simp, rfl, rfl, rfl, ⟨rfl, rfl, rfl, rfl, rfl, rfl, trivial⟩, ⟨rfl, rfl, congrArg rbox ek.symm, trivial⟩⟩⟩
            · refine SCmp.no (decide_eq_false (by rw [ek]; exact mt cmpQ_pos.1 hlt)) ?_
              refine SWrap.i64z ((i + 1 : Nat) : Int) (by omega) (by omega) ?_
              exact ⟨(i + 1, some b), [0, 1, 2], ⟨hi, by rw [scan_more hio u2.symm, if_neg hlt]⟩, by show n - (i + 1) < n - i; omega, ⟨rfl, by simp, rfl, rfl, rfl, ⟨rfl, rfl, rfl, rfl, rfl, rfl, trivial⟩, ⟨rfl, rfl, rfl, trivial⟩⟩⟩
    · refine SCmp.no (decide_eq_false (by omega)) ?_
      have hin : i = n := by omega
      subst hin
      have hbest : best = some j := by rw [u2, hj]
      subst hbest
      refine SPos.mk j rfl hjn ?_
      refine SLt.mk (by rw [marks_len]; omega) ?_
      refine SEs.mk _ (marks_set (j := j)) ?_
      refine SEqN.mk (by simp [hol]) ?_
      refine SView.all rfl ?_
      refine SRoom.mk (by simp [hol]; omega) (by simp [hol]; omega) ?_
      refine SEs.mk _ (nats_snoc o j) ?_
      refine SZN.mk (k + 1) (by simp [hol]) ?_
      exact ⟨k + 1, [0, 4], hk, by show i - (k + 1) < i - k; omega, ⟨rfl, by simp, rfl, rfl, rfl, ⟨rfl, rfl, rfl, trivial⟩, ⟨congrArg (fun l => Blk.vec 4 1 (marks i l)) hnext, congrArg (fun l => Blk.vec 3 1 (nats l)) hnext, trivial⟩⟩⟩
  · refine SCmp.no (decide_eq_false (by omega)) ?_
    have hkn : k = n := by omega
    subst hkn
    rw [ho]
    exact SRet.pure (frzN rfl (by rw [leja_length]))
end Go.Proofs.Ythenhipnibkdeaa
