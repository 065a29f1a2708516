/- The order of nodes: Index, Contains, the program's Leja. -/
import Derived.Test.YthenhipnibkdeaaJm
namespace Go.Proofs.Ythenhipnibkdeaa
open Go
set_option linter.unusedVariables false
set_option linter.unusedSimpArgs false
set_option maxRecDepth 10000

abbrev nats (l : List Nat) : List PV := l.map fun (x : Nat) => .int .i64 (x : Int)
theorem SIdx.nb {l : List Nat} {i : Int} {K : Nat → PV → Prop} (j : Nat) (hi : i = j) (hj : j < l.length) (hk : K j (.int .i64 ((l.getD j 0 : Nat) : Int))) : SIdx (nats l) i K :=
  .mk j _ hi (by simp [List.getElem?_map, List.getElem?_eq_getElem hj, List.getD]) hk
theorem pers_nats (l : List Nat) : ∀ e ∈ nats l, ∀ c ∈ e.cells, Pers c := by
  intro e he c hc
  obtain ⟨x, _, rfl⟩ := List.mem_map.1 he
  obtain rfl := List.mem_singleton.1 hc
  exact .int _ _
theorem frzN {H : Hp} {h : Nat} {l : List Nat} {T : TypeId} {n : Nat} (hB : look H h = .vec T 1 (nats l)) (hn : n = l.length) : Conv [] H (.vec h 1 0 n) (.p (.sl false 1 (nats l))) :=
  .frz hB (by simp) (by simp [hn]) (pers_nats l) (by rw [List.drop_zero]; exact List.take_of_length_le (by simp [hn]))

def idxN (a : Nat) : List Nat → Nat → Int
  | [], _ => -1
  | v :: l, i => if a = v then (i : Int) else idxN a l (i + 1)
theorem idxN_mem (a : Nat) : ∀ (l : List Nat) (i : Nat), (0 ≤ idxN a l i) ↔ a ∈ l := by
  intro l
  induction l with
  | nil => intro i; simp [idxN]
  | cons v l ih =>
    intro i
    simp only [idxN, List.mem_cons]
    split
    · rename_i h; simp [h]
    · rename_i h; rw [ih]; simp [h]
theorem drop_consN (l : List Nat) {i : Nat} (h : i < l.length) : l.drop i = l.getD i 0 :: l.drop (i + 1) := by
  rw [List.drop_eq_getElem_cons h]; simp [List.getD, h]
theorem indexN_ok (m : Bool) (l : List Nat) (a : Nat) (hn : l.length ≤ 1099511627776) : CallP Try.prog 79 [.sl m 1 (nats l), .int .i64 a] (.p (.int .i64 (idxN a l 0))) [] := by
  refine callG_of_vc (wr := wr0) Γok mixed Try.func79 (by kernel_rfl) rfl (by kernel_rfl) (le_of_ble rfl) (by simp) ?_
  refine SZ.mk (l.length : Int) (by simp) ?_
  refine SLoop.mk Nat (fun i => ([(0, .p (.sl m 1 (nats l))), (1, .p (.int .i64 a)), (7, .p (.int .i64 l.length)), (8, .p (.int .i64 i))], []))
    (fun i => i ≤ l.length ∧ idxN a l 0 = idxN a (l.drop i) i) (fun i => l.length - i) 0 [] ⟨Nat.zero_le _, rfl⟩ ⟨rfl, .nil, rfl, rfl, rfl, ⟨rfl, rfl, rfl, rfl, trivial⟩, trivial⟩ ?_
  intro i ⟨h1, h2⟩
  by_cases hi : i < l.length
  · refine SCmp.yes (decide_eq_true (by omega)) ?_
    refine SIdx.nb i rfl hi ?_
    rw [drop_consN l hi, idxN] at h2
    by_cases e : a = l.getD i 0
    · refine SCmp.yes (eqT (by omega)) ?_
      rw [h2, if_pos e]
      exact SRet.pure (.p _ (.int _ _))
    · refine SCmp.no (eqF (by omega)) ?_
      rw [if_neg e] at h2
      refine SWrap.i64z ((i + 1 : Nat) : Int) (by omega) (by omega) ?_
      exact ⟨i + 1, [], ⟨hi, h2⟩, by show l.length - (i + 1) < l.length - i; omega, ⟨rfl, .nil, rfl, rfl, rfl, ⟨rfl, rfl, rfl, rfl, trivial⟩, trivial⟩⟩
  · refine SCmp.no (decide_eq_false (by omega)) ?_
    have : i = l.length := by omega
    subst this
    rw [h2, List.drop_length, idxN]
    exact SRet.pure (.p _ (.int _ _))
theorem containsN_ok (m : Bool) (l : List Nat) (a : Nat) (hn : l.length ≤ 1099511627776) : CallP Try.prog 54 [.sl m 1 (nats l), .int .i64 a] (.p (.bool (decide (a ∈ l)))) [] := by
  refine callG_of_vc (wr := wr0) Γok mixed Try.func54 (by kernel_rfl) rfl (by kernel_rfl) (le_of_ble rfl) (by simp) ?_
  refine SCall.pure (indexN_ok m l a hn) ?_
  have := idxN_mem a l 0
  by_cases h : a ∈ l
  · refine SCmp.yes (decide_eq_true (this.2 h)) ?_
    rw [decide_eq_true h]
    exact SRet.pure (.tf true)
  · refine SCmp.no (decide_eq_false (mt this.1 h)) ?_
    rw [decide_eq_false h]
    exact SRet.pure (.tf false)

theorem vabs_ok (q : Rat) {k : Nat} (h : Bz q k) (hk : k ≤ 1099511627776) : CallP Try.prog 53 [ratP q] (.p (ratP q.abs)) [] := by
  have := abs_ok q (h.nn hk) (h.nd hk)
  rwa [absP] at this
theorem cmpQ_pos {p q : Rat} : (0 < cmpQ p q) ↔ q < p := by
  unfold cmpQ
  split
  · rename_i h; constructor
    · intro h; omega
    · intro h2; grind
  · rename_i h
    split
    · rename_i e; constructor
      · intro h; omega
      · intro h2; grind
    · rename_i e
      constructor
      · intro _; grind
      · intro _; omega
theorem cmpQ_neg {p q : Rat} : (cmpQ p q < 0) ↔ p < q := by
  unfold cmpQ
  split
  · rename_i h; simp [h]
  · rename_i h
    split
    · constructor
      · intro h; omega
      · intro h2; grind
    · constructor
      · intro h; omega
      · intro h2; grind
def optZ : Option Nat → Int
  | none => -1
  | some j => j
theorem scan_out {x : Nat → Rat} {o : List Nat} {i : Nat} (h : i ∈ o) : scan x o (i + 1) = scan x o i := by rw [scan, if_pos h]
theorem scan_first {x : Nat → Rat} {o : List Nat} {i : Nat} (h : i ∉ o) (hs : scan x o i = none) : scan x o (i + 1) = some i := by rw [scan, if_neg h, hs]
theorem scan_more {x : Nat → Rat} {o : List Nat} {i j : Nat} (h : i ∉ o) (hs : scan x o i = some j) : scan x o (i + 1) = if score x o j < score x o i then some i else some j := by rw [scan, if_neg h, hs]
theorem nats_snoc (l : List Nat) (j : Nat) : nats l ++ [.int .i64 (j : Int)] = nats (l ++ [j]) := by simp [nats]

theorem Leja_ok (m : Bool) (n : Nat) (x : Nat → Rat) {s : Nat} (hx : ∀ i, i < n → Bz (x i) s) (hb : n * (s + s + 1) + s + 1 ≤ 500000) (hn : n ≤ 1000000) :
    CallP Try.prog 30 [ratsM m (lst n x)] (.p (.sl false 1 (nats (leja x n n)))) [] := by
  refine callG_of_vc (wr := wr0) Γok mixed Try.func30 (by kernel_rfl) rfl (by kernel_rfl) (le_of_ble rfl) (by simp) ?_
  have hs : s ≤ 500000 := by omega
  refine SZ.mk (n : Int) (by simp [lst]) ?_
  refine SZ.mk (n : Int) rfl ?_
  refine SLt.mk (by simp) ?_
  refine SMake.rat n rfl (by omega) ?_
  refine SZ.mk (n : Int) (by simp [lst]) ?_
  obtain ⟨X, hX⟩ : ∃ X, X = lst n x := ⟨_, rfl⟩
  have hXl : X.length = n := by rw [hX, lst_length]
  have hXg : ∀ i, i < n → X.getD i 0 = x i := fun i hi => by rw [hX, lst_getD hi]
  rw [← hX]
  refine SLoop.mk Nat (fun i => ([(0, .p (ratsM m X)), (3, .vec 0 3 0 n), (14, .p (ratsM m X)), (15, .p (.int .i64 n)), (16, .p (.int .i64 i))], [.vec 37 3 (rats (lst i (score x [])) ++ List.replicate (n - i) rat0)]))
    (fun i => i ≤ n) (fun i => n - i) 0 [0] (Nat.zero_le _) ⟨rfl, by simp, rfl, rfl, rfl, ⟨rfl, rfl, rfl, rfl, rfl, trivial⟩, ⟨rfl, trivial⟩⟩ ?_
  intro i h1
  have h1 : i ≤ n := h1
  by_cases hi : i < n
  · refine SCmp.yes (decide_eq_true (by omega)) ?_
    refine SIdx.rb i rfl (by omega) ?_
    rw [hXg i hi]
    refine SCall.pure (vabs_ok (x i) (hx i hi) (by omega)) ?_
    refine SPos.mk i rfl hi ?_
    refine SLt.mk (by simp [lst]; omega) ?_
    refine SEs.mk _ (fill_set _ _ _ hi (by simp [lst])) ?_
    refine SWrap.i64z ((i + 1 : Nat) : Int) (by omega) (by omega) ?_
    refine ⟨i + 1, [0], hi, by show n - (i + 1) < n - i; omega, ⟨rfl, by simp, rfl, rfl, rfl, ⟨rfl, rfl, rfl, rfl, rfl, trivial⟩, ⟨?_, trivial⟩⟩⟩
    show Blk.vec _ _ _ = Blk.vec _ _ _
    rw [← lst_snoc, score_nil, rats, rats, List.map_append]
    rfl
  · refine SCmp.no (decide_eq_false (by omega)) ?_
    have : i = n := by omega
    subst this
    refine SZ.mk (i : Int) (by simp [hXl]) ?_
    refine SLoop.mkT Nat (fun k => ([(0, .p (ratsM m X)), (3, .vec 0 3 0 i), (6, .vec 1 1 0 k), (28, .p (.int .i64 i)), (29, .p (.int .i64 k))], [.vec 37 3 (rats (lst i (score x (leja x i k)))), .vec 3 1 (nats (leja x i k))]))
      (fun k => k ≤ i) (fun k => i - k) 0 [0, 1] _ _ (.step 6 3 1 rfl (.done _ _)) (Nat.zero_le _) ⟨rfl, by simp, rfl, rfl, rfl, ⟨rfl, rfl, rfl, rfl, rfl, trivial⟩, ⟨by rw [Nat.sub_self]; show Blk.vec _ _ _ = Blk.vec _ _ _; simp [leja], rfl, trivial⟩⟩ ?_
    intro k g1
    have g1 : k ≤ i := g1
    obtain ⟨n, rfl⟩ : ∃ n, n = i := ⟨_, rfl⟩
    by_cases hk : k < n
    · refine SCmp.yes (decide_eq_true (by omega)) ?_
      obtain ⟨o, ho⟩ : ∃ o, o = leja x n k := ⟨_, rfl⟩
      have hol : o.length = k := by rw [ho, leja_length]
      have hon : ∀ q ∈ o, q < n := by rw [ho]; exact leja_lt x n k (by omega)
      obtain ⟨j, hj, hnext⟩ := leja_scan x hk
      rw [← ho] at hj hnext
      rw [← ho]
      have hjn := (scan_some hj).1
      have zs : ∀ q, q < n → Bz (score x o q) (n * (s + s + 1) + s + 1) := fun q hq => score_bz hx hq hon (by omega)
      refine SZ.mk (n : Int) (by simp [hXl]) ?_
      refine SLoop.mk (Nat × Option Nat) (fun (i, best) => ([(0, .p (ratsM m X)), (3, .vec 0 3 0 n), (6, .vec 1 1 0 k), (7, .p (.int .i64 k)), (8, .p (.int .i64 (optZ best))), (28, .p (.int .i64 n)), (29, .p (.int .i64 k)), (33, .p (.int .i64 n)), (34, .p (.int .i64 i))], [.vec 37 3 (rats (lst n (score x o))), .vec 3 1 (nats o)]))
        (fun (i, best) => i ≤ n ∧ best = scan x o i) (fun x => n - x.1) (0, none) [0, 1] ⟨Nat.zero_le _, rfl⟩ ⟨rfl, by simp, rfl, rfl, rfl, ⟨rfl, rfl, rfl, rfl, rfl, rfl, rfl, rfl, rfl, trivial⟩, ⟨rfl, rfl, trivial⟩⟩ ?_
      intro ⟨i, best⟩ ⟨u1, u2⟩
      by_cases hi : i < n
      · refine SCmp.yes (decide_eq_true (by omega)) ?_
        have hc := containsN_ok true o i (by omega)
        refine SDraw.mk (by kernel_rfl) ?_
        repeat refine SOp.mk _ _ (And.intro rfl rfl) rfl ?_
        by_cases hio : i ∈ o
        · rw [decide_eq_true hio] at hc
          refine SOp.mk _ _ (SView.all (by simp [hol]) <| SCall.pure (pvs := [.sl true 1 (nats o), .int .i64 i]) hc (And.intro rfl rfl)) rfl ?_
          refine SOp.mk _ _ (SCmp.no rfl (And.intro rfl rfl)) rfl ?_
          repeat refine SOp.mk _ _ (And.intro rfl rfl) rfl ?_
          refine SWrap.i64z ((i + 1 : Nat) : Int) (by omega) (by omega) ?_
          exact ⟨(i + 1, best), [0, 1], ⟨hi, by rw [scan_out hio]; exact u2⟩, by show n - (i + 1) < n - i; omega, ⟨rfl, by simp, rfl, rfl, rfl, ⟨rfl, rfl, rfl, rfl, rfl, rfl, rfl, rfl, rfl, trivial⟩, ⟨rfl, rfl, trivial⟩⟩⟩
        · rw [decide_eq_false hio] at hc
          refine SOp.mk _ _ (SView.all (by simp [hol]) <| SCall.pure (pvs := [.sl true 1 (nats o), .int .i64 i]) hc (And.intro rfl rfl)) rfl ?_
          refine SOp.mk _ _ (SCmp.yes rfl (And.intro rfl rfl)) rfl ?_
          repeat refine SOp.mk _ _ (And.intro rfl rfl) rfl ?_
          cases best with
          | none =>
            refine SOp.mk _ _ (SCmp.yes rfl (And.intro rfl rfl)) rfl ?_
            repeat refine SOp.mk _ _ (And.intro rfl rfl) rfl ?_
            refine SWrap.i64z ((i + 1 : Nat) : Int) (by omega) (by omega) ?_
            exact ⟨(i + 1, some i), [0, 1], ⟨hi, by rw [scan_first hio u2.symm]⟩, by show n - (i + 1) < n - i; omega, ⟨rfl, by simp, rfl, rfl, rfl, ⟨rfl, rfl, rfl, rfl, rfl, rfl, rfl, rfl, rfl, trivial⟩, ⟨rfl, rfl, trivial⟩⟩⟩
          | some b =>
            have hb' := scan_some u2.symm
            refine SOp.mk _ _ (SCmp.no (decide_eq_false (by simp only [optZ]; omega)) (And.intro rfl rfl)) rfl ?_
            repeat refine SOp.mk _ _ (And.intro rfl rfl) rfl ?_
            refine SOp.mk _ _ (SPos.mk i rfl hi (And.intro rfl rfl)) rfl ?_
            refine SOp.mk _ _ (SIdx.rf i rfl hi (And.intro rfl rfl)) rfl ?_
            repeat refine SOp.mk _ _ (And.intro rfl rfl) rfl ?_
            refine SOp.mk _ _ (SPos.mk b rfl (by omega) (And.intro rfl rfl)) rfl ?_
            refine SOp.mk _ _ (SIdx.rf b rfl (by omega) (And.intro rfl rfl)) rfl ?_
            refine SOp.mk _ _ (SCall.pure (ratcmp_ok _ _ (zs i hi).sz (zs b (by omega)).sz (by omega)) (And.intro rfl rfl)) rfl ?_
            by_cases hlt : score x o b < score x o i
            · refine SOp.mk _ _ (SCmp.yes (decide_eq_true (cmpQ_pos.2 hlt)) (And.intro rfl rfl)) rfl ?_
              repeat refine SOp.mk _ _ (And.intro rfl rfl) rfl ?_
              refine SWrap.i64z ((i + 1 : Nat) : Int) (by omega) (by omega) ?_
              exact ⟨(i + 1, some i), [0, 1], ⟨hi, by rw [scan_more hio u2.symm, if_pos hlt]⟩, by show n - (i + 1) < n - i; omega, ⟨rfl, by simp, rfl, rfl, rfl, ⟨rfl, rfl, rfl, rfl, rfl, rfl, rfl, rfl, rfl, trivial⟩, ⟨rfl, rfl, trivial⟩⟩⟩
            · refine SOp.mk _ _ (SCmp.no (decide_eq_false (mt cmpQ_pos.1 hlt)) (And.intro rfl rfl)) rfl ?_
              repeat refine SOp.mk _ _ (And.intro rfl rfl) rfl ?_
              refine SWrap.i64z ((i + 1 : Nat) : Int) (by omega) (by omega) ?_
              exact ⟨(i + 1, some b), [0, 1], ⟨hi, by rw [scan_more hio u2.symm, if_neg hlt]⟩, by show n - (i + 1) < n - i; omega, ⟨rfl, by simp, rfl, rfl, rfl, ⟨rfl, rfl, rfl, rfl, rfl, rfl, rfl, rfl, rfl, trivial⟩, ⟨rfl, rfl, trivial⟩⟩⟩
      · refine SCmp.no (decide_eq_false (by omega)) ?_
        have hin : i = n := by omega
        subst hin
        have hbest : best = some j := by rw [u2, hj]
        subst hbest
        refine SEqN.mk (by simp [hol]) ?_
        refine SView.all rfl ?_
        refine SRoom.mk (by simp [hol]; omega) (by simp [hol]; omega) ?_
        refine SEs.mk _ (nats_snoc o j) ?_
        refine SZN.mk (k + 1) (by simp [hol]) ?_
        refine SZ.mk (i : Int) (by simp [hXl]) ?_
        obtain ⟨new, hnew⟩ : ∃ new, new = score x (o ++ [j]) := ⟨_, rfl⟩
        obtain ⟨old, hold⟩ : ∃ old, old = score x o := ⟨_, rfl⟩
        rw [← hold] at zs ⊢
        obtain ⟨n, rfl⟩ : ∃ n, n = i := ⟨_, rfl⟩
        refine SLoop.mk Nat (fun i => ([(0, .p (ratsM m X)), (3, .vec 0 3 0 n), (6, .vec 1 1 0 (k + 1)), (7, .p (.int .i64 k)), (8, .p (.int .i64 j)), (28, .p (.int .i64 n)), (29, .p (.int .i64 k)), (64, .p (.int .i64 n)), (65, .p (.int .i64 i))], [.vec 37 3 (rats (lst n (mixU i new old))), .vec 3 1 (nats (o ++ [j]))]))
          (fun i => i ≤ n) (fun i => n - i) 0 [0, 3] (Nat.zero_le _) ⟨rfl, by simp, rfl, rfl, rfl, ⟨rfl, rfl, rfl, rfl, rfl, rfl, rfl, rfl, rfl, trivial⟩, ⟨vec_congr fun i hi => mixU_old (Nat.zero_le _), rfl, trivial⟩⟩ ?_
        intro i w1
        have w1 : i ≤ n := w1
        by_cases hi : i < n
        · refine SCmp.yes (decide_eq_true (by omega)) ?_
          have z1 := (hx i hi).sub (hx j hjn)
          have hsc : new i = (if o = [] then 1 else old i) * (x i - x j).abs := by rw [hnew, hold]; exact score_snoc x i j o
          by_cases hk0 : k = 0
          · have ho0 : o = [] := List.length_eq_zero_iff.1 (by omega)
            rw [if_pos ho0] at hsc
            refine SCmp.yes (eqT (by omega)) ?_
            refine SCall.pure (vone_ok) ?_
            refine SPos.mk i rfl hi ?_
            refine SLt.rf (show i + 0 < n by omega) ?_
            refine SEs.rf ?_
            refine SDraw.mk (by kernel_rfl) ?_
            repeat refine SOp.mk _ _ (And.intro rfl rfl) rfl ?_
            refine SOp.mk _ _ (SPos.mk i rfl hi (And.intro rfl rfl)) rfl ?_
            refine SOp.mk _ _ (SIdx.rv i 1 rfl hi (upd_same _ _ _) (And.intro rfl rfl)) rfl ?_
            repeat refine SOp.mk _ _ (And.intro rfl rfl) rfl ?_
            refine SOp.mk _ _ (SIdx.rb i rfl (by omega) (And.intro rfl rfl)) rfl ?_
            repeat refine SOp.mk _ _ (And.intro rfl rfl) rfl ?_
            rw [hXg i hi]
            refine SOp.mk _ _ (SIdx.rb j rfl (by omega) (And.intro rfl rfl)) rfl ?_
            rw [hXg j hjn]
            repeat refine SOp.mk _ _ (And.intro rfl rfl) rfl ?_
            refine SOp.mk _ _ (SCall.pure (ratsub_ok _ _ (hx i hi).sz (hx j hjn).sz (by omega)) (And.intro rfl rfl)) rfl ?_
            refine SOp.mk _ _ (SCall.pure (vabs_ok _ z1 (by omega)) (And.intro rfl rfl)) rfl ?_
            refine SOp.mk _ _ (SCall.pure (ratmul_ok _ _ bz_one.sz z1.abs.sz (by omega)) (And.intro rfl rfl)) rfl ?_
            refine SOp.mk _ _ (SPos.mk i rfl hi (And.intro rfl rfl)) rfl ?_
            refine SOp.mk _ _ (SLt.rf (show i + 0 < n by omega) <| SEs.rv (mixU (i + 1) new old) (by rw [← hsc, ← mixU_upd]; funext t; by_cases h : t = i <;> simp [upd, h]) (And.intro rfl rfl)) rfl ?_
            refine SWrap.i64z ((i + 1 : Nat) : Int) (by omega) (by omega) ?_
            exact ⟨i + 1, [0, 1], hi, by show n - (i + 1) < n - i; omega, ⟨rfl, by simp, rfl, rfl, rfl, ⟨rfl, rfl, rfl, rfl, rfl, rfl, rfl, rfl, rfl, trivial⟩, ⟨rfl, rfl, trivial⟩⟩⟩
          · have ho0 : o ≠ [] := fun e => hk0 (by rw [← hol, e]; rfl)
            rw [if_neg ho0] at hsc
            refine SCmp.no (eqF (by omega)) ?_
            refine SDraw.mk (by kernel_rfl) ?_
            repeat refine SOp.mk _ _ (And.intro rfl rfl) rfl ?_
            refine SOp.mk _ _ (SPos.mk i rfl hi (And.intro rfl rfl)) rfl ?_
            refine SOp.mk _ _ (SIdx.rv i (old i) rfl hi (mixU_old (Nat.le_refl _)) (And.intro rfl rfl)) rfl ?_
            repeat refine SOp.mk _ _ (And.intro rfl rfl) rfl ?_
            refine SOp.mk _ _ (SIdx.rb i rfl (by omega) (And.intro rfl rfl)) rfl ?_
            repeat refine SOp.mk _ _ (And.intro rfl rfl) rfl ?_
            rw [hXg i hi]
            refine SOp.mk _ _ (SIdx.rb j rfl (by omega) (And.intro rfl rfl)) rfl ?_
            rw [hXg j hjn]
            repeat refine SOp.mk _ _ (And.intro rfl rfl) rfl ?_
            refine SOp.mk _ _ (SCall.pure (ratsub_ok _ _ (hx i hi).sz (hx j hjn).sz (by omega)) (And.intro rfl rfl)) rfl ?_
            refine SOp.mk _ _ (SCall.pure (vabs_ok _ z1 (by omega)) (And.intro rfl rfl)) rfl ?_
            refine SOp.mk _ _ (SCall.pure (ratmul_ok _ _ (zs i hi).sz z1.abs.sz (by omega)) (And.intro rfl rfl)) rfl ?_
            refine SOp.mk _ _ (SPos.mk i rfl hi (And.intro rfl rfl)) rfl ?_
            refine SOp.mk _ _ (SLt.rf (show i + 0 < n by omega) <| SEs.rv (mixU (i + 1) new old) (by rw [← hsc]; exact mixU_upd) (And.intro rfl rfl)) rfl ?_
            refine SWrap.i64z ((i + 1 : Nat) : Int) (by omega) (by omega) ?_
            exact ⟨i + 1, [0, 1], hi, by show n - (i + 1) < n - i; omega, ⟨rfl, by simp, rfl, rfl, rfl, ⟨rfl, rfl, rfl, rfl, rfl, rfl, rfl, rfl, rfl, trivial⟩, ⟨rfl, rfl, trivial⟩⟩⟩
        · refine SCmp.no (decide_eq_false (by omega)) ?_
          refine SWrap.i64z ((k + 1 : Nat) : Int) (by omega) (by omega) ?_
          refine ⟨k + 1, [0, 1], hk, by show n - (k + 1) < n - k; omega, ⟨rfl, by simp, rfl, rfl, rfl, ⟨rfl, rfl, rfl, rfl, rfl, trivial⟩, ⟨?_, congrArg (fun l => Blk.vec 3 1 (nats l)) hnext, trivial⟩⟩⟩
          show Blk.vec _ _ _ = Blk.vec _ _ _
          rw [hnext, ← hnew]
          exact vec_congr fun q hq => (if_pos (by omega)).symm
    · refine SCmp.no (decide_eq_false (by omega)) ?_
      have hkn : k = n := by omega
      subst hkn
      exact SRet.pure (frzN rfl (by rw [leja_length]))
end Go.Proofs.Ythenhipnibkdeaa
