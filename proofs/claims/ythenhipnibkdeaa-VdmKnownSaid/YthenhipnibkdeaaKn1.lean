/- VdmKnown: these polynomials, weights, orders. -/
import Derived.Test.YthenhipnibkdeaaJw3
import Derived.Test.YthenhipnibkdeaaLo1
namespace Go.Proofs.Ythenhipnibkdeaa
open Go
set_option linter.unusedVariables false
set_option linter.unusedSimpArgs false
set_option maxRecDepth 10000

def intG (l : List Int) (i : Nat) : Rat := ((l.getD i 0 : Int) : Rat)
theorem ints14_ok (m : Bool) (l : List Int) (hl : I64s l) (hn : l.length ≤ 1000000) : CallP Try.prog 34 [.sl m 1 (intsP l)] (.p (ratsM false (lst l.length (intG l)))) [] := by
  refine callG_of_vc (wr := wr0) Γok mixed Try.func34 (by kernel_rfl) rfl (by kernel_rfl) (le_of_ble rfl) (by simp) ?_
  refine SLoop.mkT Nat (fun i => ([(0, .p (.sl m 1 (intsP l))), (3, .vec 0 3 0 i), (4, .p (.int .i64 i))], [.vec 37 3 (rats (lst i (intG l)))])) (fun i => i ≤ l.length) (fun i => l.length - i) 0 [0] _ _ (.step 3 37 3 rfl (.done _ _)) (Nat.zero_le _)
    ⟨rfl, by simp, rfl, rfl, rfl, ⟨rfl, rfl, rfl, trivial⟩, ⟨rfl, trivial⟩⟩ ?_
  intro i h1
  have h1 : i ≤ l.length := h1
  refine SZ.mk (l.length : Int) (by simp) ?_
  by_cases hi : i < l.length
  · refine SCmp.yes (decide_eq_true (by omega)) ?_
    refine SIdx.ib i rfl hi ?_
    refine SCall.pure (rint_ok (l.getD i 0) (hl i)) ?_
    have next : rats (lst i (intG l)) ++ [ratP ((l.getD i 0 : Int) : Rat)] = rats (lst (i + 1) (intG l)) := by rw [← lst_snoc, rats, rats, List.map_append]; rfl
    refine SEqN.mk (by simp [lst]) ?_
    refine SView.all rfl ?_
    refine SRoom.mk (by simp [lst]; omega) (by simp [lst]; omega) ?_
    refine SEs.mk _ next ?_
    refine SZN.mk (i + 1) (by simp [lst]) ?_
    refine SWrap.i64z ((i + 1 : Nat) : Int) (by omega) (by omega) ?_
    exact ⟨i + 1, [2], hi, by show l.length - (i + 1) < l.length - i; omega, ⟨rfl, by simp, rfl, rfl, rfl, ⟨rfl, rfl, rfl, trivial⟩, ⟨rfl, trivial⟩⟩⟩
  · refine SCmp.no (decide_eq_false (by omega)) ?_
    have : i = l.length := by omega
    subst this
    exact SRet.pure (frzR rfl (by rw [lst_length]))

theorem i64s_small {l : List Int} (h : ∀ x ∈ l, -100 ≤ x ∧ x ≤ 100) : I64s l := fun i => by
  by_cases hi : i < l.length
  · have : l.getD i 0 ∈ l := by rw [List.getD, List.getElem?_eq_getElem hi]; exact List.getElem_mem _
    have := h _ this
    exact ⟨by omega, by omega⟩
  · rw [getD_ge l 0 (by omega)]; exact ⟨by omega, by omega⟩
theorem intG_bz {l : List Int} (h : ∀ x ∈ l, -100 ≤ x ∧ x ≤ 100) (i : Nat) : Bz (intG l i) 7 := by
  refine int_bz (bitLen_le ?_) (by omega)
  by_cases hi : i < l.length
  · have : l.getD i 0 ∈ l := by rw [List.getD, List.getElem?_eq_getElem hi]; exact List.getElem_mem _
    have := h _ this
    show _ < 128
    omega
  · rw [getD_ge l 0 (by omega)]; decide

/-! #### the same over whole numbers, where it can be reckoned -/
def pevZ : Nat → (Nat → Int) → Int → Int
  | 0, c, _ => c 0
  | n + 1, c, X => c 0 + X * pevZ n (fun i => c (i + 1)) X
theorem pev_cast : ∀ (n : Nat) (c : Nat → Int) (X : Int), pev n (fun i => (c i : Rat)) (X : Rat) = (pevZ n c X : Rat) := by
  intro n
  induction n with
  | zero => intro c X; rfl
  | succ n ih => intro c X; rw [pev, ih (fun i => c (i + 1)), pevZ, Rat.intCast_add, Rat.intCast_mul]
theorem abs_cast (r : Int) : ((r : Int) : Rat).abs = ((r.natAbs : Int) : Rat) := by
  rw [Rat.abs]
  split
  · rename_i h
    have : 0 ≤ r := by exact_mod_cast h
    congr 1; omega
  · rename_i h
    have : ¬ 0 ≤ r := fun h2 => h (by exact_mod_cast h2)
    rw [← Rat.intCast_neg]
    congr 1; omega
def scoreZ (z : Nat → Int) (out : List Nat) (i : Nat) : Int := if out = [] then (z i).natAbs else out.foldl (fun p k => p * ((z i - z k).natAbs : Int)) 1
def scanZ (z : Nat → Int) (out : List Nat) : Nat → Option Nat
  | 0 => none
  | i + 1 => if i ∈ out then scanZ z out i else match scanZ z out i with
    | none => some i
    | some j => if scoreZ z out j < scoreZ z out i then some i else some j
def lejaZ (z : Nat → Int) (n : Nat) : Nat → List Nat
  | 0 => []
  | k + 1 => lejaZ z n k ++ [(scanZ z (lejaZ z n k) n).getD 0]
theorem score_cast (z : Nat → Int) (out : List Nat) (i : Nat) : score (fun i => (z i : Rat)) out i = (scoreZ z out i : Rat) := by
  unfold score scoreZ
  split
  · exact abs_cast _
  · have : ∀ (o : List Nat) (p : Int), o.foldl (fun p k => p * ((z i : Rat) - (z k : Rat)).abs) (p : Rat) = ((o.foldl (fun p k => p * ((z i - z k).natAbs : Int)) p : Int) : Rat) := by
      intro o
      induction o with
      | nil => intro p; rfl
      | cons k o ih =>
        intro p
        rw [List.foldl_cons, List.foldl_cons, ← ih]
        congr 1
        rw [← Rat.intCast_sub, abs_cast, Rat.intCast_mul]
    exact this out 1
theorem scan_cast (z : Nat → Int) (out : List Nat) : ∀ i, scan (fun i => (z i : Rat)) out i = scanZ z out i := by
  intro i
  induction i with
  | zero => rfl
  | succ i ih =>
    rw [scan, scanZ, ih]
    split
    · rfl
    · cases hs : scanZ z out i with
      | none => rfl
      | some j =>
        simp only [score_cast]
        by_cases h : scoreZ z out j < scoreZ z out i
        · rw [if_pos h, if_pos (by exact_mod_cast h)]
        · rw [if_neg h, if_neg (by exact_mod_cast h)]
theorem leja_cast (z : Nat → Int) (n : Nat) : ∀ k, leja (fun i => (z i : Rat)) n k = lejaZ z n k := by
  intro k
  induction k with
  | zero => rfl
  | succ k ih => rw [leja, lejaZ, ih, scan_cast]
theorem inj_cast {z : Nat → Int} {n : Nat} (h : ∀ i, i < n → ∀ j, j < n → z i = z j → i = j) : Inj (fun i => (z i : Rat)) n := fun i j hi hj e => h i hi j hj (by
  have e : ((z i : Int) : Rat) = (z j : Rat) := e
  exact_mod_cast e)

/-- There are no other weights with these moments. -/
theorem mom_unique {n : Nat} {x b w : Nat → Rat} (hd : Inj x (n + 1)) (h : ∀ j, j ≤ n → sm (n + 1) (fun i => w i * pw (x i) j) = b j) : ∀ k, k ≤ n → momC x n b k = w k := by
  intro k hk
  -- weights times values of any polynomial
  have pol : ∀ (c : Nat → Rat), sm (n + 1) (fun i => w i * pev n c (x i)) = sm (n + 1) (fun j => b j * c j) := by
    have key : ∀ (m : Nat) (c : Nat → Rat), m ≤ n → sm (n + 1) (fun i => w i * pev m (fun t => c (n - m + t)) (x i) * pw (x i) (n - m)) = sm (m + 1) (fun j => b (n - m + j) * c (n - m + j)) := by
      intro m
      induction m with
      | zero =>
        intro c _
        have : sm (n + 1) (fun i => w i * pev 0 (fun t => c (n - 0 + t)) (x i) * pw (x i) (n - 0)) = sm (n + 1) (fun i => c n * (w i * pw (x i) n)) := sm_congr fun i _ => by simp only [pev, Nat.sub_zero, Nat.add_zero]; grind
        rw [this, sm_smul, h n (Nat.le_refl _)]
        simp only [sm, Nat.sub_zero, Nat.add_zero]
        grind
      | succ m ih =>
        intro c hm
        have ih := ih c (by omega)
        obtain ⟨q, hq⟩ : ∃ q, q = n - (m + 1) := ⟨_, rfl⟩
        have hq1 : n - m = q + 1 := by omega
        rw [hq1] at ih
        rw [← hq]
        have e1 : sm (n + 1) (fun i => w i * pev (m + 1) (fun t => c (q + t)) (x i) * pw (x i) q) = sm (n + 1) (fun i => c q * (w i * pw (x i) q) + w i * pev m (fun t => c (q + 1 + t)) (x i) * pw (x i) (q + 1)) := sm_congr fun i _ => by
          have : pev m (fun t => c (q + (t + 1))) (x i) = pev m (fun t => c (q + 1 + t)) (x i) := pev_congr m _ fun t _ => by show c (q + (t + 1)) = c (q + 1 + t); congr 1; omega
          simp only [pev, pw, Nat.add_zero]
          rw [this]
          grind
        rw [e1, sm_add (fun i => c q * (w i * pw (x i) q)), sm_smul, h q (by omega), ih, sm_first (fun j => b (q + j) * c (q + j))]
        have e2 : sm (m + 1) (fun j => b (q + 1 + j) * c (q + 1 + j)) = sm (m + 1) (fun i => b (q + (i + 1)) * c (q + (i + 1))) := sm_congr fun j _ => by rw [show q + (j + 1) = q + 1 + j by omega]
        rw [e2]
        simp only [Nat.add_zero]
        grind
    intro c
    have := key n c (Nat.le_refl _)
    rw [Nat.sub_self] at this
    rw [sm_congr (g := fun i => w i * pev n (fun t => c (0 + t)) (x i) * pw (x i) 0) fun i _ => by simp only [pw, Nat.zero_add]; grind, this]
    exact sm_congr fun j _ => by rw [Nat.zero_add]
  have h1 := pol (thrC x n fun i => if i = k then 1 else 0)
  rw [dual x n b fun i => if i = k then 1 else 0, sm_one (n := n + 1) (j := k) (by omega)] at h1
  rw [← h1, sm_congr (g := fun i => w i * (if i = k then 1 else 0)) fun i hi => by rw [thr_interp x (fun i => if i = k then 1 else 0) hd (by omega)]]
  exact (sm_one (n := n + 1) (j := k) (by omega) w)
theorem momL_eq {n : Nat} {x b w : Nat → Rat} (hd : Inj x (n + 1)) (h : ∀ j, j ≤ n → sm (n + 1) (fun i => w i * pw (x i) j) = b j) : momL (lst (n + 1) x) (lst (n + 1) b) = lst (n + 1) w := by
  have ex : ∀ i, i < n + 1 → x i = (lst (n + 1) x).getD i 0 := fun i hi => (lst_getD hi).symm
  rw [momL, lst_length]
  refine lst_congr fun i hi => ?_
  refine mom_unique (n := n) (hd.congr ex) (fun j hj => ?_) i (by omega)
  rw [lst_getD (show j < n + 1 by omega), ← h j hj]
  exact sm_congr fun i hi => by rw [lst_getD hi]
end Go.Proofs.Ythenhipnibkdeaa
