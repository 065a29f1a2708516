/- Cert: matrices times vectors; how near floats are. -/
import Derived.Test.YtacklcbgkigcaaaGreatCr3
import Derived.Test.YtacklcbgkigcaaaGreatCr4
import Derived.Test.YtacklcbgkigcaaaGreatCr5
/- Cert: matrices times vectors. -/
namespace Go.Proofs.YtacklcbgkigcaaaGreat
open Go
set_option linter.unusedVariables false
set_option linter.unusedSimpArgs false
set_option maxRecDepth 10000

/-- A call that makes one block and answers with it. -/
theorem SCall.fresh {P : Program} {wr : Bool} {f : FuncId} {L : Nat → Blk} {base : Nat} {K : AV → List (Nat × Blk) → Prop} {pvs : List PV} {T : TypeId} {W off len : Nat} {es : List PV} (hc : CallP P f pvs (.vec 0 W off len) [.vec T W es])
    (hk : K (.vec base W off len) [(base, .vec T W es)]) : SCall P wr f (pvs.map .p) L base K :=
  .mk [] (pvs.map .p) (.vec 0 W off len) [.vec T W es] (fun _ => rfl) .nil (fun _ h => by simp at h) (by rw [AV.renL_eq, List.map_map]; exact List.map_congr_left fun _ _ => rfl) (fun _ h => by simp at h) (fun _ h => by simp at h) (Nat.zero_le _) (fun B h => by simp at h; subst h; exact fun e => by cases e)
    (fun a ha k hk => by obtain ⟨v, _, rfl⟩ := List.mem_map.1 ha; simp only [AV.men] at hk) hc hk
/-- What is answered is a new block of the caller's. -/
theorem SRet.new {av : AV} {H : Hp} {T : TypeId} {W off len : Nat} {es : List PV} (h : Nat) (hav : av = .vec h W off len) (h0 : look H h = .vec T W es) (hp : ∀ e ∈ es, ∀ c ∈ e.cells, Pers c) : SRet 0 av H (.vec 0 W off len) [.vec T W es] :=
  .mk [h] rfl (by simp) rfl (Nat.zero_le _) (fun i h => absurd h (Nat.not_lt_zero _)) (fun i h' B e1 e2 => by
    match i, e1, e2 with
    | 0, e1, e2 => cases e1; cases e2; rw [h0]; exact .vec hp) (by rw [hav]; exact .vec rfl)

theorem nright_ok (m : Bool) (a : Nat) (ha : nlen a ≤ 1099511627776) : CallP Tryz.prog 182 [natM m a] (.p (.bool true)) [] := by
  refine callG_of_vc (wr := wr0) Γok mixed Tryz.func182 (by kernel_rfl) rfl (by kernel_rfl) (le_of_ble rfl) (by simp) ?_
  refine SZ.mk (nlen a : Int) (by simp) ?_
  by_cases h0 : a = 0
  · refine SCmp.yes (eqT (by rw [nlen_zero_iff.2 h0]; rfl)) ?_
    exact SRet.pure (.tf _)
  · have h1 : nlen a ≠ 0 := mt nlen_zero_iff.1 h0
    refine SCmp.no (eqF (by omega)) ?_
    refine SZ.mk (nlen a : Int) (by simp) ?_
    refine SWrap.i64z ((nlen a - 1 : Nat) : Int) (by omega) (by omega) ?_
    refine SIdx.lb (nlen a - 1) rfl (by show nlen a - 1 < nlen a; omega) ?_
    have h2 : (nl a).getD (nlen a - 1) 0 ≠ 0 := nl_last h0
    refine SCmp.yes (neT (by omega)) ?_
    exact SRet.pure (.tf _)

theorem ratright_ok (q : Rat) {k : Nat} (hq : Sz q k) (hk : k ≤ 137438953472) : CallP Tryz.prog 167 [ratP q] (.p (.bool true)) [] := by
  refine callG_of_vc (wr := wr0) Γok mixed Tryz.func167 (by kernel_rfl) rfl (by kernel_rfl) (le_of_ble rfl) (by simp) ?_
  have hn : nlen q.num.natAbs ≤ 137438953472 := by have := hq.1; omega
  have hd : nlen q.den ≤ 137438953472 := by have := hq.2; omega
  have hd0 : nlen q.den ≠ 0 := fun h => q.den_nz (nlen_zero_iff.1 h)
  refine SCall.pure (nright_ok false q.num.natAbs (by omega)) ?_
  refine SCmp.no (rfl) ?_
  refine SCall.pure (nright_ok false q.den (by omega)) ?_
  refine SCmp.no (rfl) ?_
  refine SZ.mk (nlen q.den : Int) (by simp) ?_
  refine SCmp.no (eqF (by omega)) ?_
  refine SZ.mk (nlen q.num.natAbs : Int) (by simp) ?_
  have n1 : nlen 1 ≤ 549755813888 := Nat.le_trans (nlen_bitLen 1) (by decide)
  by_cases h0 : q = 0
  · subst h0
    refine SCmp.yes (eqT (by rw [show (0 : Rat).num.natAbs = 0 from rfl, nlen_zero_iff.2 rfl]; rfl)) ?_
    have c1 := cmp_ok false false 1 1 n1 n1
    rw [show cmpZ 1 1 = 0 by decide] at c1
    refine SDraw.mk (by kernel_rfl) ?_
    repeat refine SOp.mk _ _ (And.intro rfl rfl) rfl ?_
    refine SOp.mk _ _ (SCmp.yes rfl (And.intro rfl rfl)) rfl ?_
    repeat refine SOp.mk _ _ (And.intro rfl rfl) rfl ?_
    refine SOp.mk _ _ (SCall.pure (one_ok) (And.intro rfl rfl)) rfl ?_
    refine SOp.mk _ _ (SCall.pure (c1) (And.intro rfl rfl)) rfl ?_
    refine SOp.mk _ _ (SCmp.yes rfl (And.intro rfl rfl)) rfl ?_
    repeat refine SOp.mk _ _ (And.intro rfl rfl) rfl ?_
    exact SRet.pure (.tf _)
  · have hnz : nlen q.num.natAbs ≠ 0 := fun h => h0 (Rat.num_eq_zero.1 (by have := nlen_zero_iff.1 h; omega))
    refine SCmp.no (eqF (by omega)) ?_
    have c1 := gcd_ok false false q.num.natAbs q.den hn hd
    rw [show Nat.gcd q.num.natAbs q.den = 1 from q.reduced] at c1
    have c2 := cmp_ok false false 1 1 n1 n1
    rw [show cmpZ 1 1 = 0 by decide] at c2
    refine SCall.pure (c1) ?_
    refine SCall.pure (one_ok) ?_
    refine SCall.pure (c2) ?_
    refine SCmp.yes (rfl) ?_
    exact SRet.pure (.tf _)

/-- The sum of the first products. -/
def dotN (l v : List Rat) : Nat → Rat
  | 0 => 0
  | j + 1 => dotN l v j + l.getD j 0 * v.getD j 0
theorem dotN_bz {l v : List Rat} {a b n : Nat} (hl : ∀ j, j < n → Bz (l.getD j 0) a) (hv : ∀ j, j < n → Bz (v.getD j 0) b) : ∀ j, j ≤ n → Bz (dotN l v j) (1 + j * (a + b + 1)) := by
  intro j
  induction j with
  | zero => intro _; exact bz_zero.mono (by omega)
  | succ j ih =>
    intro hj
    exact ((ih (by omega)).add ((hl j (by omega)).mul (hv j (by omega)))).mono (by rw [Nat.add_mul]; omega)
def appM (M : List (List Rat)) (v : List Rat) : List Rat := M.map fun l => dotN l v v.length
theorem appM_length (M : List (List Rat)) (v : List Rat) : (appM M v).length = M.length := by simp [appM]
theorem appM_getD {M : List (List Rat)} {v : List Rat} {i : Nat} (h : i < M.length) : (appM M v).getD i 0 = dotN (M.getD i []) v v.length := by
  simp [appM, List.getD, List.getElem?_map, List.getElem?_eq_getElem h]
/-- As many columns as rows. -/
structure Sq (M : List (List Rat)) (n : Nat) : Prop where
  rows : M.length = n
  cols : ∀ i, i < n → (M.getD i []).length = n

theorem dzero_ok : CallP Tryz.prog 168 [] (.p (ratP 0)) [] := by
  refine callG_of_vc (wr := wr0) Γok mixed Tryz.func168 (by kernel_rfl) rfl (by kernel_rfl) (le_of_ble rfl) (by simp) ?_
  refine SRet.pure ?_
  rw [ratP_zero]
  exact conv3 ⟨rfl, rfl, rfl⟩ (.p _ (.bool _)) (.p _ (.sl _ _ (fun e he => by simp at he))) (frz1 rfl)

theorem dright_ok (m : Bool) (l : List Rat) {k : Nat} (hl : Bl l k) (hk : k ≤ 1048576) (hn : l.length ≤ 1000000) : CallP Tryz.prog 145 [ratsM m l] (.p (.bool true)) [] := by
  refine callG_of_vc (wr := wr0) Γok mixed Tryz.func145 (by kernel_rfl) rfl (by kernel_rfl) (le_of_ble rfl) (by simp) ?_
  refine SZ.mk (l.length : Int) (by simp) ?_
  refine SLoop.mk Nat (fun i => ([(5, .p (ratsM m l)), (6, .p (.int .i64 l.length)), (7, .p (.int .i64 i))], [])) (fun i => i ≤ l.length) (fun i => l.length - i) 0 [] (Nat.zero_le _) ⟨rfl, .nil, rfl, rfl, rfl, ⟨rfl, rfl, rfl, trivial⟩, trivial⟩ ?_
  intro i h1
  have h1 : i ≤ l.length := h1
  by_cases hi : i < l.length
  · refine SCmp.yes (decide_eq_true (by omega)) ?_
    refine SIdx.rb i rfl hi ?_
    refine SCall.pure (ratright_ok (l.getD i 0) (hl i hi).sz (by omega)) ?_
    refine SCmp.no (rfl) ?_
    refine SWrap.i64z ((i + 1 : Nat) : Int) (by omega) (by omega) ?_
    exact ⟨i + 1, [], hi, by show l.length - (i + 1) < l.length - i; omega, ⟨rfl, .nil, rfl, rfl, rfl, ⟨rfl, rfl, rfl, trivial⟩, trivial⟩⟩
  · refine SCmp.no (decide_eq_false (by omega)) ?_
    exact SRet.pure (.tf _)

theorem dsquare_ok (m m' : Bool) (M : List (List Rat)) {n c k : Nat} (hs : Sq M n) (hM : Bm M c k) (hk : k ≤ 1048576) (h0 : 0 < n) (hn : n ≤ 1000000) : CallP Tryz.prog 144 [matM m m' M] (.p (.bool true)) [] := by
  refine callG_of_vc (wr := wr0) Γok mixed Tryz.func144 (by kernel_rfl) rfl (by kernel_rfl) (le_of_ble rfl) (by simp) ?_
  have hl := hs.rows
  refine SZ.mk (n : Int) (by simp [hl]) ?_
  refine SZ.mk (n : Int) (by simp [hl]) ?_
  refine SLoop.mk Nat (fun i => ([(3, .p (.int .i64 n)), (8, .p (matM m m' M)), (9, .p (.int .i64 n)), (10, .p (.int .i64 i))], [])) (fun i => i ≤ n) (fun i => n - i) 0 [] (Nat.zero_le _) ⟨rfl, .nil, rfl, rfl, rfl, ⟨rfl, rfl, rfl, rfl, trivial⟩, trivial⟩ ?_
  intro i h1
  have h1 : i ≤ n := h1
  by_cases hi : i < n
  · refine SCmp.yes (decide_eq_true (by omega)) ?_
    refine SIdx.mb i rfl (by omega) ?_
    refine SZ.mk (n : Int) (congrArg Int.ofNat ((List.length_map _).trans (hs.cols i hi))) ?_
    refine SCmp.no (by simp) ?_
    refine SCall.pure (dright_ok m' (M.getD i []) (hM i (by omega)).1 hk (by rw [hs.cols i hi]; exact hn)) ?_
    refine SCmp.no (rfl) ?_
    refine SWrap.i64z ((i + 1 : Nat) : Int) (by omega) (by omega) ?_
    exact ⟨i + 1, [], hi, by show n - (i + 1) < n - i; omega, ⟨rfl, .nil, rfl, rfl, rfl, ⟨rfl, rfl, rfl, rfl, trivial⟩, trivial⟩⟩
  · refine SCmp.no (decide_eq_false (by omega)) ?_
    refine SCmp.yes (decide_eq_true (by omega)) ?_
    exact SRet.pure (.tf _)

theorem ddot_ok (m m' : Bool) (l v : List Rat) {n a b : Nat} (h1 : l.length = n) (h2 : v.length = n) (hl : Bl l a) (hv : Bl v b) (hk : 1 + n * (a + b + 1) + (a + b) + 1 ≤ 1048576) (hn : n ≤ 1000000) : CallP Tryz.prog 146 [ratsM m l, ratsM m' v] (.p (ratP (dotN l v n))) [] := by
  refine callG_of_vc (wr := wr0) Γok mixed Tryz.func146 (by kernel_rfl) rfl (by kernel_rfl) (le_of_ble rfl) (by simp) ?_
  refine SCall.pure (dzero_ok) ?_
  refine SZ.mk (n : Int) (by simp [h1]) ?_
  refine SZ.mk (n : Int) (by simp [h2]) ?_
  refine SZ.mk (n : Int) (by simp) ?_
  have bl : ∀ j, j < n → Bz (l.getD j 0) a := fun j hj => hl j (by omega)
  have bv : ∀ j, j < n → Bz (v.getD j 0) b := fun j hj => hv j (by omega)
  refine SLoop.mk Nat (fun j => ([(0, .p (ratsM m l)), (1, .p (ratsM m' v)), (4, .bptr 0 0), (5, .bptr 1 0), (12, .p (.int .i64 n)), (13, .p (.int .i64 j))], [.box 30 [.p (.bool false), .p (.sl false 1 []), .p (.sl false 1 [])], .box 30 (boxQ (dotN l v j))]))
    (fun j => j ≤ n) (fun j => n - j) 0 [0, 1] (Nat.zero_le _) ⟨rfl, by simp, rfl, rfl, rfl, ⟨rfl, rfl, rfl, rfl, rfl, rfl, trivial⟩, ⟨rfl, rfl, trivial⟩⟩ ?_
  intro j g1
  have g1 : j ≤ n := g1
  have bt := (dotN_bz bl bv j g1).mono (show 1 + j * (a + b + 1) ≤ 1 + n * (a + b + 1) from Nat.add_le_add_left (Nat.mul_le_mul_right _ g1) _)
  by_cases hj : j < n
  · refine SCmp.yes (decide_eq_true (by omega)) ?_
    have b1 := bl j hj
    have b2 := bv j hj
    have v1 : (rats l)[j]? = some (ratP (l.getD j 0)) := by rw [List.getElem?_map, List.getElem?_eq_getElem (by omega)]; simp [List.getD, List.getElem?_eq_getElem (show j < l.length by omega)]
    have v2 : (rats v)[j]? = some (ratP (v.getD j 0)) := by rw [List.getElem?_map, List.getElem?_eq_getElem (by omega)]; simp [List.getD, List.getElem?_eq_getElem (show j < v.length by omega)]
    have e2 : dotN l v (j + 1) = dotN l v j + l.getD j 0 * v.getD j 0 := rfl
    obtain ⟨p, hp⟩ : ∃ p, p = l.getD j 0 := ⟨_, rfl⟩
    obtain ⟨q, hq⟩ : ∃ q, q = v.getD j 0 := ⟨_, rfl⟩
    rw [← hp] at b1 v1 e2
    rw [← hq] at b2 v2 e2
    refine SDraw.mkX (by kernel_rfl) ?_
    repeat refine SOp.mk _ _ (And.intro rfl rfl) rfl ?_
    refine SOp.mk _ _ (SIdx.mk j (ratP p) rfl v1 (And.intro rfl rfl)) rfl ?_
    repeat refine SOp.mk _ _ (And.intro rfl rfl) rfl ?_
    refine SOp.mk _ _ (SIdx.mk j (ratP q) rfl v2 (And.intro rfl rfl)) rfl ?_
    repeat refine SOp.mk _ _ (And.intro rfl rfl) rfl ?_
    refine SOp.mk _ _ (SCall.pure (ratmul_ok p q b1.sz b2.sz (by omega)) (And.intro rfl rfl)) rfl ?_
    refine SOp.mk _ _ (SCall.pure (ratadd_ok (dotN l v j) (p * q) bt.sz (b1.mul b2).sz (by omega)) (And.intro rfl rfl)) rfl ?_
    repeat refine SOp.mk _ _ (And.intro rfl rfl) rfl ?_
    refine SFin.mk (by kernel_rfl) ?_
    refine SWrap.i64z ((j + 1 : Nat) : Int) (by omega) (by omega) ?_
    exact ⟨j + 1, [0, 1], hj, by show n - (j + 1) < n - j; omega, ⟨rfl, by simp, rfl, rfl, rfl, ⟨rfl, rfl, rfl, rfl, rfl, rfl, trivial⟩, ⟨rfl, by rw [e2]; rfl, trivial⟩⟩⟩
  · refine SCmp.no (decide_eq_false (by omega)) ?_
    have : j = n := by omega
    subst this
    exact SRet.pure (.p _ (pers_rat _ _ _))

theorem dapply_ok (m m' m'' : Bool) (M : List (List Rat)) (v : List Rat) {n c a b : Nat} (hs : Sq M n) (hM : Bm M c a) (h2 : v.length = n) (hv : Bl v b) (hk : 1 + n * (a + b + 1) + (a + b) + 1 ≤ 1048576) (h0 : 0 < n) (hn : n ≤ 1000000) :
    CallP Tryz.prog 100 [matM m m' M, ratsM m'' v] (.vec 0 3 0 n) [.vec 30 3 (rats (appM M v))] := by
  refine callG_of_vc (wr := wr0) Γok mixed Tryz.func100 (by kernel_rfl) rfl (by kernel_rfl) (le_of_ble rfl) (by simp) ?_
  have hl := hs.rows
  have hA : (appM M v).length = n := by rw [appM_length, hl]
  refine SCall.pure (dsquare_ok m m' M hs hM (by omega) h0 hn) ?_
  refine SCmp.no (rfl) ?_
  refine SZ.mk (n : Int) (by simp [h2]) ?_
  refine SZ.mk (n : Int) (by simp [hl]) ?_
  refine SCmp.no (by simp) ?_
  refine SCall.pure (dright_ok m'' v hv (by omega) (by omega)) ?_
  refine SCmp.no (rfl) ?_
  refine SZ.mk (n : Int) (by simp [hl]) ?_
  refine SZ.mk (n : Int) rfl ?_
  refine SLt.mk (by simp) ?_
  refine SMake.rat n rfl (by omega) ?_
  refine SZ.mk (n : Int) (by simp [hl]) ?_
  refine SLoop.mk Nat (fun i => ([(1, .p (ratsM m'' v)), (5, .vec 0 3 0 n), (26, .p (matM m m' M)), (27, .p (.int .i64 n)), (28, .p (.int .i64 i))], [.vec 30 3 (rats ((appM M v).take i) ++ List.replicate (n - i) rat0)]))
    (fun i => i ≤ n) (fun i => n - i) 0 [0] (Nat.zero_le _) ⟨rfl, by simp, rfl, rfl, rfl, ⟨rfl, rfl, rfl, rfl, rfl, trivial⟩, ⟨rfl, trivial⟩⟩ ?_
  intro i h1
  have h1 : i ≤ n := h1
  by_cases hi : i < n
  · refine SCmp.yes (decide_eq_true (by omega)) ?_
    refine SIdx.mb i rfl (by omega) ?_
    have e := take_snoc (appM M v) (i := i) (by omega)
    rw [appM_getD (by omega), h2] at e
    refine SCall.pure (ddot_ok m' m'' (M.getD i []) v (hs.cols i hi) h2 (hM i (by omega)).1 hv hk hn) ?_
    refine SPos.mk i rfl hi ?_
    refine SLt.mk (by simp; omega) ?_
    refine SEs.mk _ (fill_set _ _ _ hi (by simp; omega)) ?_
    refine SWrap.i64z ((i + 1 : Nat) : Int) (by omega) (by omega) ?_
    exact ⟨i + 1, [0], hi, by show n - (i + 1) < n - i; omega, ⟨rfl, by simp, rfl, rfl, rfl, ⟨rfl, rfl, rfl, rfl, rfl, trivial⟩, ⟨by rw [e, rats, rats, List.map_append]; rfl, trivial⟩⟩⟩
  · refine SCmp.no (decide_eq_false (by omega)) ?_
    have : i = n := by omega
    subst this
    rw [List.take_of_length_le (by omega), Nat.sub_self, List.replicate_zero, List.append_nil]
    exact SRet.new 0 rfl rfl (pers_rats _)

theorem rapply7_ok (m m' m'' : Bool) (M : List (List Rat)) (v : List Rat) {n c a b : Nat} (hs : Sq M n) (hM : Bm M c a) (h2 : v.length = n) (hv : Bl v b) (hk : 1 + n * (a + b + 1) + (a + b) + 1 ≤ 1048576) (h0 : 0 < n) (hn : n ≤ 1000000) :
    CallP Tryz.prog 52 [matM m m' M, ratsM m'' v] (.vec 0 3 0 n) [.vec 30 3 (rats (appM M v))] := by
  refine callG_of_vc (wr := wr0) Γok mixed Tryz.func52 (by kernel_rfl) rfl (by kernel_rfl) (le_of_ble rfl) (by simp) ?_
  have hl := hs.rows
  have hA : (appM M v).length = n := by rw [appM_length, hl]
  refine SLoop.mkT Nat (fun i => ([(0, .p (matM m m' M)), (1, .p (ratsM m'' v)), (5, .vec 0 3 0 i), (6, .p (.int .i64 i))], [.vec 30 3 (rats ((appM M v).take i))]))
    (fun i => i ≤ n) (fun i => n - i) 0 [0] _ _ (.step 5 30 3 rfl (.done _ _)) (Nat.zero_le _) ⟨rfl, by simp, rfl, rfl, rfl, ⟨rfl, rfl, rfl, rfl, trivial⟩, ⟨rfl, trivial⟩⟩ ?_
  intro i h1
  have h1 : i ≤ n := h1
  refine SZ.mk (n : Int) (by simp [hl]) ?_
  by_cases hi : i < n
  · refine SCmp.yes (decide_eq_true (by omega)) ?_
    have e := take_snoc (appM M v) (i := i) (by omega)
    rw [appM_getD (by omega), h2] at e
    have hc := hs.cols i hi
    have hbm := (hM i (by omega)).1
    have hrow : (M.map (ratsM m'))[i]? = some (ratsM m' (M.getD i [])) := by simp [List.getElem?_map, List.getElem?_eq_getElem (show i < M.length by omega), List.getD]
    obtain ⟨l, hl'⟩ : ∃ l, l = M.getD i [] := ⟨_, rfl⟩
    rw [← hl'] at e hc hbm hrow
    have bl : ∀ j, j < n → Bz (l.getD j 0) a := fun j hj => hbm j (by omega)
    have bv : ∀ j, j < n → Bz (v.getD j 0) b := fun j hj => hv j (by omega)
    refine SCall.pure (rzero_ok) ?_
    refine SLoop.mk Nat (fun j => ([(0, .p (matM m m' M)), (1, .p (ratsM m'' v)), (5, .vec 0 3 0 i), (6, .p (.int .i64 i)), (7, .bptr 1 0), (8, .p (.int .i64 j))], [.vec 30 3 (rats ((appM M v).take i)), .box 30 (boxQ (dotN l v j))]))
      (fun j => j ≤ n) (fun j => n - j) 0 [0, 1] (Nat.zero_le _) ⟨rfl, by simp, rfl, rfl, rfl, ⟨rfl, rfl, rfl, rfl, rfl, rfl, trivial⟩, ⟨rfl, rfl, trivial⟩⟩ ?_
    intro j g1
    have g1 : j ≤ n := g1
    have bt := (dotN_bz bl bv j g1).mono (show 1 + j * (a + b + 1) ≤ 1 + n * (a + b + 1) from Nat.add_le_add_left (Nat.mul_le_mul_right _ g1) _)
    refine SZ.mk (n : Int) (by simp [h2]) ?_
    by_cases hj : j < n
    · refine SCmp.yes (decide_eq_true (by omega)) ?_
      have b1 := bl j hj
      have b2 := bv j hj
      have v1 : (rats l)[j]? = some (ratP (l.getD j 0)) := by rw [List.getElem?_map, List.getElem?_eq_getElem (by omega)]; simp [List.getD, List.getElem?_eq_getElem (show j < l.length by omega)]
      have v2 : (rats v)[j]? = some (ratP (v.getD j 0)) := by rw [List.getElem?_map, List.getElem?_eq_getElem (by omega)]; simp [List.getD, List.getElem?_eq_getElem (show j < v.length by omega)]
      have e2 : dotN l v (j + 1) = dotN l v j + l.getD j 0 * v.getD j 0 := rfl
      obtain ⟨p, hp⟩ : ∃ p, p = l.getD j 0 := ⟨_, rfl⟩
      obtain ⟨q, hq⟩ : ∃ q, q = v.getD j 0 := ⟨_, rfl⟩
      rw [← hp] at b1 v1 e2
      rw [← hq] at b2 v2 e2
      refine SDraw.mkX (by kernel_rfl) ?_
      repeat refine SOp.mk _ _ (And.intro rfl rfl) rfl ?_
      refine SOp.mk _ _ (SIdx.mk i _ rfl hrow (And.intro rfl rfl)) rfl ?_
      repeat refine SOp.mk _ _ (And.intro rfl rfl) rfl ?_
      refine SOp.mk _ _ (SIdx.mk j (ratP p) rfl v1 (And.intro rfl rfl)) rfl ?_
      repeat refine SOp.mk _ _ (And.intro rfl rfl) rfl ?_
      refine SOp.mk _ _ (SIdx.mk j (ratP q) rfl v2 (And.intro rfl rfl)) rfl ?_
      repeat refine SOp.mk _ _ (And.intro rfl rfl) rfl ?_
      refine SOp.mk _ _ (SCall.pure (rmulq_ok p q b1 b2 (by omega)) (And.intro rfl rfl)) rfl ?_
      refine SOp.mk _ _ (SCall.pure (raddq_ok (dotN l v j) (p * q) bt (b1.mul b2) (by omega)) (And.intro rfl rfl)) rfl ?_
      repeat refine SOp.mk _ _ (And.intro rfl rfl) rfl ?_
      refine SFin.mk (by kernel_rfl) ?_
      refine SWrap.i64z ((j + 1 : Nat) : Int) (by omega) (by omega) ?_
      exact ⟨j + 1, [0, 1], hj, by show n - (j + 1) < n - j; omega, ⟨rfl, by simp, rfl, rfl, rfl, ⟨rfl, rfl, rfl, rfl, rfl, rfl, trivial⟩, ⟨rfl, by rw [e2]; rfl, trivial⟩⟩⟩
    · refine SCmp.no (decide_eq_false (by omega)) ?_
      have : j = n := by omega
      subst this
      refine SEqN.mk (by simp; omega) ?_
      refine SView.all rfl ?_
      refine SRoom.mk (by simp; omega) (by simp; omega) ?_
      refine SEs.mk (rats ((appM M v).take (i + 1))) (by rw [e, rats, rats, List.map_append]; rfl) ?_
      refine SZN.mk (i + 1) (by simp; omega) ?_
      refine SWrap.i64z ((i + 1 : Nat) : Int) (by omega) (by omega) ?_
      exact ⟨i + 1, [3], hi, by show j - (i + 1) < j - i; omega, ⟨rfl, by simp, rfl, rfl, rfl, ⟨rfl, rfl, rfl, rfl, trivial⟩, ⟨rfl, trivial⟩⟩⟩
  · refine SCmp.no (decide_eq_false (by omega)) ?_
    have : i = n := by omega
    subst this
    rw [List.take_of_length_le (by omega)]
    exact SRet.new 0 rfl rfl (pers_rats _)
end Go.Proofs.YtacklcbgkigcaaaGreat

/- Cert: how near floats are. -/
namespace Go.Proofs.YtacklcbgkigcaaaGreat
open Go
set_option linter.unusedVariables false
set_option linter.unusedSimpArgs false
set_option maxRecDepth 10000

/-! #### sizes -/
theorem sizeQ_nn (l : List Rat) : ∀ i, i ≤ l.length → 0 ≤ sizeQ (l.take i) := by
  intro i
  induction i with
  | zero => intro _; exact Rat.le_refl
  | succ i ih =>
    intro hi
    rw [sizeQ_take l (by omega)]
    split
    · exact Rat.abs_nonneg
    · exact ih (by omega)
theorem sizeQ_le (l : List Rat) : ∀ i, i ≤ l.length → ∀ j, j < i → (l.getD j 0).abs ≤ sizeQ (l.take i) := by
  intro i
  induction i with
  | zero => intro _ j hj; omega
  | succ i ih =>
    intro hi j hj
    rw [sizeQ_take l (by omega)]
    by_cases e : j = i
    · subst e
      split
      · exact Rat.le_refl
      · grind
    · have := ih (by omega) j (by omega)
      split
      · grind
      · exact this
theorem sizeQ_at (l : List Rat) {j : Nat} (h : j < l.length) : (l.getD j 0).abs ≤ sizeQ l := by
  have := sizeQ_le l l.length (Nat.le_refl _) j h
  rwa [List.take_length] at this
theorem sizeQ_pos (l : List Rat) : 0 ≤ sizeQ l := by
  have := sizeQ_nn l l.length (Nat.le_refl _)
  rwa [List.take_length] at this
theorem abs_zero {q : Rat} (h : q.abs ≤ 0) : q = 0 := by
  have h1 := Rat.abs_nonneg (x := q)
  have h2 : q.abs = 0 := by grind
  exact Rat.abs_eq_zero_iff.1 h2
theorem sizeQ_zero {l : List Rat} (h : sizeQ l = 0) {j : Nat} : l.getD j 0 = 0 := by
  rcases Nat.lt_or_ge j l.length with hj | hj
  · have := sizeQ_at l hj
    rw [h] at this
    exact abs_zero this
  · simp [List.getD, List.getElem?_eq_none hj]
theorem sizeQ_nought {l : List Rat} (h : ∀ j, j < l.length → l.getD j 0 = 0) : sizeQ l = 0 := by
  have : ∀ i, i ≤ l.length → sizeQ (l.take i) = 0 := by
    intro i
    induction i with
    | zero => intro _; rfl
    | succ i ih =>
      intro hi
      rw [sizeQ_take l (by omega), ih (by omega), h i (by omega), if_neg (by decide)]
  have := this l.length (Nat.le_refl _)
  rwa [List.take_length] at this
theorem sumQ_le (l : List Rat) : ∀ i, i ≤ l.length → ∀ j, j < i → (l.getD j 0).abs ≤ sumQ (l.take i) := by
  intro i
  induction i with
  | zero => intro _ j hj; omega
  | succ i ih =>
    intro hi j hj
    rw [sumQ_take l (by omega)]
    have h1 := sumQ_nn l i (by omega)
    by_cases e : j = i
    · subst e; grind
    · have := ih (by omega) j (by omega)
      have h2 := Rat.abs_nonneg (x := l.getD i 0)
      grind
theorem normQ_zero {M : List (List Rat)} (h : normQ M = 0) {i j : Nat} (hi : i < M.length) : (M.getD i []).getD j 0 = 0 := by
  have h1 := sizeQ_zero (l := M.map sumQ) h (j := i)
  rw [map_getD M hi] at h1
  rcases Nat.lt_or_ge j (M.getD i []).length with hj | hj
  · have := sumQ_le (M.getD i []) _ (Nat.le_refl _) j hj
    rw [List.take_length, h1] at this
    exact abs_zero this
  · exact by rw [List.getD, List.getElem?_eq_none hj]; rfl
theorem dotN_zero {l v : List Rat} (h : ∀ j, l.getD j 0 * v.getD j 0 = 0) : ∀ j, dotN l v j = 0 := by
  intro j
  induction j with
  | zero => rfl
  | succ j ih => show dotN l v j + _ = 0; rw [ih, h j, Rat.add_zero]
/-- What is left of a system. -/
def leftG (M : List (List Rat)) (b v : List Rat) (i : Nat) : Rat := (appM M v).getD i 0 - b.getD i 0
def leftQ (M : List (List Rat)) (b v : List Rat) : List Rat := lst M.length (leftG M b v)
def wholeQ (M : List (List Rat)) (b v : List Rat) : Rat := normQ M * sizeQ v + sizeQ b
theorem whole_left {M : List (List Rat)} {b v : List Rat} (h : wholeQ M b v = 0) : sizeQ (leftQ M b v) = 0 := by
  have h1 : 0 ≤ normQ M := sizeQ_pos _
  have h2 : 0 ≤ sizeQ v := sizeQ_pos _
  have h3 : 0 ≤ sizeQ b := sizeQ_pos _
  have h4 : 0 ≤ normQ M * sizeQ v := Rat.mul_nonneg h1 h2
  unfold wholeQ at h
  have h5 : sizeQ b = 0 := by grind
  have h6 : normQ M * sizeQ v = 0 := by grind
  refine sizeQ_nought fun i hi => ?_
  have hi : i < M.length := by rwa [leftQ, lst_length] at hi
  rw [leftQ, lst_getD hi, leftG, appM_getD hi, sizeQ_zero h5, dotN_zero fun j => ?_]
  · exact Rat.sub_self
  · rcases Rat.mul_eq_zero.1 h6 with h | h
    · rw [normQ_zero h hi, Rat.zero_mul]
    · rw [sizeQ_zero h, Rat.mul_zero]

/-! #### floats as numbers -/
def codesP (xs : List Nat) : List PV := xs.map fun f : Nat => PV.int .u64 (f : Int)
def fineF (f : Nat) : Bool := !isNan f && !isInf f
theorem fineF_t {f : Nat} (h : fineF f = true) : isNan f = false ∧ isInf f = false := by
  unfold fineF at h
  cases h1 : isNan f <;> cases h2 : isInf f <;> simp [h1, h2] at h ⊢
theorem fineF_f {f : Nat} (h : fineF f = false) : isNan f = true ∨ isInf f = true := by
  unfold fineF at h
  cases h1 : isNan f <;> cases h2 : isInf f <;> simp [h1, h2] at h ⊢
def vals (xs : List Nat) : List Rat := xs.map fvq
theorem vals_getD {xs : List Nat} {i : Nat} (h : i < xs.length) : (vals xs).getD i 0 = fvq (xs.getD i 0) := by simp [vals, List.getD, List.getElem?_map, List.getElem?_eq_getElem h]
theorem vals_length (xs : List Nat) : (vals xs).length = xs.length := by simp [vals]
theorem vals_bl (xs : List Nat) : Bl (vals xs) 1080 := fun i hi => by
  rw [vals_length] at hi
  rw [vals_getD hi]; exact fvq_bz _
theorem codes_get {xs : List Nat} {i : Nat} (h : i < xs.length) : (codesP xs)[i]? = some (.int .u64 ((xs.getD i 0 : Nat) : Int)) := by simp [codesP, List.getD, List.getElem?_map, List.getElem?_eq_getElem h]
def OkC (xs : List Nat) : Prop := ∀ i, i < xs.length → xs.getD i 0 < 18446744073709551616

theorem frz_rats {H : Hp} {h : Nat} {T : TypeId} {l : List Rat} {n : Nat} (hB : look H h = .vec T 3 (rats l)) (hn : n = l.length) : SRet 0 (.tup [.vec h 3 0 n, .p (.int .i64 0)]) H (.tup [.p (ratsM false l), .p (.int .i64 0)]) [] :=
  SRet.pure (.tup rfl fun i c d e1 e2 => by
    match i, e1, e2 with
    | 0, e1, e2 => cases e1; cases e2; exact frzR hB hn
    | 1, e1, e2 => cases e1; cases e2; exact .p _ (.int _ _))

theorem exact_ok (m : Bool) (xs : List Nat) (hx : OkC xs) (hn : xs.length ≤ 1000000) :
    CallP Tryz.prog 99 [.sl m 1 (codesP xs)] (match xs.all fineF with | true => .tup [.p (ratsM false (vals xs)), .p (.int .i64 0)] | false => .tup [.p (.sl false 3 []), .p (.int .i64 10)]) [] := by
  refine callG_of_vc (wr := wr0) Γok mixed Tryz.func99 (by kernel_rfl) rfl (by kernel_rfl) (le_of_ble rfl) (by simp) ?_
  have hc : (codesP xs).length = xs.length := by simp [codesP]
  have hv := vals_length xs
  refine SZ.mk (xs.length : Int) (by rw [hc]) ?_
  refine SZ.mk (xs.length : Int) rfl ?_
  refine SLt.mk (by simp) ?_
  refine SMake.rat xs.length rfl (by omega) ?_
  refine SZ.mk (xs.length : Int) (by rw [hc]) ?_
  refine SLoop.mk Nat (fun i => ([(4, .vec 0 3 0 xs.length), (12, .p (.sl m 1 (codesP xs))), (13, .p (.int .i64 xs.length)), (14, .p (.int .i64 i))], [.vec 30 3 (rats ((vals xs).take i) ++ List.replicate (xs.length - i) rat0)]))
    (fun i => i ≤ xs.length ∧ ∀ j, j < i → fineF (xs.getD j 0) = true) (fun i => xs.length - i) 0 [0] ⟨Nat.zero_le _, fun j hj => by omega⟩ ⟨rfl, by simp, rfl, rfl, rfl, ⟨rfl, rfl, rfl, rfl, trivial⟩, ⟨rfl, trivial⟩⟩ ?_
  intro i ⟨h1, hf⟩
  have h1 : i ≤ xs.length := h1
  by_cases hi : i < xs.length
  · refine SCmp.yes (decide_eq_true (by omega)) ?_
    refine SIdx.mk i _ rfl (codes_get hi) ?_
    have hlt := hx i hi
    have e := take_snoc (vals xs) (i := i) (by omega)
    rw [vals_getD hi] at e
    cases hq : fineF (xs.getD i 0) with
    | true =>
      obtain ⟨f1, f2⟩ := fineF_t hq
      refine SCall.pureT (sfrat_ok (xs.getD i 0) hlt f1 f2) (fun _ => rfl) ?_
      refine SCmp.no (rfl) ?_
      refine SPos.mk i rfl hi ?_
      refine SLt.mk (by simp; omega) ?_
      refine SEs.mk _ (fill_set _ _ _ hi (by simp; omega)) ?_
      refine SWrap.i64z ((i + 1 : Nat) : Int) (by omega) (by omega) ?_
      refine ⟨i + 1, [0], ⟨hi, fun j hj => ?_⟩, by show xs.length - (i + 1) < xs.length - i; omega, ⟨rfl, by simp, rfl, rfl, rfl, ⟨rfl, rfl, rfl, rfl, trivial⟩, ⟨by rw [e, rats, rats, List.map_append]; rfl, trivial⟩⟩⟩
      by_cases e : j = i
      · subst e; exact hq
      · exact hf j (by omega)
    | false =>
      refine SCall.pureT (sfrat_no (xs.getD i 0) hlt (fineF_f hq)) (fun _ => rfl) ?_
      refine SCmp.yes (rfl) ?_
      have : xs.all fineF = false := by
        rw [List.all_eq_false]
        exact ⟨xs[i], List.getElem_mem hi, by rw [← show xs.getD i 0 = xs[i] by simp [List.getD, hi], hq]; simp⟩
      rw [this]
      exact SRet.pure (.tup rfl fun i c d e1 e2 => by
        match i, e1, e2 with
        | 0, e1, e2 => cases e1; cases e2; exact .emp _
        | 1, e1, e2 => cases e1; cases e2; exact .p _ (.int _ _))
  · refine SCmp.no (decide_eq_false (by omega)) ?_
    have : i = xs.length := by omega
    subst this
    have : xs.all fineF = true := List.all_eq_true.2 fun f hf' => by
      obtain ⟨j, hj, rfl⟩ := List.getElem_of_mem hf'
      have := hf j hj
      rwa [show xs.getD j 0 = xs[j] by simp [List.getD, hj]] at this
    rw [this, List.take_of_length_le (by omega), Nat.sub_self, List.replicate_zero, List.append_nil]
    exact frz_rats rfl hv.symm

abbrev etaR (q : PV) (e : Int) : AV := .tup [.p q, .p (.int .i64 e)]
/-- How near floats are, and whether they are refused. -/
noncomputable def etaA (M : List (List Rat)) (b : List Rat) (xs : List Nat) : AV :=
  if xs.length ≠ M.length then etaR rat0 3 else match xs.all fineF with
  | false => etaR rat0 10
  | true => if sizeQ (leftQ M b (vals xs)) = 0 then etaR (ratP 0) 0 else etaR (ratP (sizeQ (leftQ M b (vals xs)) / wholeQ M b (vals xs))) 0
def mixL (M : List (List Rat)) (b v : List Rat) (i t : Nat) : Rat := if t < i then leftG M b v t else (appM M v).getD t 0
theorem mixL_step {T : TypeId} {n : Nat} {M : List (List Rat)} {b v : List Rat} {j : Nat} : Blk.vec T 3 (rats (lst n (mixL M b v (j + 1)))) = .vec T 3 (rats (lst n (upd (mixL M b v j) j (mixL M b v j j - b.getD j 0)))) := by
  rw [lst_congr fun t _ => ?_]
  by_cases e : t = j
  · subst e; rw [upd_same, mixL, if_pos (by omega), mixL, if_neg (by omega)]; rfl
  · rw [upd_other _ _ e, mixL, mixL]
    by_cases h : t < j
    · rw [if_pos (by omega), if_pos h]
    · rw [if_neg (by omega), if_neg h]
theorem pers_rat0' : Pers rat0 := pers_rat0

theorem ceta_ok (m m' m'' mx : Bool) (M : List (List Rat)) (b : List Rat) (xs : List Nat) {n : Nat} (hs : Sq M n) (hM : Bm M n 40) (hb : b.length = n) (hbl : Bl b 300) (hx : OkC xs) (h0 : 0 < n) (hn : n ≤ 6) (hxl : xs.length ≤ 1000000) :
    CallP Tryz.prog 47 [matM m m' M, ratsM m'' b, .sl mx 1 (codesP xs)] (etaA M b xs) [] := by
  refine callG_of_vc (wr := wr0) Γok mixed Tryz.func47 (by kernel_rfl) rfl (by kernel_rfl) (le_of_ble rfl) (by simp) ?_
  have hl := hs.rows
  have hc : (codesP xs).length = xs.length := by simp [codesP]
  refine SZ.mk (xs.length : Int) (by rw [hc]) ?_
  refine SZ.mk (n : Int) (by simp [hl]) ?_
  unfold etaA
  by_cases hxn : xs.length = n
  rotate_left
  · rw [if_pos (by omega)]
    refine SCmp.yes (neT (by omega)) ?_
    exact SRet.pure (.tup rfl fun i c d e1 e2 => by
      match i, e1, e2 with
      | 0, e1, e2 => cases e1; cases e2; exact .p _ pers_rat0
      | 1, e1, e2 => cases e1; cases e2; exact .p _ (.int _ _))
  rw [if_neg (by omega)]
  refine SCmp.no (neF (by omega)) ?_
  refine SZ.mk (n : Int) (by simp [hb]) ?_
  refine SZ.mk (n : Int) (by simp [hl]) ?_
  refine SCmp.no (by simp) ?_
  have c1 := exact_ok mx xs hx hxl
  cases hall : xs.all fineF with
  | false =>
    rw [hall] at c1
    refine SCall.pureT (c1) (fun _ => rfl) ?_
    refine SCmp.yes (rfl) ?_
    exact SRet.pure (.tup rfl fun i c d e1 e2 => by
      match i, e1, e2 with
      | 0, e1, e2 => cases e1; cases e2; exact .p _ pers_rat0
      | 1, e1, e2 => cases e1; cases e2; exact .p _ (.int _ _))
  | true =>
    rw [hall] at c1
    refine SCall.pureT (c1) (fun _ => rfl) ?_
    refine SCmp.no (rfl) ?_
    have hv := vals_length xs
    have bv := vals_bl xs
    obtain ⟨v, hvd⟩ : ∃ v, v = vals xs := ⟨_, rfl⟩
    rw [← hvd] at hv bv ⊢
    have hA : (appM M v).length = n := by rw [appM_length, hl]
    have bA : ∀ i, i < n → Bz ((appM M v).getD i 0) 7000 := fun i hi => by
      rw [appM_getD (by omega)]
      have hcl := hs.cols i hi
      exact (dotN_bz (a := 40) (b := 1080) (n := n) (fun j hj => (hM i (by omega)).1 j (by omega)) (fun j hj => bv j (by omega)) v.length (by omega)).mono (by
        have : v.length * (40 + 1080 + 1) ≤ 6 * 1121 := Nat.mul_le_mul (by omega) (by omega)
        omega)
    have c2 := dapply_ok m m' false M v hs hM (by omega) bv (by
      have : n * (40 + 1080 + 1) ≤ 6 * 1121 := Nat.mul_le_mul (by omega) (by omega)
      omega) h0 (by omega)
    refine SCall.fresh c2 ?_
    refine SZ.mk (n : Int) rfl ?_
    refine SZ.mk (n : Int) (by simp [hb]) ?_
    refine SCmp.no (by simp) ?_
    refine SZ.mk (n : Int) rfl ?_
    refine SLoop.mk Nat (fun i => ([(0, .p (matM m m' M)), (1, .p (ratsM m'' b)), (6, .bptr 0 0), (8, .p (ratsM false v)), (10, .vec 1 3 0 n), (46, .p (.int .i64 n)), (47, .p (.int .i64 i))], [.box 30 [.p (.bool false), .p (.sl false 1 []), .p (.sl false 1 [])], .vec 30 3 (rats (lst n (mixL M b v i)))]))
      (fun i => i ≤ n) (fun i => n - i) 0 [0, 1] (Nat.zero_le _) ⟨rfl, by simp, rfl, rfl, rfl, ⟨rfl, rfl, rfl, rfl, rfl, rfl, rfl, trivial⟩, ⟨rfl, by rw [lst_of (appM M v), hA]; rfl, trivial⟩⟩ ?_
    intro i h1
    have h1 : i ≤ n := h1
    by_cases hi : i < n
    · refine SCmp.yes (decide_eq_true (by omega)) ?_
      have b1 : Bz (mixL M b v i i) 7000 := by rw [mixL, if_neg (by omega)]; exact bA i hi
      have b2 := hbl i (by omega)
      have v2 : (rats b)[i]? = some (ratP (b.getD i 0)) := by rw [List.getElem?_map, List.getElem?_eq_getElem (by omega)]; simp [List.getD, List.getElem?_eq_getElem (show i < b.length by omega)]
      have v1 := ratsI (g := mixL M b v i) hi
      refine SDraw.mkX (by kernel_rfl) ?_
      repeat refine SOp.mk _ _ (And.intro rfl rfl) rfl ?_
      refine SOp.mk _ _ (SPos.mk i rfl hi (And.intro rfl rfl)) rfl ?_
      refine SOp.mk _ _ (SIdx.mk i _ rfl v1 (And.intro rfl rfl)) rfl ?_
      repeat refine SOp.mk _ _ (And.intro rfl rfl) rfl ?_
      refine SOp.mk _ _ (SIdx.mk i _ rfl v2 (And.intro rfl rfl)) rfl ?_
      repeat refine SOp.mk _ _ (And.intro rfl rfl) rfl ?_
      refine SOp.mk _ _ (SCall.pure (ratsub_ok (mixL M b v i i) (b.getD i 0) b1.sz b2.sz (by omega)) (And.intro rfl rfl)) rfl ?_
      refine SOp.mk _ _ (SPos.mk i rfl hi (And.intro rfl rfl)) rfl ?_
      refine SOp.mk _ _ (SLt.rf hi <| SEs.rf (And.intro rfl rfl)) rfl ?_
      repeat refine SOp.mk _ _ (And.intro rfl rfl) rfl ?_
      refine SFin.mk (by kernel_rfl) ?_
      refine SWrap.i64z ((i + 1 : Nat) : Int) (by omega) (by omega) ?_
      exact ⟨i + 1, [0, 1], hi, by show n - (i + 1) < n - i; omega, ⟨rfl, by simp, rfl, rfl, rfl, ⟨rfl, rfl, rfl, rfl, rfl, rfl, rfl, trivial⟩, ⟨rfl, mixL_step, trivial⟩⟩⟩
    · refine SCmp.no (decide_eq_false (by omega)) ?_
      have : i = n := by omega
      subst this
      have e : lst i (mixL M b v i) = leftQ M b v := by rw [leftQ, hl]; exact lst_congr fun t ht => if_pos ht
      have el : (leftQ M b v).length = i := by rw [leftQ, lst_length, hl]
      have bq : Bl (leftQ M b v) 7400 := by
        rw [leftQ, hl]
        exact Bl.lst fun t ht => ((bA t ht).sub (hbl t (by omega))).mono (by omega)
      rw [e]
      refine SView.all (by simp [el]) ?_
      refine SCall.pure (csize_ok true (leftQ M b v) bq (by omega) (by omega) (by omega)) ?_
      have bf := sizeQ_bz bq (by omega) _ (Nat.le_refl _)
      rw [List.take_length] at bf
      have hw : sizeQ (leftQ M b v) ≠ 0 → wholeQ M b v ≠ 0 := fun h1 h2 => h1 (whole_left h2)
      obtain ⟨q, hq⟩ : ∃ q, q = sizeQ (leftQ M b v) := ⟨_, rfl⟩
      rw [← hq] at bf hw ⊢
      refine SZ.mk (nlen q.num.natAbs : Int) (by simp) ?_
      by_cases hq0 : q = 0
      · rw [if_pos hq0, hq0]
        refine SCmp.yes (eqT (by rw [show (0 : Rat).num.natAbs = 0 from rfl, nlen_zero_iff.2 rfl]; rfl)) ?_
        exact SRet.pure (.tup rfl fun i c d e1 e2 => by
          match i, e1, e2 with
          | 0, e1, e2 => cases e1; cases e2; exact .p _ (pers_rat _ _ _)
          | 1, e1, e2 => cases e1; cases e2; exact .p _ (.int _ _))
      · rw [if_neg hq0]
        have hnz : nlen q.num.natAbs ≠ 0 := fun h => hq0 (Rat.num_eq_zero.1 (by have := nlen_zero_iff.1 h; omega))
        refine SCmp.no (eqF (by omega)) ?_
        have hw := hw hq0
        have d1 := cnorm_ok m m' M hM (by omega) (by omega) (by omega)
        have d2 := csize_ok false v bv (by omega) (by omega) (by omega)
        have d3 := csize_ok m'' b hbl (by omega) (by omega) (by omega)
        have s1 := sizeQ_bz (sums_bl hM) (by omega) _ (Nat.le_refl _)
        rw [List.take_length] at s1
        have s1 : Bz (normQ M) 300 := s1.mono (by omega)
        have s2 := sizeQ_bz bv (by omega) _ (Nat.le_refl _)
        have s3 := sizeQ_bz hbl (by omega) _ (Nat.le_refl _)
        rw [List.take_length] at s2 s3
        have s4 := (s1.mul s2).add s3
        unfold wholeQ at hw ⊢
        refine SDraw.mkX (by kernel_rfl) ?_
        repeat refine SOp.mk _ _ (And.intro rfl rfl) rfl ?_
        refine SOp.mk _ _ (SCall.pure (d1) (And.intro rfl rfl)) rfl ?_
        repeat refine SOp.mk _ _ (And.intro rfl rfl) rfl ?_
        refine SOp.mk _ _ (SCall.pure (d2) (And.intro rfl rfl)) rfl ?_
        refine SOp.mk _ _ (SCall.pure (ratmul_ok (normQ M) (sizeQ v) s1.sz s2.sz (by omega)) (And.intro rfl rfl)) rfl ?_
        repeat refine SOp.mk _ _ (And.intro rfl rfl) rfl ?_
        refine SOp.mk _ _ (SCall.pure (d3) (And.intro rfl rfl)) rfl ?_
        refine SOp.mk _ _ (SCall.pure (ratadd_ok (normQ M * sizeQ v) (sizeQ b) (s1.mul s2).sz s3.sz (by omega)) (And.intro rfl rfl)) rfl ?_
        refine SOp.mk _ _ (SCall.pureT (quo_ok q (normQ M * sizeQ v + sizeQ b) hw bf.sz s4.sz (by omega)) (fun _ => rfl) (And.intro rfl rfl)) rfl ?_
        repeat refine SOp.mk _ _ (And.intro rfl rfl) rfl ?_
        refine SFin.mk (by kernel_rfl) ?_
        exact SRet.pure (.tup rfl fun i c d e1 e2 => by
          match i, e1, e2 with
          | 0, e1, e2 => cases e1; cases e2; exact .p _ (pers_rat _ _ _)
          | 1, e1, e2 => cases e1; cases e2; exact .p _ (.int _ _))
end Go.Proofs.YtacklcbgkigcaaaGreat

/- Cert: how near floats are, as the document says; CertEta: the walk. -/
namespace Go.Proofs.YtacklcbgkigcaaaGreat
open Go
set_option linter.unusedVariables false
set_option linter.unusedSimpArgs false
set_option maxRecDepth 10000

theorem reta_ok (m m' m'' mx : Bool) (M : List (List Rat)) (b : List Rat) (xs : List Nat) {n : Nat} (hs : Sq M n) (hM : Bm M n 40) (hb : b.length = n) (hbl : Bl b 300) (hx : OkC xs) (h0 : 0 < n) (hn : n ≤ 6) (hxl : xs.length ≤ 1000000) :
    CallP Tryz.prog 48 [matM m m' M, ratsM m'' b, .sl mx 1 (codesP xs)] (etaA M b xs) [] := by
  refine callG_of_vc (wr := wr0) Γok mixed Tryz.func48 (by kernel_rfl) rfl (by kernel_rfl) (le_of_ble rfl) (by simp) ?_
  have hl := hs.rows
  have hc : (codesP xs).length = xs.length := by simp [codesP]
  refine SZ.mk (xs.length : Int) (by rw [hc]) ?_
  refine SZ.mk (n : Int) (by simp [hb]) ?_
  unfold etaA
  by_cases hxn : xs.length = n
  rotate_left
  · rw [if_pos (by omega)]
    refine SCmp.yes (neT (by omega)) ?_
    exact SRet.pure (.tup rfl fun i c d e1 e2 => by
      match i, e1, e2 with
      | 0, e1, e2 => cases e1; cases e2; exact .p _ pers_rat0
      | 1, e1, e2 => cases e1; cases e2; exact .p _ (.int _ _))
  rw [if_neg (by omega)]
  refine SCmp.no (neF (by omega)) ?_
  have hv := vals_length xs
  refine SLoop.mkT Nat (fun i => ([(0, .p (matM m m' M)), (1, .p (ratsM m'' b)), (2, .p (.sl mx 1 (codesP xs))), (6, .bptr 0 0), (8, .vec 1 3 0 i), (9, .p (.int .i64 i))], [.box 30 [.p (.bool false), .p (.sl false 1 []), .p (.sl false 1 [])], .vec 30 3 (rats ((vals xs).take i))]))
    (fun i => i ≤ xs.length ∧ ∀ j, j < i → fineF (xs.getD j 0) = true) (fun i => xs.length - i) 0 [0, 1] _ _ (.step 8 30 3 rfl (.done _ _)) ⟨Nat.zero_le _, fun j hj => by omega⟩ ⟨rfl, by simp, rfl, rfl, rfl, ⟨rfl, rfl, rfl, rfl, rfl, rfl, trivial⟩, ⟨rfl, rfl, trivial⟩⟩ ?_
  intro i ⟨h1, hf⟩
  have h1 : i ≤ xs.length := h1
  refine SZ.mk (xs.length : Int) (by rw [hc]) ?_
  by_cases hi : i < xs.length
  · refine SCmp.yes (decide_eq_true (by omega)) ?_
    refine SIdx.mk i _ rfl (codes_get hi) ?_
    have hlt := hx i hi
    have e := take_snoc (vals xs) (i := i) (by omega)
    rw [vals_getD hi] at e
    cases hq : fineF (xs.getD i 0) with
    | true =>
      obtain ⟨f1, f2⟩ := fineF_t hq
      refine SCall.pureT (rfrat_ok (xs.getD i 0) hlt f1 f2) (fun _ => rfl) ?_
      refine SCmp.no (rfl) ?_
      refine SEqN.mk (by simp; omega) ?_
      refine SView.all rfl ?_
      refine SRoom.mk (by simp; omega) (by simp; omega) ?_
      refine SEs.mk (rats ((vals xs).take (i + 1))) (by rw [e, rats, rats, List.map_append]; rfl) ?_
      refine SZN.mk (i + 1) (by simp; omega) ?_
      refine SWrap.i64z ((i + 1 : Nat) : Int) (by omega) (by omega) ?_
      refine ⟨i + 1, [0, 4], ⟨hi, fun j hj => ?_⟩, by show xs.length - (i + 1) < xs.length - i; omega, ⟨rfl, by simp, rfl, rfl, rfl, ⟨rfl, rfl, rfl, rfl, rfl, rfl, trivial⟩, ⟨rfl, rfl, trivial⟩⟩⟩
      by_cases e : j = i
      · subst e; exact hq
      · exact hf j (by omega)
    | false =>
      refine SCall.pureT (rfrat_no (xs.getD i 0) hlt (fineF_f hq)) (fun _ => rfl) ?_
      refine SCmp.yes (rfl) ?_
      have : xs.all fineF = false := by
        rw [List.all_eq_false]
        exact ⟨xs[i], List.getElem_mem hi, by rw [← show xs.getD i 0 = xs[i] by simp [List.getD, hi], hq]; simp⟩
      rw [this]
      exact SRet.pure (.tup rfl fun i c d e1 e2 => by
        match i, e1, e2 with
        | 0, e1, e2 => cases e1; cases e2; exact .p _ pers_rat0
        | 1, e1, e2 => cases e1; cases e2; exact .p _ (.int _ _))
  · refine SCmp.no (decide_eq_false (by omega)) ?_
    have : i = n := by omega
    subst this
    have : xs.all fineF = true := List.all_eq_true.2 fun f hf' => by
      obtain ⟨j, hj, rfl⟩ := List.getElem_of_mem hf'
      have := hf j (by omega)
      rwa [show xs.getD j 0 = xs[j] by simp [List.getD, hj]] at this
    rw [this, List.take_of_length_le (by omega)]
    have bv := vals_bl xs
    obtain ⟨v, hvd⟩ : ∃ v, v = vals xs := ⟨_, rfl⟩
    rw [← hvd] at hv bv ⊢
    have hA : (appM M v).length = i := by rw [appM_length, hl]
    have bA : ∀ t, t < i → Bz ((appM M v).getD t 0) 7000 := fun t hi => by
      rw [appM_getD (by omega)]
      have hcl := hs.cols t hi
      exact (dotN_bz (a := 40) (b := 1080) (n := i) (fun j hj => (hM t (by omega)).1 j (by omega)) (fun j hj => bv j (by omega)) v.length (by omega)).mono (by
        have : v.length * (40 + 1080 + 1) ≤ 6 * 1121 := Nat.mul_le_mul (by omega) (by omega)
        omega)
    have c2 := rapply7_ok m m' true M v hs hM (by omega) bv (by
      have : i * (40 + 1080 + 1) ≤ 6 * 1121 := Nat.mul_le_mul (by omega) (by omega)
      omega) h0 (by omega)
    refine SView.all (by simp; omega) ?_
    refine SCall.fresh c2 ?_
    refine SLoop.mk Nat (fun j => ([(0, .p (matM m m' M)), (1, .p (ratsM m'' b)), (6, .bptr 0 0), (8, .vec 1 3 0 i), (12, .vec 2 3 0 i), (13, .p (.int .i64 j))], [.box 30 [.p (.bool false), .p (.sl false 1 []), .p (.sl false 1 [])], .vec 30 3 (rats v), .vec 30 3 (rats (lst i (mixL M b v j)))]))
      (fun j => j ≤ i) (fun j => i - j) 0 [0, 1, 2] (Nat.zero_le _) ⟨rfl, by simp, rfl, rfl, rfl, ⟨rfl, rfl, rfl, rfl, rfl, rfl, trivial⟩, ⟨rfl, rfl, by rw [lst_of (appM M v), hA]; rfl, trivial⟩⟩ ?_
    intro j g1
    have g1 : j ≤ i := g1
    refine SZ.mk (i : Int) rfl ?_
    by_cases hj : j < i
    · refine SCmp.yes (decide_eq_true (by omega)) ?_
      have b1 : Bz (mixL M b v j j) 7000 := by rw [mixL, if_neg (by omega)]; exact bA j hj
      have b2 := hbl j (by omega)
      have v2 : (rats b)[j]? = some (ratP (b.getD j 0)) := by rw [List.getElem?_map, List.getElem?_eq_getElem (by omega)]; simp [List.getD, List.getElem?_eq_getElem (show j < b.length by omega)]
      have v1 := ratsI (g := mixL M b v j) hj
      refine SDraw.mkX (by kernel_rfl) ?_
      repeat refine SOp.mk _ _ (And.intro rfl rfl) rfl ?_
      refine SOp.mk _ _ (SPos.mk j rfl hj (And.intro rfl rfl)) rfl ?_
      refine SOp.mk _ _ (SIdx.mk j _ rfl v1 (And.intro rfl rfl)) rfl ?_
      repeat refine SOp.mk _ _ (And.intro rfl rfl) rfl ?_
      refine SOp.mk _ _ (SIdx.mk j _ rfl v2 (And.intro rfl rfl)) rfl ?_
      repeat refine SOp.mk _ _ (And.intro rfl rfl) rfl ?_
      refine SOp.mk _ _ (SCall.pure (rsubq_ok (mixL M b v j j) (b.getD j 0) b1 b2 (by omega)) (And.intro rfl rfl)) rfl ?_
      refine SOp.mk _ _ (SPos.mk j rfl hj (And.intro rfl rfl)) rfl ?_
      refine SOp.mk _ _ (SLt.rf hj <| SEs.rf (And.intro rfl rfl)) rfl ?_
      repeat refine SOp.mk _ _ (And.intro rfl rfl) rfl ?_
      refine SFin.mk (by kernel_rfl) ?_
      refine SWrap.i64z ((j + 1 : Nat) : Int) (by omega) (by omega) ?_
      exact ⟨j + 1, [0, 1, 2], hj, by show i - (j + 1) < i - j; omega, ⟨rfl, by simp, rfl, rfl, rfl, ⟨rfl, rfl, rfl, rfl, rfl, rfl, trivial⟩, ⟨rfl, rfl, mixL_step, trivial⟩⟩⟩
    · refine SCmp.no (decide_eq_false (by omega)) ?_
      have : j = i := by omega
      subst this
      have e : lst j (mixL M b v j) = leftQ M b v := by rw [leftQ, hl]; exact lst_congr fun t ht => if_pos ht
      have el : (leftQ M b v).length = j := by rw [leftQ, lst_length, hl]
      have bq : Bl (leftQ M b v) 7400 := by
        rw [leftQ, hl]
        exact Bl.lst fun t ht => ((bA t ht).sub (hbl t (by omega))).mono (by omega)
      rw [e]
      refine SView.all (by simp [el]) ?_
      refine SCall.pure (rsize16_ok true (leftQ M b v) bq (by omega) (by omega) (by omega)) ?_
      have bf := sizeQ_bz bq (by omega) _ (Nat.le_refl _)
      rw [List.take_length] at bf
      have hw : sizeQ (leftQ M b v) ≠ 0 → wholeQ M b v ≠ 0 := fun h1 h2 => h1 (whole_left h2)
      obtain ⟨q, hq⟩ : ∃ q, q = sizeQ (leftQ M b v) := ⟨_, rfl⟩
      rw [← hq] at bf hw ⊢
      refine SCall.pure (rnought_ok q) ?_
      by_cases hq0 : q = 0
      · rw [if_pos hq0, decide_eq_true hq0]
        refine SCond.mk (fun _ => ?_) (fun h => by cases h)
        refine SCall.pure (rzero_ok) ?_
        exact SRet.pure (.tup rfl fun i c d e1 e2 => by
          match i, e1, e2 with
          | 0, e1, e2 => cases e1; cases e2; exact .p _ (pers_rat _ _ _)
          | 1, e1, e2 => cases e1; cases e2; exact .p _ (.int _ _))
      · rw [if_neg hq0, decide_eq_false hq0]
        refine SCond.mk (fun h => by cases h) (fun _ => ?_)
        have hw := hw hq0
        have d1 := rnorm16_ok m m' M hM (by omega) (by omega) (by omega)
        have d2 := rsize16_ok true v bv (by omega) (by omega) (by omega)
        have d3 := rsize16_ok m'' b hbl (by omega) (by omega) (by omega)
        have s1 := sizeQ_bz (sums_bl hM) (by omega) _ (Nat.le_refl _)
        rw [List.take_length] at s1
        have s1 : Bz (normQ M) 300 := s1.mono (by omega)
        have s2 := sizeQ_bz bv (by omega) _ (Nat.le_refl _)
        have s3 := sizeQ_bz hbl (by omega) _ (Nat.le_refl _)
        rw [List.take_length] at s2 s3
        have s4 := (s1.mul s2).add s3
        unfold wholeQ at hw ⊢
        refine SDraw.mkX (by kernel_rfl) ?_
        repeat refine SOp.mk _ _ (And.intro rfl rfl) rfl ?_
        refine SOp.mk _ _ (SCall.pure (d1) (And.intro rfl rfl)) rfl ?_
        repeat refine SOp.mk _ _ (And.intro rfl rfl) rfl ?_
        refine SOp.mk _ _ (SView.all (by simp; omega) <| SCall.pure d2 (And.intro rfl rfl)) rfl ?_
        refine SOp.mk _ _ (SCall.pure (rmulq_ok (normQ M) (sizeQ v) s1 s2 (by omega)) (And.intro rfl rfl)) rfl ?_
        repeat refine SOp.mk _ _ (And.intro rfl rfl) rfl ?_
        refine SOp.mk _ _ (SCall.pure (d3) (And.intro rfl rfl)) rfl ?_
        refine SOp.mk _ _ (SCall.pure (raddq_ok (normQ M * sizeQ v) (sizeQ b) (s1.mul s2) s3 (by omega)) (And.intro rfl rfl)) rfl ?_
        refine SOp.mk _ _ (SCall.pure (rover_ok q (normQ M * sizeQ v + sizeQ b) hw bf s4 (by omega)) (And.intro rfl rfl)) rfl ?_
        repeat refine SOp.mk _ _ (And.intro rfl rfl) rfl ?_
        refine SFin.mk (by kernel_rfl) ?_
        exact SRet.pure (.tup rfl fun i c d e1 e2 => by
          match i, e1, e2 with
          | 0, e1, e2 => cases e1; cases e2; exact .p _ (pers_rat _ _ _)
          | 1, e1, e2 => cases e1; cases e2; exact .p _ (.int _ _))
theorem left_bl {M : List (List Rat)} {b v : List Rat} {n : Nat} (hs : Sq M n) (hM : Bm M n 40) (hb : b.length = n) (hbl : Bl b 300) (hv : v.length = n) (bv : Bl v 1080) (hn : n ≤ 6) : Bl (leftQ M b v) 7400 := by
  have hl := hs.rows
  rw [leftQ, hl]
  refine Bl.lst fun t ht => ?_
  have hA : Bz ((appM M v).getD t 0) 7000 := by
    rw [appM_getD (by omega)]
    have hcl := hs.cols t ht
    exact (dotN_bz (a := 40) (b := 1080) (n := n) (fun j hj => (hM t (by omega)).1 j (by omega)) (fun j hj => bv j (by omega)) v.length (by omega)).mono (by
      have : v.length * (40 + 1080 + 1) ≤ 6 * 1121 := Nat.mul_le_mul (by omega) (by omega)
      omega)
  exact (hA.sub (hbl t (by omega))).mono (by omega)
theorem whole_bz {M : List (List Rat)} {b v : List Rat} {n : Nat} (hM : Bm M n 40) (hbl : Bl b 300) (bv : Bl v 1080) (hn : n ≤ 6) : Bz (wholeQ M b v) 1700 := by
  have s1 := sizeQ_bz (sums_bl hM) (by omega) _ (Nat.le_refl _)
  have s2 := sizeQ_bz bv (by omega) _ (Nat.le_refl _)
  have s3 := sizeQ_bz hbl (by omega) _ (Nat.le_refl _)
  rw [List.take_length] at s1 s2 s3
  have s1 : Bz (normQ M) 300 := s1.mono (by omega)
  exact ((s1.mul s2).add s3).mono (by omega)
theorem eta_form {M : List (List Rat)} {b : List Rat} {xs : List Nat} {n : Nat} (hs : Sq M n) (hM : Bm M n 40) (hb : b.length = n) (hbl : Bl b 300) (hn : n ≤ 6) :
    (∃ e, etaA M b xs = etaR rat0 e) ∨ ∃ q, etaA M b xs = etaR (ratP q) 0 ∧ Bz q 9100 := by
  unfold etaA
  by_cases h1 : xs.length ≠ M.length
  · rw [if_pos h1]; exact .inl ⟨_, rfl⟩
  · rw [if_neg h1]
    have h1 : xs.length = n := by rw [← hs.rows]; omega
    cases xs.all fineF with
    | false => exact .inl ⟨_, rfl⟩
    | true =>
      refine .inr ?_
      have bf := sizeQ_bz (left_bl hs hM hb hbl (by rw [vals_length]; exact h1) (vals_bl xs) hn) (by omega) _ (Nat.le_refl _)
      rw [List.take_length] at bf
      by_cases h2 : sizeQ (leftQ M b (vals xs)) = 0
      · rw [if_pos h2]; exact ⟨_, rfl, bz_zero.mono (by omega)⟩
      · rw [if_neg h2]; exact ⟨_, rfl, (bf.div (whole_bz hM hbl (vals_bl xs) hn)).mono (by omega)⟩

theorem mkM_bm40 (n : Nat) (ns : List Int) : Bm (mkM n ns) n 40 := fun i hi => ⟨fun j hj => ((mkM_bm n ns i hi).1 j hj).mono (by omega), (mkM_bm n ns i hi).2⟩
theorem mkM_sq (n : Nat) (ns : List Int) : Sq (mkM n ns) n := ⟨mkM_length n ns, fun i hi => by rw [mkM_getD hi, lst_length]⟩
def etaX (fs : List Nat) (kinds : List Int) (i : Nat) : Nat := mkF (if i < fs.length then fs.getD i 0 else 4607182418800017408) (if i < kinds.length ∧ kinds.getD i 0 % 4 = 0 then (kinds.getD i 0).tdiv 4 else 6)
def codesN (n : Nat) (g : Nat → Nat) : List Nat := (List.range n).map g
theorem codesN_length (n : Nat) (g : Nat → Nat) : (codesN n g).length = n := by simp [codesN]
theorem codesN_snoc (n : Nat) (g : Nat → Nat) : codesP (codesN n g) ++ [PV.int .u64 ((g n : Nat) : Int)] = codesP (codesN (n + 1) g) := by
  simp [codesN, codesP, List.range_succ]
theorem codesN_ok {n : Nat} {g : Nat → Nat} (h : ∀ i, g i < 18446744073709551616) : OkC (codesN n g) := fun i hi => by
  rw [codesN_length] at hi
  simp [codesN, List.getD, hi, h]
theorem etaX_lt {fs : List Nat} (hf : OkC fs) (kinds : List Int) (i : Nat) : etaX fs kinds i < 18446744073709551616 := by
  unfold etaX
  split
  · exact mkF_lt (hf i (by assumption)) _
  · exact mkF_lt (by omega) _
theorem OkC.drop {xs : List Nat} (h : OkC xs) (k : Nat) : OkC (xs.drop k) := fun i hi => by
  have : i + k < xs.length := by rw [List.length_drop] at hi; omega
  have := h (k + i) (by omega)
  rwa [show (xs.drop k).getD i 0 = xs.getD (k + i) 0 by simp [List.getD, List.getElem?_drop]]

end Go.Proofs.YtacklcbgkigcaaaGreat
