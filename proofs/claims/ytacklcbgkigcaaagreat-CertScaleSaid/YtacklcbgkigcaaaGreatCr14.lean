/- CertScale: the walk (printed by gen_scale.py). -/
import Derived.Test.YtacklcbgkigcaaaGreatCr13
namespace Go.Proofs.YtacklcbgkigcaaaGreat
open Go
set_option linter.unusedVariables false
set_option linter.unusedSimpArgs false
set_option maxRecDepth 10000

theorem eta_all {M : List (List Rat)} {b : List Rat} {xs : List Nat} {n : Nat} (hs : Sq M n) (hM : Bm M n 40) (hb : b.length = n) (hbl : Bl b 300) (hn : n ≤ 6) (h1 : xs.length = n) (h2 : xs.all fineF = true) :
    ∃ q, etaA M b xs = etaR (ratP q) 0 ∧ 0 ≤ q ∧ Bz q 9100 := by
  obtain ⟨q, hq, hq0⟩ := eta_nn (M := M) (b := b) (by rw [hs.rows]; exact h1) h2
  rcases eta_form (xs := xs) hs hM hb hbl hn with ⟨e, he⟩ | ⟨p, hp, bp⟩
  · rw [hq] at he
    have h3 : ratP q = rat0 := by injection he with he; injection he with he; injection he
    have h4 : natP q.den = .sl false 1 [] := by injection h3 with h3; injection h3 with _ h3; injection h3 with _ h3; injection h3
    have h5 : (limbs (nl q.den)).length = 0 := by injection h4 with _ _ h4; rw [h4]; rfl
    have h6 : nlen q.den = 0 := by simpa [nlen] using h5
    exact absurd (nlen_zero_iff.1 h6) q.den_nz
  · refine ⟨q, hq, hq0, ?_⟩
    rw [hq] at hp
    have h3 : ratP q = ratP p := by injection hp with hp; injection hp with hp; injection hp
    have h4 : natP q.num.natAbs = natP p.num.natAbs ∧ natP q.den = natP p.den := by
      injection h3 with h3; injection h3 with _ h3; injection h3 with h3 h5; injection h5 with h5
      exact ⟨h3, h5⟩
    have inj : ∀ {x y : Nat}, natP x = natP y → x = y := fun {x y} h => by
      injection h with _ _ h
      have h : nl x = nl y := by
        have := congrArg (List.map fun v => match v with | PV.int _ z => z.toNat | _ => 0) h
        simpa [limbs, List.map_map, Function.comp_def] using this
      rw [← nv_nl x, ← nv_nl y, h]
    exact ⟨by rw [inj h4.1]; exact bp.1, by rw [inj h4.2]; exact bp.2⟩
def sX0 (vs : List Int) (i : Nat) : Int := if i < vs.length then vs.getD i 0 else i
noncomputable def sX (vs : List Int) (i : Nat) : Nat := codeQ (smallQ (sX0 vs i))
theorem sX_fine (vs : List Int) (n : Nat) : (codesN n (sX vs)).all fineF = true := List.all_eq_true.2 fun f hm => by
  obtain ⟨i, _, rfl⟩ := List.mem_map.1 hm
  exact small_fine _
abbrev rowS (M : List (List Rat)) (c : Rat) (i j : Nat) : Rat := c * (M.getD i []).getD j 0
abbrev dS (b : List Rat) (c : Rat) (i : Nat) : Rat := c * b.getD i 0
theorem getR {l : List Rat} {j : Nat} (h : j < l.length) : (rats l)[j]? = some (ratP (l.getD j 0)) := by rw [List.getElem?_map, List.getElem?_eq_getElem h]; simp [List.getD, List.getElem?_eq_getElem h]
theorem lst_rats (n : Nat) (g : Nat → Rat) : rats (lst n g) ++ [ratP (g n)] = rats (lst (n + 1) g) := by rw [← lst_snoc, rats, rats, List.map_append]; rfl
noncomputable def stS (N : Nat) (m : Bool) (vs : List Int) (M : List (List Rat)) (b : List Rat) (c : Rat) : Nat → Sl × Hp
  | 0 => ([(0, .p (.int .i64 N)), (3, .p (.sl m 1 (intsP vs))), (11, .p (matM false false M)), (12, .p (ratsM false b)), (13, .bptr 0 0), (14, .emp), (15, .emp), (16, .emp), (17, .p (.int .i64 (0 : Nat)))], [.box 30 (boxQ c)])
  | 1 => ([(0, .p (.int .i64 N)), (3, .p (.sl m 1 (intsP vs))), (11, .p (matM false false M)), (12, .p (ratsM false b)), (13, .bptr 0 0), (14, .vec 1 1 0 1), (15, .vec 4 1 0 1), (16, .vec 2 3 0 1), (17, .p (.int .i64 (1 : Nat)))], [.box 30 (boxQ c), .vec 22 1 (codesP (codesN 1 (sX vs))), .vec 30 3 (rats (lst 1 (dS b c))), .vec 30 3 (rats (lst N (rowS M c 0))), .rows 64 [.vec 3 3 0 N]])
  | 2 => ([(0, .p (.int .i64 N)), (3, .p (.sl m 1 (intsP vs))), (11, .p (matM false false M)), (12, .p (ratsM false b)), (13, .bptr 0 0), (14, .vec 1 1 0 2), (15, .vec 5 1 0 2), (16, .vec 2 3 0 2), (17, .p (.int .i64 (2 : Nat)))], [.box 30 (boxQ c), .vec 22 1 (codesP (codesN 2 (sX vs))), .vec 30 3 (rats (lst 2 (dS b c))), .vec 30 3 (rats (lst N (rowS M c 0))), .vec 30 3 (rats (lst N (rowS M c 1))), .rows 64 [.vec 3 3 0 N, .vec 4 3 0 N]])
  | 3 => ([(0, .p (.int .i64 N)), (3, .p (.sl m 1 (intsP vs))), (11, .p (matM false false M)), (12, .p (ratsM false b)), (13, .bptr 0 0), (14, .vec 1 1 0 3), (15, .vec 6 1 0 3), (16, .vec 2 3 0 3), (17, .p (.int .i64 (3 : Nat)))], [.box 30 (boxQ c), .vec 22 1 (codesP (codesN 3 (sX vs))), .vec 30 3 (rats (lst 3 (dS b c))), .vec 30 3 (rats (lst N (rowS M c 0))), .vec 30 3 (rats (lst N (rowS M c 1))), .vec 30 3 (rats (lst N (rowS M c 2))), .rows 64 [.vec 3 3 0 N, .vec 4 3 0 N, .vec 5 3 0 N]])
  | 4 => ([(0, .p (.int .i64 N)), (3, .p (.sl m 1 (intsP vs))), (11, .p (matM false false M)), (12, .p (ratsM false b)), (13, .bptr 0 0), (14, .vec 1 1 0 4), (15, .vec 7 1 0 4), (16, .vec 2 3 0 4), (17, .p (.int .i64 (4 : Nat)))], [.box 30 (boxQ c), .vec 22 1 (codesP (codesN 4 (sX vs))), .vec 30 3 (rats (lst 4 (dS b c))), .vec 30 3 (rats (lst N (rowS M c 0))), .vec 30 3 (rats (lst N (rowS M c 1))), .vec 30 3 (rats (lst N (rowS M c 2))), .vec 30 3 (rats (lst N (rowS M c 3))), .rows 64 [.vec 3 3 0 N, .vec 4 3 0 N, .vec 5 3 0 N, .vec 6 3 0 N]])
  | _ => ([], [])

set_option maxHeartbeats 8000000 in
theorem certScale_ok (m1 m2 m : Bool) (n : Int) (ns bs vs : List Int) (k : Int) (hns : I64s ns) (hbs : I64s bs) (hvs : I64s vs) (hk : I64 k) :
    CallP Tryz.prog 10 [.int .i64 n, .sl m1 1 (intsP ns), .sl m2 1 (intsP bs), .sl m 1 (intsP vs), .int .i64 k] (.p (.bool true)) [] := by
  have w1 := within16_ok n 4 (by omega) (by omega)
  obtain ⟨N, hN⟩ : ∃ N : Nat, (N : Int) = 1 + n % 4 := ⟨(1 + n % 4).toNat, by omega⟩
  have hN1 : 0 < N := by omega
  have hN2 : N ≤ 6 := by omega
  have hN4 : N ≤ 4 := by omega
  obtain ⟨c, hc, bc, hcd⟩ : ∃ c : Rat, c ≠ 0 ∧ Bz c 5 ∧ c = if smallQ k = 0 then ((-7 : Int) : Rat) else smallQ k := by
    by_cases h : smallQ k = 0
    · exact ⟨_, by decide, ⟨by decide, by decide⟩, (if_pos h).symm⟩
    · exact ⟨_, h, smallQ_bz k, (if_neg h).symm⟩
  have bm := mkM_bm40 N ns
  have bm0 := mkM_bm N ns
  have hs := mkM_sq N ns
  have mk := make7_ok m1 N (by omega) ns hns
  obtain ⟨M, hM⟩ : ∃ M, M = mkM N ns := ⟨_, rfl⟩
  rw [← hM] at bm bm0 hs mk
  have hl := hs.rows
  have hbl : (lst N (rowG bs)).length = N := lst_length
  have hbb : ∀ i, i < N → Bz ((lst N (rowG bs)).getD i 0) 5 := fun i hi => by rw [lst_getD hi]; exact rowG_bz bs i
  have rw2 := row2_ok m2 bs hbs N (by omega)
  obtain ⟨b, hb⟩ : ∃ b, b = lst N (rowG bs) := ⟨_, rfl⟩
  rw [← hb] at hbl hbb rw2
  have bb : Bl b 300 := fun i hi => (hbb i (by omega)).mono (by omega)
  have hx : OkC (codesN N (sX vs)) := codesN_ok fun j => codeQ_lt _
  have hxl := codesN_length N (sX vs)
  obtain ⟨q, hq, hq0, bq⟩ := eta_all (xs := codesN N (sX vs)) hs bm hbl bb hN2 hxl (sX_fine vs N)
  have c1 := ceta_ok false false false true M b (codesN N (sX vs)) hs bm hbl bb hx hN1 hN2 (by omega)
  have hsS : Sq (sclM c M) N := ⟨by rw [sclM_length, hl], fun i hi => by rw [sclM_getD c (by omega), scl_length]; exact hs.cols i hi⟩
  have bmS : Bm (sclM c M) N 40 := fun i hi => by
    rw [sclM_length] at hi
    rw [sclM_getD c hi]
    refine ⟨fun j hj => ?_, by rw [scl_length]; exact (bm i hi).2⟩
    rw [scl_length] at hj
    rw [scl_getD]
    exact (bc.mul ((bm0 i hi).1 j hj)).mono (by omega)
  have bbS : Bl (scl c b) 300 := fun i hi => by
    rw [scl_length] at hi
    rw [scl_getD]
    exact (bc.mul (hbb i (by omega))).mono (by omega)
  have c2 := ceta_ok true true true true (sclM c M) (scl c b) (codesN N (sX vs)) hsS bmS (by rw [scl_length]; exact hbl) bbS hx hN1 hN2 (by omega)
  rw [eta_scl hc, hq, sclM_lst hs c, scl_lst hbl c] at c2
  rw [hq] at c1
  have hneg : (!decide (q.num < 0)) = true := by
    have : ¬ q.num < 0 := fun h => by have := Rat.num_nonneg.2 hq0; omega
    rw [decide_eq_false this]; rfl
  have nq := rnought_ok (smallQ k)
  refine callG_of_vc (wr := wr0) Γok mixed Tryz.func10 (by kernel_rfl) rfl (by kernel_rfl) (le_of_ble rfl) (by simp) ?_
  refine SCall.pure (known16_ok) ?_
  refine SCmp.no (rfl) ?_
  refine SCall.pure (w1) ?_
  refine SWrap.i64z (N : Int) (by omega) (by omega) ?_
  refine SCall.pure (mk) ?_
  refine SCall.pure (rw2) ?_
  refine SCall.pure (small2_ok k hk) ?_
  refine SCall.pure (nq) ?_
  by_cases h0 : smallQ k = 0
  · rw [if_pos h0] at hcd
    rw [decide_eq_true h0]
    refine SCond.mk (fun _ => ?_) (fun h => by cases h)
    refine SCall.pure (rint_ok (-7) (by omega)) ?_
    rw [← hcd]
    refine SLoop.mk Nat (stS N m vs M b c) (fun i => i ≤ N) (fun i => N - i) 0 [0] (Nat.zero_le _) ⟨rfl, by simp, rfl, rfl, rfl, ⟨rfl, rfl, rfl, rfl, rfl, rfl, rfl, rfl, rfl, trivial⟩, ⟨rfl, trivial⟩⟩ ?_
    intro i h1
    have h1 : i ≤ N := h1
    have h6 : i < 5 := by omega
    match i, h6, h1 with
    | 0, _, h1 =>
      by_cases hi : 0 < N
      · refine SCmp.yes (decide_eq_true (by omega)) ?_
        refine SZ.mk (vs.length : Int) (by simp) ?_
        by_cases hk : 0 < vs.length
        · refine SCmp.yes (decide_eq_true (by omega)) ?_
          refine SIdx.ib 0 rfl hk ?_
          have hK : sX vs 0 = codeQ (smallQ (vs.getD 0 0)) := by unfold sX sX0; rw [if_pos hk]
          refine SCall.pure (small2_ok (vs.getD 0 0) (hvs 0)) ?_
          refine SCall.pureT (rfof_ok (smallQ (vs.getD 0 0)) 0 (smallQ_bz _) (by omega)) (fun _ => rfl) ?_
          have vb := getR (l := b) (j := 0) (by omega)
          have bb1 := hbb 0 (by omega)
          refine SDraw.mkX (by kernel_rfl) ?_
          repeat refine SOp.mk _ _ (And.intro rfl rfl) rfl ?_
          have hx1 : [PV.int .u64 ((codeQ (smallQ (vs.getD 0 0)) : Nat) : Int)] = codesP (codesN 1 (sX vs)) := by rw [← hK]; rfl
          refine SOp.mk _ _ (SView.all rfl <| SRoom.mk (by simp) (by simp) (And.intro rfl rfl)) rfl ?_
          repeat refine SOp.mk _ _ (And.intro rfl rfl) rfl ?_
          refine SOp.mk _ _ (SIdx.mk 0 _ rfl vb (And.intro rfl rfl)) rfl ?_
          repeat refine SOp.mk _ _ (And.intro rfl rfl) rfl ?_
          refine SOp.mk _ _ (SCall.pure (rmulq_ok c (b.getD 0 0) bc bb1 (by omega)) (And.intro rfl rfl)) rfl ?_
          repeat refine SOp.mk _ _ (And.intro rfl rfl) rfl ?_
          refine SOp.mk _ _ (SView.all rfl <| SRoom.mk (by simp) (by simp) (And.intro rfl rfl)) rfl ?_
          repeat refine SOp.mk _ _ (And.intro rfl rfl) rfl ?_
          refine SFin.mk (by kernel_rfl) ?_
          refine SLoop.mkT Nat (fun j => ([(0, .p (.int .i64 N)), (3, .p (.sl m 1 (intsP vs))), (11, .p (matM false false M)), (12, .p (ratsM false b)), (13, .bptr 0 0), (14, .vec 1 1 0 1), (15, .emp), (16, .vec 2 3 0 1), (17, .p (.int .i64 (0 : Nat))), (21, .vec 3 3 0 j), (22, .p (.int .i64 j))], [.box 30 (boxQ c), .vec 22 1 (codesP (codesN 1 (sX vs))), .vec 30 3 (rats (lst 1 (dS b c))), .vec 30 3 (rats (lst j (rowS M c 0)))])) (fun j => j ≤ N) (fun j => N - j) 0 [0, 2, 4, 5] _ _ (.step 21 30 3 rfl (.done _ _)) (Nat.zero_le _) ⟨rfl, by simp, rfl, rfl, rfl, ⟨rfl, rfl, rfl, rfl, rfl, rfl, rfl, rfl, rfl, rfl, rfl, trivial⟩, ⟨rfl, (by rw [← hx1]; rfl), rfl, rfl, trivial⟩⟩ ?_
          intro j g1
          have g1 : j ≤ N := g1
          have hrow : (M.map (ratsM false))[0]? = some (ratsM false (M.getD 0 [])) := by simp [List.getElem?_map, List.getElem?_eq_getElem (show 0 < M.length by omega), List.getD]
          have hc0 := hs.cols 0 hi
          by_cases hj : j < N
          · refine SCmp.yes (decide_eq_true (by omega)) ?_
            have vj := getR (l := M.getD 0 []) (j := j) (by omega)
            have bj := (bm 0 (by omega)).1 j (by omega)
            refine SDraw.mkX (by kernel_rfl) ?_
            repeat refine SOp.mk _ _ (And.intro rfl rfl) rfl ?_
            refine SOp.mk _ _ (SIdx.mk 0 _ rfl hrow (And.intro rfl rfl)) rfl ?_
            repeat refine SOp.mk _ _ (And.intro rfl rfl) rfl ?_
            refine SOp.mk _ _ (SIdx.mk j _ rfl vj (And.intro rfl rfl)) rfl ?_
            repeat refine SOp.mk _ _ (And.intro rfl rfl) rfl ?_
            refine SOp.mk _ _ (SCall.pure (rmulq_ok c ((M.getD 0 []).getD j 0) bc bj (by omega)) (And.intro rfl rfl)) rfl ?_
            repeat refine SOp.mk _ _ (And.intro rfl rfl) rfl ?_
            refine SOp.mk _ _ (SEqN.mk (by simp [lst]) <| SView.all rfl <| SRoom.mk (by simp [lst]; omega) (by simp [lst]; omega) <| SEs.mk (rats (lst (j + 1) (rowS M c 0))) (lst_rats j (rowS M c 0)) <| SZN.mk (j + 1) (by simp [lst]) (And.intro rfl rfl)) rfl ?_
            repeat refine SOp.mk _ _ (And.intro rfl rfl) rfl ?_
            refine SFin.mk (by kernel_rfl) ?_
            refine SWrap.i64z ((j + 1 : Nat) : Int) (by omega) (by omega) ?_
            exact ⟨j + 1, [0, 1, 2, 5], hj, by show N - (j + 1) < N - j; omega, ⟨rfl, by simp, rfl, rfl, rfl, ⟨rfl, rfl, rfl, rfl, rfl, rfl, rfl, rfl, rfl, rfl, rfl, trivial⟩, ⟨rfl, rfl, rfl, rfl, trivial⟩⟩⟩
          · refine SCmp.no (decide_eq_false (by omega)) ?_
            have hjN : j = N := by omega
            rw [hjN]
            refine SRoom.mk (by simp) (by simp) ?_
            refine SWrap.i64z 1 rfl (by omega) ?_
            exact ⟨1, [0, 1, 2, 3, 5], hi, by show N - 1 < N - 0; omega, ⟨rfl, by simp, rfl, rfl, rfl, ⟨rfl, rfl, rfl, rfl, rfl, rfl, rfl, rfl, rfl, trivial⟩, ⟨rfl, rfl, rfl, rfl, rfl, trivial⟩⟩⟩
        · refine SCmp.no (decide_eq_false (by omega)) ?_
          have hK : sX vs 0 = codeQ (smallQ ((0 : Nat) : Int)) := by unfold sX sX0; rw [if_neg hk]
          refine SCall.pure (small2_ok ((0 : Nat) : Int) (by omega)) ?_
          refine SCall.pureT (rfof_ok (smallQ ((0 : Nat) : Int)) 0 (smallQ_bz _) (by omega)) (fun _ => rfl) ?_
          have vb := getR (l := b) (j := 0) (by omega)
          have bb1 := hbb 0 (by omega)
          refine SDraw.mkX (by kernel_rfl) ?_
          repeat refine SOp.mk _ _ (And.intro rfl rfl) rfl ?_
          have hx1 : [PV.int .u64 ((codeQ (smallQ ((0 : Nat) : Int)) : Nat) : Int)] = codesP (codesN 1 (sX vs)) := by rw [← hK]; rfl
          refine SOp.mk _ _ (SView.all rfl <| SRoom.mk (by simp) (by simp) (And.intro rfl rfl)) rfl ?_
          repeat refine SOp.mk _ _ (And.intro rfl rfl) rfl ?_
          refine SOp.mk _ _ (SIdx.mk 0 _ rfl vb (And.intro rfl rfl)) rfl ?_
          repeat refine SOp.mk _ _ (And.intro rfl rfl) rfl ?_
          refine SOp.mk _ _ (SCall.pure (rmulq_ok c (b.getD 0 0) bc bb1 (by omega)) (And.intro rfl rfl)) rfl ?_
          repeat refine SOp.mk _ _ (And.intro rfl rfl) rfl ?_
          refine SOp.mk _ _ (SView.all rfl <| SRoom.mk (by simp) (by simp) (And.intro rfl rfl)) rfl ?_
          repeat refine SOp.mk _ _ (And.intro rfl rfl) rfl ?_
          refine SFin.mk (by kernel_rfl) ?_
          refine SLoop.mkT Nat (fun j => ([(0, .p (.int .i64 N)), (3, .p (.sl m 1 (intsP vs))), (11, .p (matM false false M)), (12, .p (ratsM false b)), (13, .bptr 0 0), (14, .vec 1 1 0 1), (15, .emp), (16, .vec 2 3 0 1), (17, .p (.int .i64 (0 : Nat))), (21, .vec 3 3 0 j), (22, .p (.int .i64 j))], [.box 30 (boxQ c), .vec 22 1 (codesP (codesN 1 (sX vs))), .vec 30 3 (rats (lst 1 (dS b c))), .vec 30 3 (rats (lst j (rowS M c 0)))])) (fun j => j ≤ N) (fun j => N - j) 0 [0, 2, 4, 5] _ _ (.step 21 30 3 rfl (.done _ _)) (Nat.zero_le _) ⟨rfl, by simp, rfl, rfl, rfl, ⟨rfl, rfl, rfl, rfl, rfl, rfl, rfl, rfl, rfl, rfl, rfl, trivial⟩, ⟨rfl, (by rw [← hx1]; rfl), rfl, rfl, trivial⟩⟩ ?_
          intro j g1
          have g1 : j ≤ N := g1
          have hrow : (M.map (ratsM false))[0]? = some (ratsM false (M.getD 0 [])) := by simp [List.getElem?_map, List.getElem?_eq_getElem (show 0 < M.length by omega), List.getD]
          have hc0 := hs.cols 0 hi
          by_cases hj : j < N
          · refine SCmp.yes (decide_eq_true (by omega)) ?_
            have vj := getR (l := M.getD 0 []) (j := j) (by omega)
            have bj := (bm 0 (by omega)).1 j (by omega)
            refine SDraw.mkX (by kernel_rfl) ?_
            repeat refine SOp.mk _ _ (And.intro rfl rfl) rfl ?_
            refine SOp.mk _ _ (SIdx.mk 0 _ rfl hrow (And.intro rfl rfl)) rfl ?_
            repeat refine SOp.mk _ _ (And.intro rfl rfl) rfl ?_
            refine SOp.mk _ _ (SIdx.mk j _ rfl vj (And.intro rfl rfl)) rfl ?_
            repeat refine SOp.mk _ _ (And.intro rfl rfl) rfl ?_
            refine SOp.mk _ _ (SCall.pure (rmulq_ok c ((M.getD 0 []).getD j 0) bc bj (by omega)) (And.intro rfl rfl)) rfl ?_
            repeat refine SOp.mk _ _ (And.intro rfl rfl) rfl ?_
            refine SOp.mk _ _ (SEqN.mk (by simp [lst]) <| SView.all rfl <| SRoom.mk (by simp [lst]; omega) (by simp [lst]; omega) <| SEs.mk (rats (lst (j + 1) (rowS M c 0))) (lst_rats j (rowS M c 0)) <| SZN.mk (j + 1) (by simp [lst]) (And.intro rfl rfl)) rfl ?_
            repeat refine SOp.mk _ _ (And.intro rfl rfl) rfl ?_
            refine SFin.mk (by kernel_rfl) ?_
            refine SWrap.i64z ((j + 1 : Nat) : Int) (by omega) (by omega) ?_
            exact ⟨j + 1, [0, 1, 2, 5], hj, by show N - (j + 1) < N - j; omega, ⟨rfl, by simp, rfl, rfl, rfl, ⟨rfl, rfl, rfl, rfl, rfl, rfl, rfl, rfl, rfl, rfl, rfl, trivial⟩, ⟨rfl, rfl, rfl, rfl, trivial⟩⟩⟩
          · refine SCmp.no (decide_eq_false (by omega)) ?_
            have hjN : j = N := by omega
            rw [hjN]
            refine SRoom.mk (by simp) (by simp) ?_
            refine SWrap.i64z 1 rfl (by omega) ?_
            exact ⟨1, [0, 1, 2, 3, 5], hi, by show N - 1 < N - 0; omega, ⟨rfl, by simp, rfl, rfl, rfl, ⟨rfl, rfl, rfl, rfl, rfl, rfl, rfl, rfl, rfl, trivial⟩, ⟨rfl, rfl, rfl, rfl, rfl, trivial⟩⟩⟩
      · omega
    | 1, _, h1 =>
      by_cases hi : 1 < N
      · refine SCmp.yes (decide_eq_true (by omega)) ?_
        refine SZ.mk (vs.length : Int) (by simp) ?_
        by_cases hk : 1 < vs.length
        · refine SCmp.yes (decide_eq_true (by omega)) ?_
          refine SIdx.ib 1 rfl hk ?_
          have hK : sX vs 1 = codeQ (smallQ (vs.getD 1 0)) := by unfold sX sX0; rw [if_pos hk]
          refine SCall.pure (small2_ok (vs.getD 1 0) (hvs 1)) ?_
          refine SCall.pureT (rfof_ok (smallQ (vs.getD 1 0)) 0 (smallQ_bz _) (by omega)) (fun _ => rfl) ?_
          have vb := getR (l := b) (j := 1) (by omega)
          have bb1 := hbb 1 (by omega)
          refine SDraw.mkX (by kernel_rfl) ?_
          repeat refine SOp.mk _ _ (And.intro rfl rfl) rfl ?_
          refine SOp.mk _ _ (SEqN.mk (by simp [codesP, codesN]) <| SView.all rfl <| SRoom.mk (by simp [codesP, codesN]) (by simp [codesP, codesN]) <| SEs.mk (codesP (codesN 2 (sX vs))) (by have := codesN_snoc 1 (sX vs); rw [hK] at this; exact this) <| SZN.mk 2 (by simp [codesP, codesN]) (And.intro rfl rfl)) rfl ?_
          repeat refine SOp.mk _ _ (And.intro rfl rfl) rfl ?_
          refine SOp.mk _ _ (SIdx.mk 1 _ rfl vb (And.intro rfl rfl)) rfl ?_
          repeat refine SOp.mk _ _ (And.intro rfl rfl) rfl ?_
          refine SOp.mk _ _ (SCall.pure (rmulq_ok c (b.getD 1 0) bc bb1 (by omega)) (And.intro rfl rfl)) rfl ?_
          repeat refine SOp.mk _ _ (And.intro rfl rfl) rfl ?_
          refine SOp.mk _ _ (SEqN.mk (by simp [lst]) <| SView.all rfl <| SRoom.mk (by simp [lst]) (by simp [lst]) <| SEs.mk (rats (lst 2 (dS b c))) (lst_rats 1 (dS b c)) <| SZN.mk 2 (by simp [lst]) (And.intro rfl rfl)) rfl ?_
          repeat refine SOp.mk _ _ (And.intro rfl rfl) rfl ?_
          refine SFin.mk (by kernel_rfl) ?_
          refine SLoop.mkT Nat (fun j => ([(0, .p (.int .i64 N)), (3, .p (.sl m 1 (intsP vs))), (11, .p (matM false false M)), (12, .p (ratsM false b)), (13, .bptr 0 0), (14, .vec 1 1 0 2), (15, .vec 4 1 0 1), (16, .vec 2 3 0 2), (17, .p (.int .i64 (1 : Nat))), (21, .vec 5 3 0 j), (22, .p (.int .i64 j))], [.box 30 (boxQ c), .vec 22 1 (codesP (codesN 2 (sX vs))), .vec 30 3 (rats (lst 2 (dS b c))), .vec 30 3 (rats (lst N (rowS M c 0))), .rows 64 [.vec 3 3 0 N], .vec 30 3 (rats (lst j (rowS M c 1)))])) (fun j => j ≤ N) (fun j => N - j) 0 [0, 6, 8, 3, 4, 9] _ _ (.step 21 30 3 rfl (.done _ _)) (Nat.zero_le _) ⟨rfl, by simp, rfl, rfl, rfl, ⟨rfl, rfl, rfl, rfl, rfl, rfl, rfl, rfl, rfl, rfl, rfl, trivial⟩, ⟨rfl, rfl, rfl, rfl, rfl, rfl, trivial⟩⟩ ?_
          intro j g1
          have g1 : j ≤ N := g1
          have hrow : (M.map (ratsM false))[1]? = some (ratsM false (M.getD 1 [])) := by simp [List.getElem?_map, List.getElem?_eq_getElem (show 1 < M.length by omega), List.getD]
          have hc1 := hs.cols 1 hi
          by_cases hj : j < N
          · refine SCmp.yes (decide_eq_true (by omega)) ?_
            have vj := getR (l := M.getD 1 []) (j := j) (by omega)
            have bj := (bm 1 (by omega)).1 j (by omega)
            refine SDraw.mkX (by kernel_rfl) ?_
            repeat refine SOp.mk _ _ (And.intro rfl rfl) rfl ?_
            refine SOp.mk _ _ (SIdx.mk 1 _ rfl hrow (And.intro rfl rfl)) rfl ?_
            repeat refine SOp.mk _ _ (And.intro rfl rfl) rfl ?_
            refine SOp.mk _ _ (SIdx.mk j _ rfl vj (And.intro rfl rfl)) rfl ?_
            repeat refine SOp.mk _ _ (And.intro rfl rfl) rfl ?_
            refine SOp.mk _ _ (SCall.pure (rmulq_ok c ((M.getD 1 []).getD j 0) bc bj (by omega)) (And.intro rfl rfl)) rfl ?_
            repeat refine SOp.mk _ _ (And.intro rfl rfl) rfl ?_
            refine SOp.mk _ _ (SEqN.mk (by simp [lst]) <| SView.all rfl <| SRoom.mk (by simp [lst]; omega) (by simp [lst]; omega) <| SEs.mk (rats (lst (j + 1) (rowS M c 1))) (lst_rats j (rowS M c 1)) <| SZN.mk (j + 1) (by simp [lst]) (And.intro rfl rfl)) rfl ?_
            repeat refine SOp.mk _ _ (And.intro rfl rfl) rfl ?_
            refine SFin.mk (by kernel_rfl) ?_
            refine SWrap.i64z ((j + 1 : Nat) : Int) (by omega) (by omega) ?_
            exact ⟨j + 1, [0, 1, 2, 3, 4, 7], hj, by show N - (j + 1) < N - j; omega, ⟨rfl, by simp, rfl, rfl, rfl, ⟨rfl, rfl, rfl, rfl, rfl, rfl, rfl, rfl, rfl, rfl, rfl, trivial⟩, ⟨rfl, rfl, rfl, rfl, rfl, rfl, trivial⟩⟩⟩
          · refine SCmp.no (decide_eq_false (by omega)) ?_
            have hjN : j = N := by omega
            rw [hjN]
            refine SEqN.mk rfl ?_
            refine SRoom.mk (by simp) (by simp) ?_
            refine SAs.mk _ rfl ?_
            refine SZN.mk 2 rfl ?_
            refine SWrap.i64z 2 rfl (by omega) ?_
            exact ⟨2, [0, 1, 2, 3, 5, 7], hi, by show N - 2 < N - 1; omega, ⟨rfl, by simp, rfl, rfl, rfl, ⟨rfl, rfl, rfl, rfl, rfl, rfl, rfl, rfl, rfl, trivial⟩, ⟨rfl, rfl, rfl, rfl, rfl, rfl, trivial⟩⟩⟩
        · refine SCmp.no (decide_eq_false (by omega)) ?_
          have hK : sX vs 1 = codeQ (smallQ ((1 : Nat) : Int)) := by unfold sX sX0; rw [if_neg hk]
          refine SCall.pure (small2_ok ((1 : Nat) : Int) (by omega)) ?_
          refine SCall.pureT (rfof_ok (smallQ ((1 : Nat) : Int)) 0 (smallQ_bz _) (by omega)) (fun _ => rfl) ?_
          have vb := getR (l := b) (j := 1) (by omega)
          have bb1 := hbb 1 (by omega)
          refine SDraw.mkX (by kernel_rfl) ?_
          repeat refine SOp.mk _ _ (And.intro rfl rfl) rfl ?_
          refine SOp.mk _ _ (SEqN.mk (by simp [codesP, codesN]) <| SView.all rfl <| SRoom.mk (by simp [codesP, codesN]) (by simp [codesP, codesN]) <| SEs.mk (codesP (codesN 2 (sX vs))) (by have := codesN_snoc 1 (sX vs); rw [hK] at this; exact this) <| SZN.mk 2 (by simp [codesP, codesN]) (And.intro rfl rfl)) rfl ?_
          repeat refine SOp.mk _ _ (And.intro rfl rfl) rfl ?_
          refine SOp.mk _ _ (SIdx.mk 1 _ rfl vb (And.intro rfl rfl)) rfl ?_
          repeat refine SOp.mk _ _ (And.intro rfl rfl) rfl ?_
          refine SOp.mk _ _ (SCall.pure (rmulq_ok c (b.getD 1 0) bc bb1 (by omega)) (And.intro rfl rfl)) rfl ?_
          repeat refine SOp.mk _ _ (And.intro rfl rfl) rfl ?_
          refine SOp.mk _ _ (SEqN.mk (by simp [lst]) <| SView.all rfl <| SRoom.mk (by simp [lst]) (by simp [lst]) <| SEs.mk (rats (lst 2 (dS b c))) (lst_rats 1 (dS b c)) <| SZN.mk 2 (by simp [lst]) (And.intro rfl rfl)) rfl ?_
          repeat refine SOp.mk _ _ (And.intro rfl rfl) rfl ?_
          refine SFin.mk (by kernel_rfl) ?_
          refine SLoop.mkT Nat (fun j => ([(0, .p (.int .i64 N)), (3, .p (.sl m 1 (intsP vs))), (11, .p (matM false false M)), (12, .p (ratsM false b)), (13, .bptr 0 0), (14, .vec 1 1 0 2), (15, .vec 4 1 0 1), (16, .vec 2 3 0 2), (17, .p (.int .i64 (1 : Nat))), (21, .vec 5 3 0 j), (22, .p (.int .i64 j))], [.box 30 (boxQ c), .vec 22 1 (codesP (codesN 2 (sX vs))), .vec 30 3 (rats (lst 2 (dS b c))), .vec 30 3 (rats (lst N (rowS M c 0))), .rows 64 [.vec 3 3 0 N], .vec 30 3 (rats (lst j (rowS M c 1)))])) (fun j => j ≤ N) (fun j => N - j) 0 [0, 6, 8, 3, 4, 9] _ _ (.step 21 30 3 rfl (.done _ _)) (Nat.zero_le _) ⟨rfl, by simp, rfl, rfl, rfl, ⟨rfl, rfl, rfl, rfl, rfl, rfl, rfl, rfl, rfl, rfl, rfl, trivial⟩, ⟨rfl, rfl, rfl, rfl, rfl, rfl, trivial⟩⟩ ?_
          intro j g1
          have g1 : j ≤ N := g1
          have hrow : (M.map (ratsM false))[1]? = some (ratsM false (M.getD 1 [])) := by simp [List.getElem?_map, List.getElem?_eq_getElem (show 1 < M.length by omega), List.getD]
          have hc1 := hs.cols 1 hi
          by_cases hj : j < N
          · refine SCmp.yes (decide_eq_true (by omega)) ?_
            have vj := getR (l := M.getD 1 []) (j := j) (by omega)
            have bj := (bm 1 (by omega)).1 j (by omega)
            refine SDraw.mkX (by kernel_rfl) ?_
            repeat refine SOp.mk _ _ (And.intro rfl rfl) rfl ?_
            refine SOp.mk _ _ (SIdx.mk 1 _ rfl hrow (And.intro rfl rfl)) rfl ?_
            repeat refine SOp.mk _ _ (And.intro rfl rfl) rfl ?_
            refine SOp.mk _ _ (SIdx.mk j _ rfl vj (And.intro rfl rfl)) rfl ?_
            repeat refine SOp.mk _ _ (And.intro rfl rfl) rfl ?_
            refine SOp.mk _ _ (SCall.pure (rmulq_ok c ((M.getD 1 []).getD j 0) bc bj (by omega)) (And.intro rfl rfl)) rfl ?_
            repeat refine SOp.mk _ _ (And.intro rfl rfl) rfl ?_
            refine SOp.mk _ _ (SEqN.mk (by simp [lst]) <| SView.all rfl <| SRoom.mk (by simp [lst]; omega) (by simp [lst]; omega) <| SEs.mk (rats (lst (j + 1) (rowS M c 1))) (lst_rats j (rowS M c 1)) <| SZN.mk (j + 1) (by simp [lst]) (And.intro rfl rfl)) rfl ?_
            repeat refine SOp.mk _ _ (And.intro rfl rfl) rfl ?_
            refine SFin.mk (by kernel_rfl) ?_
            refine SWrap.i64z ((j + 1 : Nat) : Int) (by omega) (by omega) ?_
            exact ⟨j + 1, [0, 1, 2, 3, 4, 7], hj, by show N - (j + 1) < N - j; omega, ⟨rfl, by simp, rfl, rfl, rfl, ⟨rfl, rfl, rfl, rfl, rfl, rfl, rfl, rfl, rfl, rfl, rfl, trivial⟩, ⟨rfl, rfl, rfl, rfl, rfl, rfl, trivial⟩⟩⟩
          · refine SCmp.no (decide_eq_false (by omega)) ?_
            have hjN : j = N := by omega
            rw [hjN]
            refine SEqN.mk rfl ?_
            refine SRoom.mk (by simp) (by simp) ?_
            refine SAs.mk _ rfl ?_
            refine SZN.mk 2 rfl ?_
            refine SWrap.i64z 2 rfl (by omega) ?_
            exact ⟨2, [0, 1, 2, 3, 5, 7], hi, by show N - 2 < N - 1; omega, ⟨rfl, by simp, rfl, rfl, rfl, ⟨rfl, rfl, rfl, rfl, rfl, rfl, rfl, rfl, rfl, trivial⟩, ⟨rfl, rfl, rfl, rfl, rfl, rfl, trivial⟩⟩⟩
      · refine SCmp.no (decide_eq_false (by omega)) ?_
        have hn' : N = 1 := by omega
        subst hn'
        refine SView.all (by simp [codesP, codesN]) ?_
        refine SCall.pureT (c1) (fun _ => rfl) ?_
        refine SView.all (by simp [lst]) ?_
        refine SView.all (by simp [lst]) ?_
        refine SView.all (by simp [codesP, codesN]) ?_
        refine SCall.pureT (c2) (fun _ => rfl) ?_
        refine SCmp.yes (rfl) ?_
        refine SCmp.yes (rfl) ?_
        refine SCall.pure (rsame_self bq (by omega)) ?_
        refine SCond.mk (fun _ => ?_) (fun h => by cases h)
        refine SCall.pure (rright_ok q bq (by omega)) ?_
        refine SCond.mk (fun _ => ?_) (fun h => by cases h)
        refine SCmp.yes (hneg) ?_
        exact SRet.pure (.tf _)
    | 2, _, h1 =>
      by_cases hi : 2 < N
      · refine SCmp.yes (decide_eq_true (by omega)) ?_
        refine SZ.mk (vs.length : Int) (by simp) ?_
        by_cases hk : 2 < vs.length
        · refine SCmp.yes (decide_eq_true (by omega)) ?_
          refine SIdx.ib 2 rfl hk ?_
          have hK : sX vs 2 = codeQ (smallQ (vs.getD 2 0)) := by unfold sX sX0; rw [if_pos hk]
          refine SCall.pure (small2_ok (vs.getD 2 0) (hvs 2)) ?_
          refine SCall.pureT (rfof_ok (smallQ (vs.getD 2 0)) 0 (smallQ_bz _) (by omega)) (fun _ => rfl) ?_
          have vb := getR (l := b) (j := 2) (by omega)
          have bb1 := hbb 2 (by omega)
          refine SDraw.mkX (by kernel_rfl) ?_
          repeat refine SOp.mk _ _ (And.intro rfl rfl) rfl ?_
          refine SOp.mk _ _ (SEqN.mk (by simp [codesP, codesN]) <| SView.all rfl <| SRoom.mk (by simp [codesP, codesN]) (by simp [codesP, codesN]) <| SEs.mk (codesP (codesN 3 (sX vs))) (by have := codesN_snoc 2 (sX vs); rw [hK] at this; exact this) <| SZN.mk 3 (by simp [codesP, codesN]) (And.intro rfl rfl)) rfl ?_
          repeat refine SOp.mk _ _ (And.intro rfl rfl) rfl ?_
          refine SOp.mk _ _ (SIdx.mk 2 _ rfl vb (And.intro rfl rfl)) rfl ?_
          repeat refine SOp.mk _ _ (And.intro rfl rfl) rfl ?_
          refine SOp.mk _ _ (SCall.pure (rmulq_ok c (b.getD 2 0) bc bb1 (by omega)) (And.intro rfl rfl)) rfl ?_
          repeat refine SOp.mk _ _ (And.intro rfl rfl) rfl ?_
          refine SOp.mk _ _ (SEqN.mk (by simp [lst]) <| SView.all rfl <| SRoom.mk (by simp [lst]) (by simp [lst]) <| SEs.mk (rats (lst 3 (dS b c))) (lst_rats 2 (dS b c)) <| SZN.mk 3 (by simp [lst]) (And.intro rfl rfl)) rfl ?_
          repeat refine SOp.mk _ _ (And.intro rfl rfl) rfl ?_
          refine SFin.mk (by kernel_rfl) ?_
          refine SLoop.mkT Nat (fun j => ([(0, .p (.int .i64 N)), (3, .p (.sl m 1 (intsP vs))), (11, .p (matM false false M)), (12, .p (ratsM false b)), (13, .bptr 0 0), (14, .vec 1 1 0 3), (15, .vec 5 1 0 2), (16, .vec 2 3 0 3), (17, .p (.int .i64 (2 : Nat))), (21, .vec 6 3 0 j), (22, .p (.int .i64 j))], [.box 30 (boxQ c), .vec 22 1 (codesP (codesN 3 (sX vs))), .vec 30 3 (rats (lst 3 (dS b c))), .vec 30 3 (rats (lst N (rowS M c 0))), .vec 30 3 (rats (lst N (rowS M c 1))), .rows 64 [.vec 3 3 0 N, .vec 4 3 0 N], .vec 30 3 (rats (lst j (rowS M c 2)))])) (fun j => j ≤ N) (fun j => N - j) 0 [0, 7, 9, 3, 4, 5, 10] _ _ (.step 21 30 3 rfl (.done _ _)) (Nat.zero_le _) ⟨rfl, by simp, rfl, rfl, rfl, ⟨rfl, rfl, rfl, rfl, rfl, rfl, rfl, rfl, rfl, rfl, rfl, trivial⟩, ⟨rfl, rfl, rfl, rfl, rfl, rfl, rfl, trivial⟩⟩ ?_
          intro j g1
          have g1 : j ≤ N := g1
          have hrow : (M.map (ratsM false))[2]? = some (ratsM false (M.getD 2 [])) := by simp [List.getElem?_map, List.getElem?_eq_getElem (show 2 < M.length by omega), List.getD]
          have hc2 := hs.cols 2 hi
          by_cases hj : j < N
          · refine SCmp.yes (decide_eq_true (by omega)) ?_
            have vj := getR (l := M.getD 2 []) (j := j) (by omega)
            have bj := (bm 2 (by omega)).1 j (by omega)
            refine SDraw.mkX (by kernel_rfl) ?_
            repeat refine SOp.mk _ _ (And.intro rfl rfl) rfl ?_
            refine SOp.mk _ _ (SIdx.mk 2 _ rfl hrow (And.intro rfl rfl)) rfl ?_
            repeat refine SOp.mk _ _ (And.intro rfl rfl) rfl ?_
            refine SOp.mk _ _ (SIdx.mk j _ rfl vj (And.intro rfl rfl)) rfl ?_
            repeat refine SOp.mk _ _ (And.intro rfl rfl) rfl ?_
            refine SOp.mk _ _ (SCall.pure (rmulq_ok c ((M.getD 2 []).getD j 0) bc bj (by omega)) (And.intro rfl rfl)) rfl ?_
            repeat refine SOp.mk _ _ (And.intro rfl rfl) rfl ?_
            refine SOp.mk _ _ (SEqN.mk (by simp [lst]) <| SView.all rfl <| SRoom.mk (by simp [lst]; omega) (by simp [lst]; omega) <| SEs.mk (rats (lst (j + 1) (rowS M c 2))) (lst_rats j (rowS M c 2)) <| SZN.mk (j + 1) (by simp [lst]) (And.intro rfl rfl)) rfl ?_
            repeat refine SOp.mk _ _ (And.intro rfl rfl) rfl ?_
            refine SFin.mk (by kernel_rfl) ?_
            refine SWrap.i64z ((j + 1 : Nat) : Int) (by omega) (by omega) ?_
            exact ⟨j + 1, [0, 1, 2, 3, 4, 5, 8], hj, by show N - (j + 1) < N - j; omega, ⟨rfl, by simp, rfl, rfl, rfl, ⟨rfl, rfl, rfl, rfl, rfl, rfl, rfl, rfl, rfl, rfl, rfl, trivial⟩, ⟨rfl, rfl, rfl, rfl, rfl, rfl, rfl, trivial⟩⟩⟩
          · refine SCmp.no (decide_eq_false (by omega)) ?_
            have hjN : j = N := by omega
            rw [hjN]
            refine SEqN.mk rfl ?_
            refine SRoom.mk (by simp) (by simp) ?_
            refine SAs.mk _ rfl ?_
            refine SZN.mk 3 rfl ?_
            refine SWrap.i64z 3 rfl (by omega) ?_
            exact ⟨3, [0, 1, 2, 3, 4, 6, 8], hi, by show N - 3 < N - 2; omega, ⟨rfl, by simp, rfl, rfl, rfl, ⟨rfl, rfl, rfl, rfl, rfl, rfl, rfl, rfl, rfl, trivial⟩, ⟨rfl, rfl, rfl, rfl, rfl, rfl, rfl, trivial⟩⟩⟩
        · refine SCmp.no (decide_eq_false (by omega)) ?_
          have hK : sX vs 2 = codeQ (smallQ ((2 : Nat) : Int)) := by unfold sX sX0; rw [if_neg hk]
          refine SCall.pure (small2_ok ((2 : Nat) : Int) (by omega)) ?_
          refine SCall.pureT (rfof_ok (smallQ ((2 : Nat) : Int)) 0 (smallQ_bz _) (by omega)) (fun _ => rfl) ?_
          have vb := getR (l := b) (j := 2) (by omega)
          have bb1 := hbb 2 (by omega)
          refine SDraw.mkX (by kernel_rfl) ?_
          repeat refine SOp.mk _ _ (And.intro rfl rfl) rfl ?_
          refine SOp.mk _ _ (SEqN.mk (by simp [codesP, codesN]) <| SView.all rfl <| SRoom.mk (by simp [codesP, codesN]) (by simp [codesP, codesN]) <| SEs.mk (codesP (codesN 3 (sX vs))) (by have := codesN_snoc 2 (sX vs); rw [hK] at this; exact this) <| SZN.mk 3 (by simp [codesP, codesN]) (And.intro rfl rfl)) rfl ?_
          repeat refine SOp.mk _ _ (And.intro rfl rfl) rfl ?_
          refine SOp.mk _ _ (SIdx.mk 2 _ rfl vb (And.intro rfl rfl)) rfl ?_
          repeat refine SOp.mk _ _ (And.intro rfl rfl) rfl ?_
          refine SOp.mk _ _ (SCall.pure (rmulq_ok c (b.getD 2 0) bc bb1 (by omega)) (And.intro rfl rfl)) rfl ?_
          repeat refine SOp.mk _ _ (And.intro rfl rfl) rfl ?_
          refine SOp.mk _ _ (SEqN.mk (by simp [lst]) <| SView.all rfl <| SRoom.mk (by simp [lst]) (by simp [lst]) <| SEs.mk (rats (lst 3 (dS b c))) (lst_rats 2 (dS b c)) <| SZN.mk 3 (by simp [lst]) (And.intro rfl rfl)) rfl ?_
          repeat refine SOp.mk _ _ (And.intro rfl rfl) rfl ?_
          refine SFin.mk (by kernel_rfl) ?_
          refine SLoop.mkT Nat (fun j => ([(0, .p (.int .i64 N)), (3, .p (.sl m 1 (intsP vs))), (11, .p (matM false false M)), (12, .p (ratsM false b)), (13, .bptr 0 0), (14, .vec 1 1 0 3), (15, .vec 5 1 0 2), (16, .vec 2 3 0 3), (17, .p (.int .i64 (2 : Nat))), (21, .vec 6 3 0 j), (22, .p (.int .i64 j))], [.box 30 (boxQ c), .vec 22 1 (codesP (codesN 3 (sX vs))), .vec 30 3 (rats (lst 3 (dS b c))), .vec 30 3 (rats (lst N (rowS M c 0))), .vec 30 3 (rats (lst N (rowS M c 1))), .rows 64 [.vec 3 3 0 N, .vec 4 3 0 N], .vec 30 3 (rats (lst j (rowS M c 2)))])) (fun j => j ≤ N) (fun j => N - j) 0 [0, 7, 9, 3, 4, 5, 10] _ _ (.step 21 30 3 rfl (.done _ _)) (Nat.zero_le _) ⟨rfl, by simp, rfl, rfl, rfl, ⟨rfl, rfl, rfl, rfl, rfl, rfl, rfl, rfl, rfl, rfl, rfl, trivial⟩, ⟨rfl, rfl, rfl, rfl, rfl, rfl, rfl, trivial⟩⟩ ?_
          intro j g1
          have g1 : j ≤ N := g1
          have hrow : (M.map (ratsM false))[2]? = some (ratsM false (M.getD 2 [])) := by simp [List.getElem?_map, List.getElem?_eq_getElem (show 2 < M.length by omega), List.getD]
          have hc2 := hs.cols 2 hi
          by_cases hj : j < N
          · refine SCmp.yes (decide_eq_true (by omega)) ?_
            have vj := getR (l := M.getD 2 []) (j := j) (by omega)
            have bj := (bm 2 (by omega)).1 j (by omega)
            refine SDraw.mkX (by kernel_rfl) ?_
            repeat refine SOp.mk _ _ (And.intro rfl rfl) rfl ?_
            refine SOp.mk _ _ (SIdx.mk 2 _ rfl hrow (And.intro rfl rfl)) rfl ?_
            repeat refine SOp.mk _ _ (And.intro rfl rfl) rfl ?_
            refine SOp.mk _ _ (SIdx.mk j _ rfl vj (And.intro rfl rfl)) rfl ?_
            repeat refine SOp.mk _ _ (And.intro rfl rfl) rfl ?_
            refine SOp.mk _ _ (SCall.pure (rmulq_ok c ((M.getD 2 []).getD j 0) bc bj (by omega)) (And.intro rfl rfl)) rfl ?_
            repeat refine SOp.mk _ _ (And.intro rfl rfl) rfl ?_
            refine SOp.mk _ _ (SEqN.mk (by simp [lst]) <| SView.all rfl <| SRoom.mk (by simp [lst]; omega) (by simp [lst]; omega) <| SEs.mk (rats (lst (j + 1) (rowS M c 2))) (lst_rats j (rowS M c 2)) <| SZN.mk (j + 1) (by simp [lst]) (And.intro rfl rfl)) rfl ?_
            repeat refine SOp.mk _ _ (And.intro rfl rfl) rfl ?_
            refine SFin.mk (by kernel_rfl) ?_
            refine SWrap.i64z ((j + 1 : Nat) : Int) (by omega) (by omega) ?_
            exact ⟨j + 1, [0, 1, 2, 3, 4, 5, 8], hj, by show N - (j + 1) < N - j; omega, ⟨rfl, by simp, rfl, rfl, rfl, ⟨rfl, rfl, rfl, rfl, rfl, rfl, rfl, rfl, rfl, rfl, rfl, trivial⟩, ⟨rfl, rfl, rfl, rfl, rfl, rfl, rfl, trivial⟩⟩⟩
          · refine SCmp.no (decide_eq_false (by omega)) ?_
            have hjN : j = N := by omega
            rw [hjN]
            refine SEqN.mk rfl ?_
            refine SRoom.mk (by simp) (by simp) ?_
            refine SAs.mk _ rfl ?_
            refine SZN.mk 3 rfl ?_
            refine SWrap.i64z 3 rfl (by omega) ?_
            exact ⟨3, [0, 1, 2, 3, 4, 6, 8], hi, by show N - 3 < N - 2; omega, ⟨rfl, by simp, rfl, rfl, rfl, ⟨rfl, rfl, rfl, rfl, rfl, rfl, rfl, rfl, rfl, trivial⟩, ⟨rfl, rfl, rfl, rfl, rfl, rfl, rfl, trivial⟩⟩⟩
      · refine SCmp.no (decide_eq_false (by omega)) ?_
        have hn' : N = 2 := by omega
        subst hn'
        refine SView.all (by simp [codesP, codesN]) ?_
        refine SCall.pureT (c1) (fun _ => rfl) ?_
        refine SView.all (by simp [lst]) ?_
        refine SView.all (by simp [lst]) ?_
        refine SView.all (by simp [lst]) ?_
        refine SView.all (by simp [codesP, codesN]) ?_
        refine SCall.pureT (c2) (fun _ => rfl) ?_
        refine SCmp.yes (rfl) ?_
        refine SCmp.yes (rfl) ?_
        refine SCall.pure (rsame_self bq (by omega)) ?_
        refine SCond.mk (fun _ => ?_) (fun h => by cases h)
        refine SCall.pure (rright_ok q bq (by omega)) ?_
        refine SCond.mk (fun _ => ?_) (fun h => by cases h)
        refine SCmp.yes (hneg) ?_
        exact SRet.pure (.tf _)
    | 3, _, h1 =>
      by_cases hi : 3 < N
      · refine SCmp.yes (decide_eq_true (by omega)) ?_
        refine SZ.mk (vs.length : Int) (by simp) ?_
        by_cases hk : 3 < vs.length
        · refine SCmp.yes (decide_eq_true (by omega)) ?_
          refine SIdx.ib 3 rfl hk ?_
          have hK : sX vs 3 = codeQ (smallQ (vs.getD 3 0)) := by unfold sX sX0; rw [if_pos hk]
          refine SCall.pure (small2_ok (vs.getD 3 0) (hvs 3)) ?_
          refine SCall.pureT (rfof_ok (smallQ (vs.getD 3 0)) 0 (smallQ_bz _) (by omega)) (fun _ => rfl) ?_
          have vb := getR (l := b) (j := 3) (by omega)
          have bb1 := hbb 3 (by omega)
          refine SDraw.mkX (by kernel_rfl) ?_
          repeat refine SOp.mk _ _ (And.intro rfl rfl) rfl ?_
          refine SOp.mk _ _ (SEqN.mk (by simp [codesP, codesN]) <| SView.all rfl <| SRoom.mk (by simp [codesP, codesN]) (by simp [codesP, codesN]) <| SEs.mk (codesP (codesN 4 (sX vs))) (by have := codesN_snoc 3 (sX vs); rw [hK] at this; exact this) <| SZN.mk 4 (by simp [codesP, codesN]) (And.intro rfl rfl)) rfl ?_
          repeat refine SOp.mk _ _ (And.intro rfl rfl) rfl ?_
          refine SOp.mk _ _ (SIdx.mk 3 _ rfl vb (And.intro rfl rfl)) rfl ?_
          repeat refine SOp.mk _ _ (And.intro rfl rfl) rfl ?_
          refine SOp.mk _ _ (SCall.pure (rmulq_ok c (b.getD 3 0) bc bb1 (by omega)) (And.intro rfl rfl)) rfl ?_
          repeat refine SOp.mk _ _ (And.intro rfl rfl) rfl ?_
          refine SOp.mk _ _ (SEqN.mk (by simp [lst]) <| SView.all rfl <| SRoom.mk (by simp [lst]) (by simp [lst]) <| SEs.mk (rats (lst 4 (dS b c))) (lst_rats 3 (dS b c)) <| SZN.mk 4 (by simp [lst]) (And.intro rfl rfl)) rfl ?_
          repeat refine SOp.mk _ _ (And.intro rfl rfl) rfl ?_
          refine SFin.mk (by kernel_rfl) ?_
          refine SLoop.mkT Nat (fun j => ([(0, .p (.int .i64 N)), (3, .p (.sl m 1 (intsP vs))), (11, .p (matM false false M)), (12, .p (ratsM false b)), (13, .bptr 0 0), (14, .vec 1 1 0 4), (15, .vec 6 1 0 3), (16, .vec 2 3 0 4), (17, .p (.int .i64 (3 : Nat))), (21, .vec 7 3 0 j), (22, .p (.int .i64 j))], [.box 30 (boxQ c), .vec 22 1 (codesP (codesN 4 (sX vs))), .vec 30 3 (rats (lst 4 (dS b c))), .vec 30 3 (rats (lst N (rowS M c 0))), .vec 30 3 (rats (lst N (rowS M c 1))), .vec 30 3 (rats (lst N (rowS M c 2))), .rows 64 [.vec 3 3 0 N, .vec 4 3 0 N, .vec 5 3 0 N], .vec 30 3 (rats (lst j (rowS M c 3)))])) (fun j => j ≤ N) (fun j => N - j) 0 [0, 8, 10, 3, 4, 5, 6, 11] _ _ (.step 21 30 3 rfl (.done _ _)) (Nat.zero_le _) ⟨rfl, by simp, rfl, rfl, rfl, ⟨rfl, rfl, rfl, rfl, rfl, rfl, rfl, rfl, rfl, rfl, rfl, trivial⟩, ⟨rfl, rfl, rfl, rfl, rfl, rfl, rfl, rfl, trivial⟩⟩ ?_
          intro j g1
          have g1 : j ≤ N := g1
          have hrow : (M.map (ratsM false))[3]? = some (ratsM false (M.getD 3 [])) := by simp [List.getElem?_map, List.getElem?_eq_getElem (show 3 < M.length by omega), List.getD]
          have hc3 := hs.cols 3 hi
          by_cases hj : j < N
          · refine SCmp.yes (decide_eq_true (by omega)) ?_
            have vj := getR (l := M.getD 3 []) (j := j) (by omega)
            have bj := (bm 3 (by omega)).1 j (by omega)
            refine SDraw.mkX (by kernel_rfl) ?_
            repeat refine SOp.mk _ _ (And.intro rfl rfl) rfl ?_
            refine SOp.mk _ _ (SIdx.mk 3 _ rfl hrow (And.intro rfl rfl)) rfl ?_
            repeat refine SOp.mk _ _ (And.intro rfl rfl) rfl ?_
            refine SOp.mk _ _ (SIdx.mk j _ rfl vj (And.intro rfl rfl)) rfl ?_
            repeat refine SOp.mk _ _ (And.intro rfl rfl) rfl ?_
            refine SOp.mk _ _ (SCall.pure (rmulq_ok c ((M.getD 3 []).getD j 0) bc bj (by omega)) (And.intro rfl rfl)) rfl ?_
            repeat refine SOp.mk _ _ (And.intro rfl rfl) rfl ?_
            refine SOp.mk _ _ (SEqN.mk (by simp [lst]) <| SView.all rfl <| SRoom.mk (by simp [lst]; omega) (by simp [lst]; omega) <| SEs.mk (rats (lst (j + 1) (rowS M c 3))) (lst_rats j (rowS M c 3)) <| SZN.mk (j + 1) (by simp [lst]) (And.intro rfl rfl)) rfl ?_
            repeat refine SOp.mk _ _ (And.intro rfl rfl) rfl ?_
            refine SFin.mk (by kernel_rfl) ?_
            refine SWrap.i64z ((j + 1 : Nat) : Int) (by omega) (by omega) ?_
            exact ⟨j + 1, [0, 1, 2, 3, 4, 5, 6, 9], hj, by show N - (j + 1) < N - j; omega, ⟨rfl, by simp, rfl, rfl, rfl, ⟨rfl, rfl, rfl, rfl, rfl, rfl, rfl, rfl, rfl, rfl, rfl, trivial⟩, ⟨rfl, rfl, rfl, rfl, rfl, rfl, rfl, rfl, trivial⟩⟩⟩
          · refine SCmp.no (decide_eq_false (by omega)) ?_
            have hjN : j = N := by omega
            rw [hjN]
            refine SEqN.mk rfl ?_
            refine SRoom.mk (by simp) (by simp) ?_
            refine SAs.mk _ rfl ?_
            refine SZN.mk 4 rfl ?_
            refine SWrap.i64z 4 rfl (by omega) ?_
            exact ⟨4, [0, 1, 2, 3, 4, 5, 7, 9], hi, by show N - 4 < N - 3; omega, ⟨rfl, by simp, rfl, rfl, rfl, ⟨rfl, rfl, rfl, rfl, rfl, rfl, rfl, rfl, rfl, trivial⟩, ⟨rfl, rfl, rfl, rfl, rfl, rfl, rfl, rfl, trivial⟩⟩⟩
        · refine SCmp.no (decide_eq_false (by omega)) ?_
          have hK : sX vs 3 = codeQ (smallQ ((3 : Nat) : Int)) := by unfold sX sX0; rw [if_neg hk]
          refine SCall.pure (small2_ok ((3 : Nat) : Int) (by omega)) ?_
          refine SCall.pureT (rfof_ok (smallQ ((3 : Nat) : Int)) 0 (smallQ_bz _) (by omega)) (fun _ => rfl) ?_
          have vb := getR (l := b) (j := 3) (by omega)
          have bb1 := hbb 3 (by omega)
          refine SDraw.mkX (by kernel_rfl) ?_
          repeat refine SOp.mk _ _ (And.intro rfl rfl) rfl ?_
          refine SOp.mk _ _ (SEqN.mk (by simp [codesP, codesN]) <| SView.all rfl <| SRoom.mk (by simp [codesP, codesN]) (by simp [codesP, codesN]) <| SEs.mk (codesP (codesN 4 (sX vs))) (by have := codesN_snoc 3 (sX vs); rw [hK] at this; exact this) <| SZN.mk 4 (by simp [codesP, codesN]) (And.intro rfl rfl)) rfl ?_
          repeat refine SOp.mk _ _ (And.intro rfl rfl) rfl ?_
          refine SOp.mk _ _ (SIdx.mk 3 _ rfl vb (And.intro rfl rfl)) rfl ?_
          repeat refine SOp.mk _ _ (And.intro rfl rfl) rfl ?_
          refine SOp.mk _ _ (SCall.pure (rmulq_ok c (b.getD 3 0) bc bb1 (by omega)) (And.intro rfl rfl)) rfl ?_
          repeat refine SOp.mk _ _ (And.intro rfl rfl) rfl ?_
          refine SOp.mk _ _ (SEqN.mk (by simp [lst]) <| SView.all rfl <| SRoom.mk (by simp [lst]) (by simp [lst]) <| SEs.mk (rats (lst 4 (dS b c))) (lst_rats 3 (dS b c)) <| SZN.mk 4 (by simp [lst]) (And.intro rfl rfl)) rfl ?_
          repeat refine SOp.mk _ _ (And.intro rfl rfl) rfl ?_
          refine SFin.mk (by kernel_rfl) ?_
          refine SLoop.mkT Nat (fun j => ([(0, .p (.int .i64 N)), (3, .p (.sl m 1 (intsP vs))), (11, .p (matM false false M)), (12, .p (ratsM false b)), (13, .bptr 0 0), (14, .vec 1 1 0 4), (15, .vec 6 1 0 3), (16, .vec 2 3 0 4), (17, .p (.int .i64 (3 : Nat))), (21, .vec 7 3 0 j), (22, .p (.int .i64 j))], [.box 30 (boxQ c), .vec 22 1 (codesP (codesN 4 (sX vs))), .vec 30 3 (rats (lst 4 (dS b c))), .vec 30 3 (rats (lst N (rowS M c 0))), .vec 30 3 (rats (lst N (rowS M c 1))), .vec 30 3 (rats (lst N (rowS M c 2))), .rows 64 [.vec 3 3 0 N, .vec 4 3 0 N, .vec 5 3 0 N], .vec 30 3 (rats (lst j (rowS M c 3)))])) (fun j => j ≤ N) (fun j => N - j) 0 [0, 8, 10, 3, 4, 5, 6, 11] _ _ (.step 21 30 3 rfl (.done _ _)) (Nat.zero_le _) ⟨rfl, by simp, rfl, rfl, rfl, ⟨rfl, rfl, rfl, rfl, rfl, rfl, rfl, rfl, rfl, rfl, rfl, trivial⟩, ⟨rfl, rfl, rfl, rfl, rfl, rfl, rfl, rfl, trivial⟩⟩ ?_
          intro j g1
          have g1 : j ≤ N := g1
          have hrow : (M.map (ratsM false))[3]? = some (ratsM false (M.getD 3 [])) := by simp [List.getElem?_map, List.getElem?_eq_getElem (show 3 < M.length by omega), List.getD]
          have hc3 := hs.cols 3 hi
          by_cases hj : j < N
          · refine SCmp.yes (decide_eq_true (by omega)) ?_
            have vj := getR (l := M.getD 3 []) (j := j) (by omega)
            have bj := (bm 3 (by omega)).1 j (by omega)
            refine SDraw.mkX (by kernel_rfl) ?_
            repeat refine SOp.mk _ _ (And.intro rfl rfl) rfl ?_
            refine SOp.mk _ _ (SIdx.mk 3 _ rfl hrow (And.intro rfl rfl)) rfl ?_
            repeat refine SOp.mk _ _ (And.intro rfl rfl) rfl ?_
            refine SOp.mk _ _ (SIdx.mk j _ rfl vj (And.intro rfl rfl)) rfl ?_
            repeat refine SOp.mk _ _ (And.intro rfl rfl) rfl ?_
            refine SOp.mk _ _ (SCall.pure (rmulq_ok c ((M.getD 3 []).getD j 0) bc bj (by omega)) (And.intro rfl rfl)) rfl ?_
            repeat refine SOp.mk _ _ (And.intro rfl rfl) rfl ?_
            refine SOp.mk _ _ (SEqN.mk (by simp [lst]) <| SView.all rfl <| SRoom.mk (by simp [lst]; omega) (by simp [lst]; omega) <| SEs.mk (rats (lst (j + 1) (rowS M c 3))) (lst_rats j (rowS M c 3)) <| SZN.mk (j + 1) (by simp [lst]) (And.intro rfl rfl)) rfl ?_
            repeat refine SOp.mk _ _ (And.intro rfl rfl) rfl ?_
            refine SFin.mk (by kernel_rfl) ?_
            refine SWrap.i64z ((j + 1 : Nat) : Int) (by omega) (by omega) ?_
            exact ⟨j + 1, [0, 1, 2, 3, 4, 5, 6, 9], hj, by show N - (j + 1) < N - j; omega, ⟨rfl, by simp, rfl, rfl, rfl, ⟨rfl, rfl, rfl, rfl, rfl, rfl, rfl, rfl, rfl, rfl, rfl, trivial⟩, ⟨rfl, rfl, rfl, rfl, rfl, rfl, rfl, rfl, trivial⟩⟩⟩
          · refine SCmp.no (decide_eq_false (by omega)) ?_
            have hjN : j = N := by omega
            rw [hjN]
            refine SEqN.mk rfl ?_
            refine SRoom.mk (by simp) (by simp) ?_
            refine SAs.mk _ rfl ?_
            refine SZN.mk 4 rfl ?_
            refine SWrap.i64z 4 rfl (by omega) ?_
            exact ⟨4, [0, 1, 2, 3, 4, 5, 7, 9], hi, by show N - 4 < N - 3; omega, ⟨rfl, by simp, rfl, rfl, rfl, ⟨rfl, rfl, rfl, rfl, rfl, rfl, rfl, rfl, rfl, trivial⟩, ⟨rfl, rfl, rfl, rfl, rfl, rfl, rfl, rfl, trivial⟩⟩⟩
      · refine SCmp.no (decide_eq_false (by omega)) ?_
        have hn' : N = 3 := by omega
        subst hn'
        refine SView.all (by simp [codesP, codesN]) ?_
        refine SCall.pureT (c1) (fun _ => rfl) ?_
        refine SView.all (by simp [lst]) ?_
        refine SView.all (by simp [lst]) ?_
        refine SView.all (by simp [lst]) ?_
        refine SView.all (by simp [lst]) ?_
        refine SView.all (by simp [codesP, codesN]) ?_
        refine SCall.pureT (c2) (fun _ => rfl) ?_
        refine SCmp.yes (rfl) ?_
        refine SCmp.yes (rfl) ?_
        refine SCall.pure (rsame_self bq (by omega)) ?_
        refine SCond.mk (fun _ => ?_) (fun h => by cases h)
        refine SCall.pure (rright_ok q bq (by omega)) ?_
        refine SCond.mk (fun _ => ?_) (fun h => by cases h)
        refine SCmp.yes (hneg) ?_
        exact SRet.pure (.tf _)
    | 4, _, h1 =>
      refine SCmp.no (decide_eq_false (by omega)) ?_
      have hn' : N = 4 := by omega
      subst hn'
      refine SView.all (by simp [codesP, codesN]) ?_
      refine SCall.pureT (c1) (fun _ => rfl) ?_
      refine SView.all (by simp [lst]) ?_
      refine SView.all (by simp [lst]) ?_
      refine SView.all (by simp [lst]) ?_
      refine SView.all (by simp [lst]) ?_
      refine SView.all (by simp [lst]) ?_
      refine SView.all (by simp [codesP, codesN]) ?_
      refine SCall.pureT (c2) (fun _ => rfl) ?_
      refine SCmp.yes (rfl) ?_
      refine SCmp.yes (rfl) ?_
      refine SCall.pure (rsame_self bq (by omega)) ?_
      refine SCond.mk (fun _ => ?_) (fun h => by cases h)
      refine SCall.pure (rright_ok q bq (by omega)) ?_
      refine SCond.mk (fun _ => ?_) (fun h => by cases h)
      refine SCmp.yes (hneg) ?_
      exact SRet.pure (.tf _)
  · rw [if_neg h0] at hcd
    rw [decide_eq_false h0]
    refine SCond.mk (fun h => by cases h) (fun _ => ?_)
    rw [← hcd]
    refine SLoop.mk Nat (stS N m vs M b c) (fun i => i ≤ N) (fun i => N - i) 0 [0] (Nat.zero_le _) ⟨rfl, by simp, rfl, rfl, rfl, ⟨rfl, rfl, rfl, rfl, rfl, rfl, rfl, rfl, rfl, trivial⟩, ⟨rfl, trivial⟩⟩ ?_
    intro i h1
    have h1 : i ≤ N := h1
    have h6 : i < 5 := by omega
    match i, h6, h1 with
    | 0, _, h1 =>
      by_cases hi : 0 < N
      · refine SCmp.yes (decide_eq_true (by omega)) ?_
        refine SZ.mk (vs.length : Int) (by simp) ?_
        by_cases hk : 0 < vs.length
        · refine SCmp.yes (decide_eq_true (by omega)) ?_
          refine SIdx.ib 0 rfl hk ?_
          have hK : sX vs 0 = codeQ (smallQ (vs.getD 0 0)) := by unfold sX sX0; rw [if_pos hk]
          refine SCall.pure (small2_ok (vs.getD 0 0) (hvs 0)) ?_
          refine SCall.pureT (rfof_ok (smallQ (vs.getD 0 0)) 0 (smallQ_bz _) (by omega)) (fun _ => rfl) ?_
          have vb := getR (l := b) (j := 0) (by omega)
          have bb1 := hbb 0 (by omega)
          refine SDraw.mkX (by kernel_rfl) ?_
          repeat refine SOp.mk _ _ (And.intro rfl rfl) rfl ?_
          have hx1 : [PV.int .u64 ((codeQ (smallQ (vs.getD 0 0)) : Nat) : Int)] = codesP (codesN 1 (sX vs)) := by rw [← hK]; rfl
          refine SOp.mk _ _ (SView.all rfl <| SRoom.mk (by simp) (by simp) (And.intro rfl rfl)) rfl ?_
          repeat refine SOp.mk _ _ (And.intro rfl rfl) rfl ?_
          refine SOp.mk _ _ (SIdx.mk 0 _ rfl vb (And.intro rfl rfl)) rfl ?_
          repeat refine SOp.mk _ _ (And.intro rfl rfl) rfl ?_
          refine SOp.mk _ _ (SCall.pure (rmulq_ok c (b.getD 0 0) bc bb1 (by omega)) (And.intro rfl rfl)) rfl ?_
          repeat refine SOp.mk _ _ (And.intro rfl rfl) rfl ?_
          refine SOp.mk _ _ (SView.all rfl <| SRoom.mk (by simp) (by simp) (And.intro rfl rfl)) rfl ?_
          repeat refine SOp.mk _ _ (And.intro rfl rfl) rfl ?_
          refine SFin.mk (by kernel_rfl) ?_
          refine SLoop.mkT Nat (fun j => ([(0, .p (.int .i64 N)), (3, .p (.sl m 1 (intsP vs))), (11, .p (matM false false M)), (12, .p (ratsM false b)), (13, .bptr 0 0), (14, .vec 1 1 0 1), (15, .emp), (16, .vec 2 3 0 1), (17, .p (.int .i64 (0 : Nat))), (21, .vec 3 3 0 j), (22, .p (.int .i64 j))], [.box 30 (boxQ c), .vec 22 1 (codesP (codesN 1 (sX vs))), .vec 30 3 (rats (lst 1 (dS b c))), .vec 30 3 (rats (lst j (rowS M c 0)))])) (fun j => j ≤ N) (fun j => N - j) 0 [0, 2, 4, 5] _ _ (.step 21 30 3 rfl (.done _ _)) (Nat.zero_le _) ⟨rfl, by simp, rfl, rfl, rfl, ⟨rfl, rfl, rfl, rfl, rfl, rfl, rfl, rfl, rfl, rfl, rfl, trivial⟩, ⟨rfl, (by rw [← hx1]; rfl), rfl, rfl, trivial⟩⟩ ?_
          intro j g1
          have g1 : j ≤ N := g1
          have hrow : (M.map (ratsM false))[0]? = some (ratsM false (M.getD 0 [])) := by simp [List.getElem?_map, List.getElem?_eq_getElem (show 0 < M.length by omega), List.getD]
          have hc0 := hs.cols 0 hi
          by_cases hj : j < N
          · refine SCmp.yes (decide_eq_true (by omega)) ?_
            have vj := getR (l := M.getD 0 []) (j := j) (by omega)
            have bj := (bm 0 (by omega)).1 j (by omega)
            refine SDraw.mkX (by kernel_rfl) ?_
            repeat refine SOp.mk _ _ (And.intro rfl rfl) rfl ?_
            refine SOp.mk _ _ (SIdx.mk 0 _ rfl hrow (And.intro rfl rfl)) rfl ?_
            repeat refine SOp.mk _ _ (And.intro rfl rfl) rfl ?_
            refine SOp.mk _ _ (SIdx.mk j _ rfl vj (And.intro rfl rfl)) rfl ?_
            repeat refine SOp.mk _ _ (And.intro rfl rfl) rfl ?_
            refine SOp.mk _ _ (SCall.pure (rmulq_ok c ((M.getD 0 []).getD j 0) bc bj (by omega)) (And.intro rfl rfl)) rfl ?_
            repeat refine SOp.mk _ _ (And.intro rfl rfl) rfl ?_
            refine SOp.mk _ _ (SEqN.mk (by simp [lst]) <| SView.all rfl <| SRoom.mk (by simp [lst]; omega) (by simp [lst]; omega) <| SEs.mk (rats (lst (j + 1) (rowS M c 0))) (lst_rats j (rowS M c 0)) <| SZN.mk (j + 1) (by simp [lst]) (And.intro rfl rfl)) rfl ?_
            repeat refine SOp.mk _ _ (And.intro rfl rfl) rfl ?_
            refine SFin.mk (by kernel_rfl) ?_
            refine SWrap.i64z ((j + 1 : Nat) : Int) (by omega) (by omega) ?_
            exact ⟨j + 1, [0, 1, 2, 5], hj, by show N - (j + 1) < N - j; omega, ⟨rfl, by simp, rfl, rfl, rfl, ⟨rfl, rfl, rfl, rfl, rfl, rfl, rfl, rfl, rfl, rfl, rfl, trivial⟩, ⟨rfl, rfl, rfl, rfl, trivial⟩⟩⟩
          · refine SCmp.no (decide_eq_false (by omega)) ?_
            have hjN : j = N := by omega
            rw [hjN]
            refine SRoom.mk (by simp) (by simp) ?_
            refine SWrap.i64z 1 rfl (by omega) ?_
            exact ⟨1, [0, 1, 2, 3, 5], hi, by show N - 1 < N - 0; omega, ⟨rfl, by simp, rfl, rfl, rfl, ⟨rfl, rfl, rfl, rfl, rfl, rfl, rfl, rfl, rfl, trivial⟩, ⟨rfl, rfl, rfl, rfl, rfl, trivial⟩⟩⟩
        · refine SCmp.no (decide_eq_false (by omega)) ?_
          have hK : sX vs 0 = codeQ (smallQ ((0 : Nat) : Int)) := by unfold sX sX0; rw [if_neg hk]
          refine SCall.pure (small2_ok ((0 : Nat) : Int) (by omega)) ?_
          refine SCall.pureT (rfof_ok (smallQ ((0 : Nat) : Int)) 0 (smallQ_bz _) (by omega)) (fun _ => rfl) ?_
          have vb := getR (l := b) (j := 0) (by omega)
          have bb1 := hbb 0 (by omega)
          refine SDraw.mkX (by kernel_rfl) ?_
          repeat refine SOp.mk _ _ (And.intro rfl rfl) rfl ?_
          have hx1 : [PV.int .u64 ((codeQ (smallQ ((0 : Nat) : Int)) : Nat) : Int)] = codesP (codesN 1 (sX vs)) := by rw [← hK]; rfl
          refine SOp.mk _ _ (SView.all rfl <| SRoom.mk (by simp) (by simp) (And.intro rfl rfl)) rfl ?_
          repeat refine SOp.mk _ _ (And.intro rfl rfl) rfl ?_
          refine SOp.mk _ _ (SIdx.mk 0 _ rfl vb (And.intro rfl rfl)) rfl ?_
          repeat refine SOp.mk _ _ (And.intro rfl rfl) rfl ?_
          refine SOp.mk _ _ (SCall.pure (rmulq_ok c (b.getD 0 0) bc bb1 (by omega)) (And.intro rfl rfl)) rfl ?_
          repeat refine SOp.mk _ _ (And.intro rfl rfl) rfl ?_
          refine SOp.mk _ _ (SView.all rfl <| SRoom.mk (by simp) (by simp) (And.intro rfl rfl)) rfl ?_
          repeat refine SOp.mk _ _ (And.intro rfl rfl) rfl ?_
          refine SFin.mk (by kernel_rfl) ?_
          refine SLoop.mkT Nat (fun j => ([(0, .p (.int .i64 N)), (3, .p (.sl m 1 (intsP vs))), (11, .p (matM false false M)), (12, .p (ratsM false b)), (13, .bptr 0 0), (14, .vec 1 1 0 1), (15, .emp), (16, .vec 2 3 0 1), (17, .p (.int .i64 (0 : Nat))), (21, .vec 3 3 0 j), (22, .p (.int .i64 j))], [.box 30 (boxQ c), .vec 22 1 (codesP (codesN 1 (sX vs))), .vec 30 3 (rats (lst 1 (dS b c))), .vec 30 3 (rats (lst j (rowS M c 0)))])) (fun j => j ≤ N) (fun j => N - j) 0 [0, 2, 4, 5] _ _ (.step 21 30 3 rfl (.done _ _)) (Nat.zero_le _) ⟨rfl, by simp, rfl, rfl, rfl, ⟨rfl, rfl, rfl, rfl, rfl, rfl, rfl, rfl, rfl, rfl, rfl, trivial⟩, ⟨rfl, (by rw [← hx1]; rfl), rfl, rfl, trivial⟩⟩ ?_
          intro j g1
          have g1 : j ≤ N := g1
          have hrow : (M.map (ratsM false))[0]? = some (ratsM false (M.getD 0 [])) := by simp [List.getElem?_map, List.getElem?_eq_getElem (show 0 < M.length by omega), List.getD]
          have hc0 := hs.cols 0 hi
          by_cases hj : j < N
          · refine SCmp.yes (decide_eq_true (by omega)) ?_
            have vj := getR (l := M.getD 0 []) (j := j) (by omega)
            have bj := (bm 0 (by omega)).1 j (by omega)
            refine SDraw.mkX (by kernel_rfl) ?_
            repeat refine SOp.mk _ _ (And.intro rfl rfl) rfl ?_
            refine SOp.mk _ _ (SIdx.mk 0 _ rfl hrow (And.intro rfl rfl)) rfl ?_
            repeat refine SOp.mk _ _ (And.intro rfl rfl) rfl ?_
            refine SOp.mk _ _ (SIdx.mk j _ rfl vj (And.intro rfl rfl)) rfl ?_
            repeat refine SOp.mk _ _ (And.intro rfl rfl) rfl ?_
            refine SOp.mk _ _ (SCall.pure (rmulq_ok c ((M.getD 0 []).getD j 0) bc bj (by omega)) (And.intro rfl rfl)) rfl ?_
            repeat refine SOp.mk _ _ (And.intro rfl rfl) rfl ?_
            refine SOp.mk _ _ (SEqN.mk (by simp [lst]) <| SView.all rfl <| SRoom.mk (by simp [lst]; omega) (by simp [lst]; omega) <| SEs.mk (rats (lst (j + 1) (rowS M c 0))) (lst_rats j (rowS M c 0)) <| SZN.mk (j + 1) (by simp [lst]) (And.intro rfl rfl)) rfl ?_
            repeat refine SOp.mk _ _ (And.intro rfl rfl) rfl ?_
            refine SFin.mk (by kernel_rfl) ?_
            refine SWrap.i64z ((j + 1 : Nat) : Int) (by omega) (by omega) ?_
            exact ⟨j + 1, [0, 1, 2, 5], hj, by show N - (j + 1) < N - j; omega, ⟨rfl, by simp, rfl, rfl, rfl, ⟨rfl, rfl, rfl, rfl, rfl, rfl, rfl, rfl, rfl, rfl, rfl, trivial⟩, ⟨rfl, rfl, rfl, rfl, trivial⟩⟩⟩
          · refine SCmp.no (decide_eq_false (by omega)) ?_
            have hjN : j = N := by omega
            rw [hjN]
            refine SRoom.mk (by simp) (by simp) ?_
            refine SWrap.i64z 1 rfl (by omega) ?_
            exact ⟨1, [0, 1, 2, 3, 5], hi, by show N - 1 < N - 0; omega, ⟨rfl, by simp, rfl, rfl, rfl, ⟨rfl, rfl, rfl, rfl, rfl, rfl, rfl, rfl, rfl, trivial⟩, ⟨rfl, rfl, rfl, rfl, rfl, trivial⟩⟩⟩
      · omega
    | 1, _, h1 =>
      by_cases hi : 1 < N
      · refine SCmp.yes (decide_eq_true (by omega)) ?_
        refine SZ.mk (vs.length : Int) (by simp) ?_
        by_cases hk : 1 < vs.length
        · refine SCmp.yes (decide_eq_true (by omega)) ?_
          refine SIdx.ib 1 rfl hk ?_
          have hK : sX vs 1 = codeQ (smallQ (vs.getD 1 0)) := by unfold sX sX0; rw [if_pos hk]
          refine SCall.pure (small2_ok (vs.getD 1 0) (hvs 1)) ?_
          refine SCall.pureT (rfof_ok (smallQ (vs.getD 1 0)) 0 (smallQ_bz _) (by omega)) (fun _ => rfl) ?_
          have vb := getR (l := b) (j := 1) (by omega)
          have bb1 := hbb 1 (by omega)
          refine SDraw.mkX (by kernel_rfl) ?_
          repeat refine SOp.mk _ _ (And.intro rfl rfl) rfl ?_
          refine SOp.mk _ _ (SEqN.mk (by simp [codesP, codesN]) <| SView.all rfl <| SRoom.mk (by simp [codesP, codesN]) (by simp [codesP, codesN]) <| SEs.mk (codesP (codesN 2 (sX vs))) (by have := codesN_snoc 1 (sX vs); rw [hK] at this; exact this) <| SZN.mk 2 (by simp [codesP, codesN]) (And.intro rfl rfl)) rfl ?_
          repeat refine SOp.mk _ _ (And.intro rfl rfl) rfl ?_
          refine SOp.mk _ _ (SIdx.mk 1 _ rfl vb (And.intro rfl rfl)) rfl ?_
          repeat refine SOp.mk _ _ (And.intro rfl rfl) rfl ?_
          refine SOp.mk _ _ (SCall.pure (rmulq_ok c (b.getD 1 0) bc bb1 (by omega)) (And.intro rfl rfl)) rfl ?_
          repeat refine SOp.mk _ _ (And.intro rfl rfl) rfl ?_
          refine SOp.mk _ _ (SEqN.mk (by simp [lst]) <| SView.all rfl <| SRoom.mk (by simp [lst]) (by simp [lst]) <| SEs.mk (rats (lst 2 (dS b c))) (lst_rats 1 (dS b c)) <| SZN.mk 2 (by simp [lst]) (And.intro rfl rfl)) rfl ?_
          repeat refine SOp.mk _ _ (And.intro rfl rfl) rfl ?_
          refine SFin.mk (by kernel_rfl) ?_
          refine SLoop.mkT Nat (fun j => ([(0, .p (.int .i64 N)), (3, .p (.sl m 1 (intsP vs))), (11, .p (matM false false M)), (12, .p (ratsM false b)), (13, .bptr 0 0), (14, .vec 1 1 0 2), (15, .vec 4 1 0 1), (16, .vec 2 3 0 2), (17, .p (.int .i64 (1 : Nat))), (21, .vec 5 3 0 j), (22, .p (.int .i64 j))], [.box 30 (boxQ c), .vec 22 1 (codesP (codesN 2 (sX vs))), .vec 30 3 (rats (lst 2 (dS b c))), .vec 30 3 (rats (lst N (rowS M c 0))), .rows 64 [.vec 3 3 0 N], .vec 30 3 (rats (lst j (rowS M c 1)))])) (fun j => j ≤ N) (fun j => N - j) 0 [0, 6, 8, 3, 4, 9] _ _ (.step 21 30 3 rfl (.done _ _)) (Nat.zero_le _) ⟨rfl, by simp, rfl, rfl, rfl, ⟨rfl, rfl, rfl, rfl, rfl, rfl, rfl, rfl, rfl, rfl, rfl, trivial⟩, ⟨rfl, rfl, rfl, rfl, rfl, rfl, trivial⟩⟩ ?_
          intro j g1
          have g1 : j ≤ N := g1
          have hrow : (M.map (ratsM false))[1]? = some (ratsM false (M.getD 1 [])) := by simp [List.getElem?_map, List.getElem?_eq_getElem (show 1 < M.length by omega), List.getD]
          have hc1 := hs.cols 1 hi
          by_cases hj : j < N
          · refine SCmp.yes (decide_eq_true (by omega)) ?_
            have vj := getR (l := M.getD 1 []) (j := j) (by omega)
            have bj := (bm 1 (by omega)).1 j (by omega)
            refine SDraw.mkX (by kernel_rfl) ?_
            repeat refine SOp.mk _ _ (And.intro rfl rfl) rfl ?_
            refine SOp.mk _ _ (SIdx.mk 1 _ rfl hrow (And.intro rfl rfl)) rfl ?_
            repeat refine SOp.mk _ _ (And.intro rfl rfl) rfl ?_
            refine SOp.mk _ _ (SIdx.mk j _ rfl vj (And.intro rfl rfl)) rfl ?_
            repeat refine SOp.mk _ _ (And.intro rfl rfl) rfl ?_
            refine SOp.mk _ _ (SCall.pure (rmulq_ok c ((M.getD 1 []).getD j 0) bc bj (by omega)) (And.intro rfl rfl)) rfl ?_
            repeat refine SOp.mk _ _ (And.intro rfl rfl) rfl ?_
            refine SOp.mk _ _ (SEqN.mk (by simp [lst]) <| SView.all rfl <| SRoom.mk (by simp [lst]; omega) (by simp [lst]; omega) <| SEs.mk (rats (lst (j + 1) (rowS M c 1))) (lst_rats j (rowS M c 1)) <| SZN.mk (j + 1) (by simp [lst]) (And.intro rfl rfl)) rfl ?_
            repeat refine SOp.mk _ _ (And.intro rfl rfl) rfl ?_
            refine SFin.mk (by kernel_rfl) ?_
            refine SWrap.i64z ((j + 1 : Nat) : Int) (by omega) (by omega) ?_
            exact ⟨j + 1, [0, 1, 2, 3, 4, 7], hj, by show N - (j + 1) < N - j; omega, ⟨rfl, by simp, rfl, rfl, rfl, ⟨rfl, rfl, rfl, rfl, rfl, rfl, rfl, rfl, rfl, rfl, rfl, trivial⟩, ⟨rfl, rfl, rfl, rfl, rfl, rfl, trivial⟩⟩⟩
          · refine SCmp.no (decide_eq_false (by omega)) ?_
            have hjN : j = N := by omega
            rw [hjN]
            refine SEqN.mk rfl ?_
            refine SRoom.mk (by simp) (by simp) ?_
            refine SAs.mk _ rfl ?_
            refine SZN.mk 2 rfl ?_
            refine SWrap.i64z 2 rfl (by omega) ?_
            exact ⟨2, [0, 1, 2, 3, 5, 7], hi, by show N - 2 < N - 1; omega, ⟨rfl, by simp, rfl, rfl, rfl, ⟨rfl, rfl, rfl, rfl, rfl, rfl, rfl, rfl, rfl, trivial⟩, ⟨rfl, rfl, rfl, rfl, rfl, rfl, trivial⟩⟩⟩
        · refine SCmp.no (decide_eq_false (by omega)) ?_
          have hK : sX vs 1 = codeQ (smallQ ((1 : Nat) : Int)) := by unfold sX sX0; rw [if_neg hk]
          refine SCall.pure (small2_ok ((1 : Nat) : Int) (by omega)) ?_
          refine SCall.pureT (rfof_ok (smallQ ((1 : Nat) : Int)) 0 (smallQ_bz _) (by omega)) (fun _ => rfl) ?_
          have vb := getR (l := b) (j := 1) (by omega)
          have bb1 := hbb 1 (by omega)
          refine SDraw.mkX (by kernel_rfl) ?_
          repeat refine SOp.mk _ _ (And.intro rfl rfl) rfl ?_
          refine SOp.mk _ _ (SEqN.mk (by simp [codesP, codesN]) <| SView.all rfl <| SRoom.mk (by simp [codesP, codesN]) (by simp [codesP, codesN]) <| SEs.mk (codesP (codesN 2 (sX vs))) (by have := codesN_snoc 1 (sX vs); rw [hK] at this; exact this) <| SZN.mk 2 (by simp [codesP, codesN]) (And.intro rfl rfl)) rfl ?_
          repeat refine SOp.mk _ _ (And.intro rfl rfl) rfl ?_
          refine SOp.mk _ _ (SIdx.mk 1 _ rfl vb (And.intro rfl rfl)) rfl ?_
          repeat refine SOp.mk _ _ (And.intro rfl rfl) rfl ?_
          refine SOp.mk _ _ (SCall.pure (rmulq_ok c (b.getD 1 0) bc bb1 (by omega)) (And.intro rfl rfl)) rfl ?_
          repeat refine SOp.mk _ _ (And.intro rfl rfl) rfl ?_
          refine SOp.mk _ _ (SEqN.mk (by simp [lst]) <| SView.all rfl <| SRoom.mk (by simp [lst]) (by simp [lst]) <| SEs.mk (rats (lst 2 (dS b c))) (lst_rats 1 (dS b c)) <| SZN.mk 2 (by simp [lst]) (And.intro rfl rfl)) rfl ?_
          repeat refine SOp.mk _ _ (And.intro rfl rfl) rfl ?_
          refine SFin.mk (by kernel_rfl) ?_
          refine SLoop.mkT Nat (fun j => ([(0, .p (.int .i64 N)), (3, .p (.sl m 1 (intsP vs))), (11, .p (matM false false M)), (12, .p (ratsM false b)), (13, .bptr 0 0), (14, .vec 1 1 0 2), (15, .vec 4 1 0 1), (16, .vec 2 3 0 2), (17, .p (.int .i64 (1 : Nat))), (21, .vec 5 3 0 j), (22, .p (.int .i64 j))], [.box 30 (boxQ c), .vec 22 1 (codesP (codesN 2 (sX vs))), .vec 30 3 (rats (lst 2 (dS b c))), .vec 30 3 (rats (lst N (rowS M c 0))), .rows 64 [.vec 3 3 0 N], .vec 30 3 (rats (lst j (rowS M c 1)))])) (fun j => j ≤ N) (fun j => N - j) 0 [0, 6, 8, 3, 4, 9] _ _ (.step 21 30 3 rfl (.done _ _)) (Nat.zero_le _) ⟨rfl, by simp, rfl, rfl, rfl, ⟨rfl, rfl, rfl, rfl, rfl, rfl, rfl, rfl, rfl, rfl, rfl, trivial⟩, ⟨rfl, rfl, rfl, rfl, rfl, rfl, trivial⟩⟩ ?_
          intro j g1
          have g1 : j ≤ N := g1
          have hrow : (M.map (ratsM false))[1]? = some (ratsM false (M.getD 1 [])) := by simp [List.getElem?_map, List.getElem?_eq_getElem (show 1 < M.length by omega), List.getD]
          have hc1 := hs.cols 1 hi
          by_cases hj : j < N
          · refine SCmp.yes (decide_eq_true (by omega)) ?_
            have vj := getR (l := M.getD 1 []) (j := j) (by omega)
            have bj := (bm 1 (by omega)).1 j (by omega)
            refine SDraw.mkX (by kernel_rfl) ?_
            repeat refine SOp.mk _ _ (And.intro rfl rfl) rfl ?_
            refine SOp.mk _ _ (SIdx.mk 1 _ rfl hrow (And.intro rfl rfl)) rfl ?_
            repeat refine SOp.mk _ _ (And.intro rfl rfl) rfl ?_
            refine SOp.mk _ _ (SIdx.mk j _ rfl vj (And.intro rfl rfl)) rfl ?_
            repeat refine SOp.mk _ _ (And.intro rfl rfl) rfl ?_
            refine SOp.mk _ _ (SCall.pure (rmulq_ok c ((M.getD 1 []).getD j 0) bc bj (by omega)) (And.intro rfl rfl)) rfl ?_
            repeat refine SOp.mk _ _ (And.intro rfl rfl) rfl ?_
            refine SOp.mk _ _ (SEqN.mk (by simp [lst]) <| SView.all rfl <| SRoom.mk (by simp [lst]; omega) (by simp [lst]; omega) <| SEs.mk (rats (lst (j + 1) (rowS M c 1))) (lst_rats j (rowS M c 1)) <| SZN.mk (j + 1) (by simp [lst]) (And.intro rfl rfl)) rfl ?_
            repeat refine SOp.mk _ _ (And.intro rfl rfl) rfl ?_
            refine SFin.mk (by kernel_rfl) ?_
            refine SWrap.i64z ((j + 1 : Nat) : Int) (by omega) (by omega) ?_
            exact ⟨j + 1, [0, 1, 2, 3, 4, 7], hj, by show N - (j + 1) < N - j; omega, ⟨rfl, by simp, rfl, rfl, rfl, ⟨rfl, rfl, rfl, rfl, rfl, rfl, rfl, rfl, rfl, rfl, rfl, trivial⟩, ⟨rfl, rfl, rfl, rfl, rfl, rfl, trivial⟩⟩⟩
          · refine SCmp.no (decide_eq_false (by omega)) ?_
            have hjN : j = N := by omega
            rw [hjN]
            refine SEqN.mk rfl ?_
            refine SRoom.mk (by simp) (by simp) ?_
            refine SAs.mk _ rfl ?_
            refine SZN.mk 2 rfl ?_
            refine SWrap.i64z 2 rfl (by omega) ?_
            exact ⟨2, [0, 1, 2, 3, 5, 7], hi, by show N - 2 < N - 1; omega, ⟨rfl, by simp, rfl, rfl, rfl, ⟨rfl, rfl, rfl, rfl, rfl, rfl, rfl, rfl, rfl, trivial⟩, ⟨rfl, rfl, rfl, rfl, rfl, rfl, trivial⟩⟩⟩
      · refine SCmp.no (decide_eq_false (by omega)) ?_
        have hn' : N = 1 := by omega
        subst hn'
        refine SView.all (by simp [codesP, codesN]) ?_
        refine SCall.pureT (c1) (fun _ => rfl) ?_
        refine SView.all (by simp [lst]) ?_
        refine SView.all (by simp [lst]) ?_
        refine SView.all (by simp [codesP, codesN]) ?_
        refine SCall.pureT (c2) (fun _ => rfl) ?_
        refine SCmp.yes (rfl) ?_
        refine SCmp.yes (rfl) ?_
        refine SCall.pure (rsame_self bq (by omega)) ?_
        refine SCond.mk (fun _ => ?_) (fun h => by cases h)
        refine SCall.pure (rright_ok q bq (by omega)) ?_
        refine SCond.mk (fun _ => ?_) (fun h => by cases h)
        refine SCmp.yes (hneg) ?_
        exact SRet.pure (.tf _)
    | 2, _, h1 =>
      by_cases hi : 2 < N
      · refine SCmp.yes (decide_eq_true (by omega)) ?_
        refine SZ.mk (vs.length : Int) (by simp) ?_
        by_cases hk : 2 < vs.length
        · refine SCmp.yes (decide_eq_true (by omega)) ?_
          refine SIdx.ib 2 rfl hk ?_
          have hK : sX vs 2 = codeQ (smallQ (vs.getD 2 0)) := by unfold sX sX0; rw [if_pos hk]
          refine SCall.pure (small2_ok (vs.getD 2 0) (hvs 2)) ?_
          refine SCall.pureT (rfof_ok (smallQ (vs.getD 2 0)) 0 (smallQ_bz _) (by omega)) (fun _ => rfl) ?_
          have vb := getR (l := b) (j := 2) (by omega)
          have bb1 := hbb 2 (by omega)
          refine SDraw.mkX (by kernel_rfl) ?_
          repeat refine SOp.mk _ _ (And.intro rfl rfl) rfl ?_
          refine SOp.mk _ _ (SEqN.mk (by simp [codesP, codesN]) <| SView.all rfl <| SRoom.mk (by simp [codesP, codesN]) (by simp [codesP, codesN]) <| SEs.mk (codesP (codesN 3 (sX vs))) (by have := codesN_snoc 2 (sX vs); rw [hK] at this; exact this) <| SZN.mk 3 (by simp [codesP, codesN]) (And.intro rfl rfl)) rfl ?_
          repeat refine SOp.mk _ _ (And.intro rfl rfl) rfl ?_
          refine SOp.mk _ _ (SIdx.mk 2 _ rfl vb (And.intro rfl rfl)) rfl ?_
          repeat refine SOp.mk _ _ (And.intro rfl rfl) rfl ?_
          refine SOp.mk _ _ (SCall.pure (rmulq_ok c (b.getD 2 0) bc bb1 (by omega)) (And.intro rfl rfl)) rfl ?_
          repeat refine SOp.mk _ _ (And.intro rfl rfl) rfl ?_
          refine SOp.mk _ _ (SEqN.mk (by simp [lst]) <| SView.all rfl <| SRoom.mk (by simp [lst]) (by simp [lst]) <| SEs.mk (rats (lst 3 (dS b c))) (lst_rats 2 (dS b c)) <| SZN.mk 3 (by simp [lst]) (And.intro rfl rfl)) rfl ?_
          repeat refine SOp.mk _ _ (And.intro rfl rfl) rfl ?_
          refine SFin.mk (by kernel_rfl) ?_
          refine SLoop.mkT Nat (fun j => ([(0, .p (.int .i64 N)), (3, .p (.sl m 1 (intsP vs))), (11, .p (matM false false M)), (12, .p (ratsM false b)), (13, .bptr 0 0), (14, .vec 1 1 0 3), (15, .vec 5 1 0 2), (16, .vec 2 3 0 3), (17, .p (.int .i64 (2 : Nat))), (21, .vec 6 3 0 j), (22, .p (.int .i64 j))], [.box 30 (boxQ c), .vec 22 1 (codesP (codesN 3 (sX vs))), .vec 30 3 (rats (lst 3 (dS b c))), .vec 30 3 (rats (lst N (rowS M c 0))), .vec 30 3 (rats (lst N (rowS M c 1))), .rows 64 [.vec 3 3 0 N, .vec 4 3 0 N], .vec 30 3 (rats (lst j (rowS M c 2)))])) (fun j => j ≤ N) (fun j => N - j) 0 [0, 7, 9, 3, 4, 5, 10] _ _ (.step 21 30 3 rfl (.done _ _)) (Nat.zero_le _) ⟨rfl, by simp, rfl, rfl, rfl, ⟨rfl, rfl, rfl, rfl, rfl, rfl, rfl, rfl, rfl, rfl, rfl, trivial⟩, ⟨rfl, rfl, rfl, rfl, rfl, rfl, rfl, trivial⟩⟩ ?_
          intro j g1
          have g1 : j ≤ N := g1
          have hrow : (M.map (ratsM false))[2]? = some (ratsM false (M.getD 2 [])) := by simp [List.getElem?_map, List.getElem?_eq_getElem (show 2 < M.length by omega), List.getD]
          have hc2 := hs.cols 2 hi
          by_cases hj : j < N
          · refine SCmp.yes (decide_eq_true (by omega)) ?_
            have vj := getR (l := M.getD 2 []) (j := j) (by omega)
            have bj := (bm 2 (by omega)).1 j (by omega)
            refine SDraw.mkX (by kernel_rfl) ?_
            repeat refine SOp.mk _ _ (And.intro rfl rfl) rfl ?_
            refine SOp.mk _ _ (SIdx.mk 2 _ rfl hrow (And.intro rfl rfl)) rfl ?_
            repeat refine SOp.mk _ _ (And.intro rfl rfl) rfl ?_
            refine SOp.mk _ _ (SIdx.mk j _ rfl vj (And.intro rfl rfl)) rfl ?_
            repeat refine SOp.mk _ _ (And.intro rfl rfl) rfl ?_
            refine SOp.mk _ _ (SCall.pure (rmulq_ok c ((M.getD 2 []).getD j 0) bc bj (by omega)) (And.intro rfl rfl)) rfl ?_
            repeat refine SOp.mk _ _ (And.intro rfl rfl) rfl ?_
            refine SOp.mk _ _ (SEqN.mk (by simp [lst]) <| SView.all rfl <| SRoom.mk (by simp [lst]; omega) (by simp [lst]; omega) <| SEs.mk (rats (lst (j + 1) (rowS M c 2))) (lst_rats j (rowS M c 2)) <| SZN.mk (j + 1) (by simp [lst]) (And.intro rfl rfl)) rfl ?_
            repeat refine SOp.mk _ _ (And.intro rfl rfl) rfl ?_
            refine SFin.mk (by kernel_rfl) ?_
            refine SWrap.i64z ((j + 1 : Nat) : Int) (by omega) (by omega) ?_
            exact ⟨j + 1, [0, 1, 2, 3, 4, 5, 8], hj, by show N - (j + 1) < N - j; omega, ⟨rfl, by simp, rfl, rfl, rfl, ⟨rfl, rfl, rfl, rfl, rfl, rfl, rfl, rfl, rfl, rfl, rfl, trivial⟩, ⟨rfl, rfl, rfl, rfl, rfl, rfl, rfl, trivial⟩⟩⟩
          · refine SCmp.no (decide_eq_false (by omega)) ?_
            have hjN : j = N := by omega
            rw [hjN]
            refine SEqN.mk rfl ?_
            refine SRoom.mk (by simp) (by simp) ?_
            refine SAs.mk _ rfl ?_
            refine SZN.mk 3 rfl ?_
            refine SWrap.i64z 3 rfl (by omega) ?_
            exact ⟨3, [0, 1, 2, 3, 4, 6, 8], hi, by show N - 3 < N - 2; omega, ⟨rfl, by simp, rfl, rfl, rfl, ⟨rfl, rfl, rfl, rfl, rfl, rfl, rfl, rfl, rfl, trivial⟩, ⟨rfl, rfl, rfl, rfl, rfl, rfl, rfl, trivial⟩⟩⟩
        · refine SCmp.no (decide_eq_false (by omega)) ?_
          have hK : sX vs 2 = codeQ (smallQ ((2 : Nat) : Int)) := by unfold sX sX0; rw [if_neg hk]
          refine SCall.pure (small2_ok ((2 : Nat) : Int) (by omega)) ?_
          refine SCall.pureT (rfof_ok (smallQ ((2 : Nat) : Int)) 0 (smallQ_bz _) (by omega)) (fun _ => rfl) ?_
          have vb := getR (l := b) (j := 2) (by omega)
          have bb1 := hbb 2 (by omega)
          refine SDraw.mkX (by kernel_rfl) ?_
          repeat refine SOp.mk _ _ (And.intro rfl rfl) rfl ?_
          refine SOp.mk _ _ (SEqN.mk (by simp [codesP, codesN]) <| SView.all rfl <| SRoom.mk (by simp [codesP, codesN]) (by simp [codesP, codesN]) <| SEs.mk (codesP (codesN 3 (sX vs))) (by have := codesN_snoc 2 (sX vs); rw [hK] at this; exact this) <| SZN.mk 3 (by simp [codesP, codesN]) (And.intro rfl rfl)) rfl ?_
          repeat refine SOp.mk _ _ (And.intro rfl rfl) rfl ?_
          refine SOp.mk _ _ (SIdx.mk 2 _ rfl vb (And.intro rfl rfl)) rfl ?_
          repeat refine SOp.mk _ _ (And.intro rfl rfl) rfl ?_
          refine SOp.mk _ _ (SCall.pure (rmulq_ok c (b.getD 2 0) bc bb1 (by omega)) (And.intro rfl rfl)) rfl ?_
          repeat refine SOp.mk _ _ (And.intro rfl rfl) rfl ?_
          refine SOp.mk _ _ (SEqN.mk (by simp [lst]) <| SView.all rfl <| SRoom.mk (by simp [lst]) (by simp [lst]) <| SEs.mk (rats (lst 3 (dS b c))) (lst_rats 2 (dS b c)) <| SZN.mk 3 (by simp [lst]) (And.intro rfl rfl)) rfl ?_
          repeat refine SOp.mk _ _ (And.intro rfl rfl) rfl ?_
          refine SFin.mk (by kernel_rfl) ?_
          refine SLoop.mkT Nat (fun j => ([(0, .p (.int .i64 N)), (3, .p (.sl m 1 (intsP vs))), (11, .p (matM false false M)), (12, .p (ratsM false b)), (13, .bptr 0 0), (14, .vec 1 1 0 3), (15, .vec 5 1 0 2), (16, .vec 2 3 0 3), (17, .p (.int .i64 (2 : Nat))), (21, .vec 6 3 0 j), (22, .p (.int .i64 j))], [.box 30 (boxQ c), .vec 22 1 (codesP (codesN 3 (sX vs))), .vec 30 3 (rats (lst 3 (dS b c))), .vec 30 3 (rats (lst N (rowS M c 0))), .vec 30 3 (rats (lst N (rowS M c 1))), .rows 64 [.vec 3 3 0 N, .vec 4 3 0 N], .vec 30 3 (rats (lst j (rowS M c 2)))])) (fun j => j ≤ N) (fun j => N - j) 0 [0, 7, 9, 3, 4, 5, 10] _ _ (.step 21 30 3 rfl (.done _ _)) (Nat.zero_le _) ⟨rfl, by simp, rfl, rfl, rfl, ⟨rfl, rfl, rfl, rfl, rfl, rfl, rfl, rfl, rfl, rfl, rfl, trivial⟩, ⟨rfl, rfl, rfl, rfl, rfl, rfl, rfl, trivial⟩⟩ ?_
          intro j g1
          have g1 : j ≤ N := g1
          have hrow : (M.map (ratsM false))[2]? = some (ratsM false (M.getD 2 [])) := by simp [List.getElem?_map, List.getElem?_eq_getElem (show 2 < M.length by omega), List.getD]
          have hc2 := hs.cols 2 hi
          by_cases hj : j < N
          · refine SCmp.yes (decide_eq_true (by omega)) ?_
            have vj := getR (l := M.getD 2 []) (j := j) (by omega)
            have bj := (bm 2 (by omega)).1 j (by omega)
            refine SDraw.mkX (by kernel_rfl) ?_
            repeat refine SOp.mk _ _ (And.intro rfl rfl) rfl ?_
            refine SOp.mk _ _ (SIdx.mk 2 _ rfl hrow (And.intro rfl rfl)) rfl ?_
            repeat refine SOp.mk _ _ (And.intro rfl rfl) rfl ?_
            refine SOp.mk _ _ (SIdx.mk j _ rfl vj (And.intro rfl rfl)) rfl ?_
            repeat refine SOp.mk _ _ (And.intro rfl rfl) rfl ?_
            refine SOp.mk _ _ (SCall.pure (rmulq_ok c ((M.getD 2 []).getD j 0) bc bj (by omega)) (And.intro rfl rfl)) rfl ?_
            repeat refine SOp.mk _ _ (And.intro rfl rfl) rfl ?_
            refine SOp.mk _ _ (SEqN.mk (by simp [lst]) <| SView.all rfl <| SRoom.mk (by simp [lst]; omega) (by simp [lst]; omega) <| SEs.mk (rats (lst (j + 1) (rowS M c 2))) (lst_rats j (rowS M c 2)) <| SZN.mk (j + 1) (by simp [lst]) (And.intro rfl rfl)) rfl ?_
            repeat refine SOp.mk _ _ (And.intro rfl rfl) rfl ?_
            refine SFin.mk (by kernel_rfl) ?_
            refine SWrap.i64z ((j + 1 : Nat) : Int) (by omega) (by omega) ?_
            exact ⟨j + 1, [0, 1, 2, 3, 4, 5, 8], hj, by show N - (j + 1) < N - j; omega, ⟨rfl, by simp, rfl, rfl, rfl, ⟨rfl, rfl, rfl, rfl, rfl, rfl, rfl, rfl, rfl, rfl, rfl, trivial⟩, ⟨rfl, rfl, rfl, rfl, rfl, rfl, rfl, trivial⟩⟩⟩
          · refine SCmp.no (decide_eq_false (by omega)) ?_
            have hjN : j = N := by omega
            rw [hjN]
            refine SEqN.mk rfl ?_
            refine SRoom.mk (by simp) (by simp) ?_
            refine SAs.mk _ rfl ?_
            refine SZN.mk 3 rfl ?_
            refine SWrap.i64z 3 rfl (by omega) ?_
            exact ⟨3, [0, 1, 2, 3, 4, 6, 8], hi, by show N - 3 < N - 2; omega, ⟨rfl, by simp, rfl, rfl, rfl, ⟨rfl, rfl, rfl, rfl, rfl, rfl, rfl, rfl, rfl, trivial⟩, ⟨rfl, rfl, rfl, rfl, rfl, rfl, rfl, trivial⟩⟩⟩
      · refine SCmp.no (decide_eq_false (by omega)) ?_
        have hn' : N = 2 := by omega
        subst hn'
        refine SView.all (by simp [codesP, codesN]) ?_
        refine SCall.pureT (c1) (fun _ => rfl) ?_
        refine SView.all (by simp [lst]) ?_
        refine SView.all (by simp [lst]) ?_
        refine SView.all (by simp [lst]) ?_
        refine SView.all (by simp [codesP, codesN]) ?_
        refine SCall.pureT (c2) (fun _ => rfl) ?_
        refine SCmp.yes (rfl) ?_
        refine SCmp.yes (rfl) ?_
        refine SCall.pure (rsame_self bq (by omega)) ?_
        refine SCond.mk (fun _ => ?_) (fun h => by cases h)
        refine SCall.pure (rright_ok q bq (by omega)) ?_
        refine SCond.mk (fun _ => ?_) (fun h => by cases h)
        refine SCmp.yes (hneg) ?_
        exact SRet.pure (.tf _)
    | 3, _, h1 =>
      by_cases hi : 3 < N
      · refine SCmp.yes (decide_eq_true (by omega)) ?_
        refine SZ.mk (vs.length : Int) (by simp) ?_
        by_cases hk : 3 < vs.length
        · refine SCmp.yes (decide_eq_true (by omega)) ?_
          refine SIdx.ib 3 rfl hk ?_
          have hK : sX vs 3 = codeQ (smallQ (vs.getD 3 0)) := by unfold sX sX0; rw [if_pos hk]
          refine SCall.pure (small2_ok (vs.getD 3 0) (hvs 3)) ?_
          refine SCall.pureT (rfof_ok (smallQ (vs.getD 3 0)) 0 (smallQ_bz _) (by omega)) (fun _ => rfl) ?_
          have vb := getR (l := b) (j := 3) (by omega)
          have bb1 := hbb 3 (by omega)
          refine SDraw.mkX (by kernel_rfl) ?_
          repeat refine SOp.mk _ _ (And.intro rfl rfl) rfl ?_
          refine SOp.mk _ _ (SEqN.mk (by simp [codesP, codesN]) <| SView.all rfl <| SRoom.mk (by simp [codesP, codesN]) (by simp [codesP, codesN]) <| SEs.mk (codesP (codesN 4 (sX vs))) (by have := codesN_snoc 3 (sX vs); rw [hK] at this; exact this) <| SZN.mk 4 (by simp [codesP, codesN]) (And.intro rfl rfl)) rfl ?_
          repeat refine SOp.mk _ _ (And.intro rfl rfl) rfl ?_
          refine SOp.mk _ _ (SIdx.mk 3 _ rfl vb (And.intro rfl rfl)) rfl ?_
          repeat refine SOp.mk _ _ (And.intro rfl rfl) rfl ?_
          refine SOp.mk _ _ (SCall.pure (rmulq_ok c (b.getD 3 0) bc bb1 (by omega)) (And.intro rfl rfl)) rfl ?_
          repeat refine SOp.mk _ _ (And.intro rfl rfl) rfl ?_
          refine SOp.mk _ _ (SEqN.mk (by simp [lst]) <| SView.all rfl <| SRoom.mk (by simp [lst]) (by simp [lst]) <| SEs.mk (rats (lst 4 (dS b c))) (lst_rats 3 (dS b c)) <| SZN.mk 4 (by simp [lst]) (And.intro rfl rfl)) rfl ?_
          repeat refine SOp.mk _ _ (And.intro rfl rfl) rfl ?_
          refine SFin.mk (by kernel_rfl) ?_
          refine SLoop.mkT Nat (fun j => ([(0, .p (.int .i64 N)), (3, .p (.sl m 1 (intsP vs))), (11, .p (matM false false M)), (12, .p (ratsM false b)), (13, .bptr 0 0), (14, .vec 1 1 0 4), (15, .vec 6 1 0 3), (16, .vec 2 3 0 4), (17, .p (.int .i64 (3 : Nat))), (21, .vec 7 3 0 j), (22, .p (.int .i64 j))], [.box 30 (boxQ c), .vec 22 1 (codesP (codesN 4 (sX vs))), .vec 30 3 (rats (lst 4 (dS b c))), .vec 30 3 (rats (lst N (rowS M c 0))), .vec 30 3 (rats (lst N (rowS M c 1))), .vec 30 3 (rats (lst N (rowS M c 2))), .rows 64 [.vec 3 3 0 N, .vec 4 3 0 N, .vec 5 3 0 N], .vec 30 3 (rats (lst j (rowS M c 3)))])) (fun j => j ≤ N) (fun j => N - j) 0 [0, 8, 10, 3, 4, 5, 6, 11] _ _ (.step 21 30 3 rfl (.done _ _)) (Nat.zero_le _) ⟨rfl, by simp, rfl, rfl, rfl, ⟨rfl, rfl, rfl, rfl, rfl, rfl, rfl, rfl, rfl, rfl, rfl, trivial⟩, ⟨rfl, rfl, rfl, rfl, rfl, rfl, rfl, rfl, trivial⟩⟩ ?_
          intro j g1
          have g1 : j ≤ N := g1
          have hrow : (M.map (ratsM false))[3]? = some (ratsM false (M.getD 3 [])) := by simp [List.getElem?_map, List.getElem?_eq_getElem (show 3 < M.length by omega), List.getD]
          have hc3 := hs.cols 3 hi
          by_cases hj : j < N
          · refine SCmp.yes (decide_eq_true (by omega)) ?_
            have vj := getR (l := M.getD 3 []) (j := j) (by omega)
            have bj := (bm 3 (by omega)).1 j (by omega)
            refine SDraw.mkX (by kernel_rfl) ?_
            repeat refine SOp.mk _ _ (And.intro rfl rfl) rfl ?_
            refine SOp.mk _ _ (SIdx.mk 3 _ rfl hrow (And.intro rfl rfl)) rfl ?_
            repeat refine SOp.mk _ _ (And.intro rfl rfl) rfl ?_
            refine SOp.mk _ _ (SIdx.mk j _ rfl vj (And.intro rfl rfl)) rfl ?_
            repeat refine SOp.mk _ _ (And.intro rfl rfl) rfl ?_
            refine SOp.mk _ _ (SCall.pure (rmulq_ok c ((M.getD 3 []).getD j 0) bc bj (by omega)) (And.intro rfl rfl)) rfl ?_
            repeat refine SOp.mk _ _ (And.intro rfl rfl) rfl ?_
            refine SOp.mk _ _ (SEqN.mk (by simp [lst]) <| SView.all rfl <| SRoom.mk (by simp [lst]; omega) (by simp [lst]; omega) <| SEs.mk (rats (lst (j + 1) (rowS M c 3))) (lst_rats j (rowS M c 3)) <| SZN.mk (j + 1) (by simp [lst]) (And.intro rfl rfl)) rfl ?_
            repeat refine SOp.mk _ _ (And.intro rfl rfl) rfl ?_
            refine SFin.mk (by kernel_rfl) ?_
            refine SWrap.i64z ((j + 1 : Nat) : Int) (by omega) (by omega) ?_
            exact ⟨j + 1, [0, 1, 2, 3, 4, 5, 6, 9], hj, by show N - (j + 1) < N - j; omega, ⟨rfl, by simp, rfl, rfl, rfl, ⟨rfl, rfl, rfl, rfl, rfl, rfl, rfl, rfl, rfl, rfl, rfl, trivial⟩, ⟨rfl, rfl, rfl, rfl, rfl, rfl, rfl, rfl, trivial⟩⟩⟩
          · refine SCmp.no (decide_eq_false (by omega)) ?_
            have hjN : j = N := by omega
            rw [hjN]
            refine SEqN.mk rfl ?_
            refine SRoom.mk (by simp) (by simp) ?_
            refine SAs.mk _ rfl ?_
            refine SZN.mk 4 rfl ?_
            refine SWrap.i64z 4 rfl (by omega) ?_
            exact ⟨4, [0, 1, 2, 3, 4, 5, 7, 9], hi, by show N - 4 < N - 3; omega, ⟨rfl, by simp, rfl, rfl, rfl, ⟨rfl, rfl, rfl, rfl, rfl, rfl, rfl, rfl, rfl, trivial⟩, ⟨rfl, rfl, rfl, rfl, rfl, rfl, rfl, rfl, trivial⟩⟩⟩
        · refine SCmp.no (decide_eq_false (by omega)) ?_
          have hK : sX vs 3 = codeQ (smallQ ((3 : Nat) : Int)) := by unfold sX sX0; rw [if_neg hk]
          refine SCall.pure (small2_ok ((3 : Nat) : Int) (by omega)) ?_
          refine SCall.pureT (rfof_ok (smallQ ((3 : Nat) : Int)) 0 (smallQ_bz _) (by omega)) (fun _ => rfl) ?_
          have vb := getR (l := b) (j := 3) (by omega)
          have bb1 := hbb 3 (by omega)
          refine SDraw.mkX (by kernel_rfl) ?_
          repeat refine SOp.mk _ _ (And.intro rfl rfl) rfl ?_
          refine SOp.mk _ _ (SEqN.mk (by simp [codesP, codesN]) <| SView.all rfl <| SRoom.mk (by simp [codesP, codesN]) (by simp [codesP, codesN]) <| SEs.mk (codesP (codesN 4 (sX vs))) (by have := codesN_snoc 3 (sX vs); rw [hK] at this; exact this) <| SZN.mk 4 (by simp [codesP, codesN]) (And.intro rfl rfl)) rfl ?_
          repeat refine SOp.mk _ _ (And.intro rfl rfl) rfl ?_
          refine SOp.mk _ _ (SIdx.mk 3 _ rfl vb (And.intro rfl rfl)) rfl ?_
          repeat refine SOp.mk _ _ (And.intro rfl rfl) rfl ?_
          refine SOp.mk _ _ (SCall.pure (rmulq_ok c (b.getD 3 0) bc bb1 (by omega)) (And.intro rfl rfl)) rfl ?_
          repeat refine SOp.mk _ _ (And.intro rfl rfl) rfl ?_
          refine SOp.mk _ _ (SEqN.mk (by simp [lst]) <| SView.all rfl <| SRoom.mk (by simp [lst]) (by simp [lst]) <| SEs.mk (rats (lst 4 (dS b c))) (lst_rats 3 (dS b c)) <| SZN.mk 4 (by simp [lst]) (And.intro rfl rfl)) rfl ?_
          repeat refine SOp.mk _ _ (And.intro rfl rfl) rfl ?_
          refine SFin.mk (by kernel_rfl) ?_
          refine SLoop.mkT Nat (fun j => ([(0, .p (.int .i64 N)), (3, .p (.sl m 1 (intsP vs))), (11, .p (matM false false M)), (12, .p (ratsM false b)), (13, .bptr 0 0), (14, .vec 1 1 0 4), (15, .vec 6 1 0 3), (16, .vec 2 3 0 4), (17, .p (.int .i64 (3 : Nat))), (21, .vec 7 3 0 j), (22, .p (.int .i64 j))], [.box 30 (boxQ c), .vec 22 1 (codesP (codesN 4 (sX vs))), .vec 30 3 (rats (lst 4 (dS b c))), .vec 30 3 (rats (lst N (rowS M c 0))), .vec 30 3 (rats (lst N (rowS M c 1))), .vec 30 3 (rats (lst N (rowS M c 2))), .rows 64 [.vec 3 3 0 N, .vec 4 3 0 N, .vec 5 3 0 N], .vec 30 3 (rats (lst j (rowS M c 3)))])) (fun j => j ≤ N) (fun j => N - j) 0 [0, 8, 10, 3, 4, 5, 6, 11] _ _ (.step 21 30 3 rfl (.done _ _)) (Nat.zero_le _) ⟨rfl, by simp, rfl, rfl, rfl, ⟨rfl, rfl, rfl, rfl, rfl, rfl, rfl, rfl, rfl, rfl, rfl, trivial⟩, ⟨rfl, rfl, rfl, rfl, rfl, rfl, rfl, rfl, trivial⟩⟩ ?_
          intro j g1
          have g1 : j ≤ N := g1
          have hrow : (M.map (ratsM false))[3]? = some (ratsM false (M.getD 3 [])) := by simp [List.getElem?_map, List.getElem?_eq_getElem (show 3 < M.length by omega), List.getD]
          have hc3 := hs.cols 3 hi
          by_cases hj : j < N
          · refine SCmp.yes (decide_eq_true (by omega)) ?_
            have vj := getR (l := M.getD 3 []) (j := j) (by omega)
            have bj := (bm 3 (by omega)).1 j (by omega)
            refine SDraw.mkX (by kernel_rfl) ?_
            repeat refine SOp.mk _ _ (And.intro rfl rfl) rfl ?_
            refine SOp.mk _ _ (SIdx.mk 3 _ rfl hrow (And.intro rfl rfl)) rfl ?_
            repeat refine SOp.mk _ _ (And.intro rfl rfl) rfl ?_
            refine SOp.mk _ _ (SIdx.mk j _ rfl vj (And.intro rfl rfl)) rfl ?_
            repeat refine SOp.mk _ _ (And.intro rfl rfl) rfl ?_
            refine SOp.mk _ _ (SCall.pure (rmulq_ok c ((M.getD 3 []).getD j 0) bc bj (by omega)) (And.intro rfl rfl)) rfl ?_
            repeat refine SOp.mk _ _ (And.intro rfl rfl) rfl ?_
            refine SOp.mk _ _ (SEqN.mk (by simp [lst]) <| SView.all rfl <| SRoom.mk (by simp [lst]; omega) (by simp [lst]; omega) <| SEs.mk (rats (lst (j + 1) (rowS M c 3))) (lst_rats j (rowS M c 3)) <| SZN.mk (j + 1) (by simp [lst]) (And.intro rfl rfl)) rfl ?_
            repeat refine SOp.mk _ _ (And.intro rfl rfl) rfl ?_
            refine SFin.mk (by kernel_rfl) ?_
            refine SWrap.i64z ((j + 1 : Nat) : Int) (by omega) (by omega) ?_
            exact ⟨j + 1, [0, 1, 2, 3, 4, 5, 6, 9], hj, by show N - (j + 1) < N - j; omega, ⟨rfl, by simp, rfl, rfl, rfl, ⟨rfl, rfl, rfl, rfl, rfl, rfl, rfl, rfl, rfl, rfl, rfl, trivial⟩, ⟨rfl, rfl, rfl, rfl, rfl, rfl, rfl, rfl, trivial⟩⟩⟩
          · refine SCmp.no (decide_eq_false (by omega)) ?_
            have hjN : j = N := by omega
            rw [hjN]
            refine SEqN.mk rfl ?_
            refine SRoom.mk (by simp) (by simp) ?_
            refine SAs.mk _ rfl ?_
            refine SZN.mk 4 rfl ?_
            refine SWrap.i64z 4 rfl (by omega) ?_
            exact ⟨4, [0, 1, 2, 3, 4, 5, 7, 9], hi, by show N - 4 < N - 3; omega, ⟨rfl, by simp, rfl, rfl, rfl, ⟨rfl, rfl, rfl, rfl, rfl, rfl, rfl, rfl, rfl, trivial⟩, ⟨rfl, rfl, rfl, rfl, rfl, rfl, rfl, rfl, trivial⟩⟩⟩
      · refine SCmp.no (decide_eq_false (by omega)) ?_
        have hn' : N = 3 := by omega
        subst hn'
        refine SView.all (by simp [codesP, codesN]) ?_
        refine SCall.pureT (c1) (fun _ => rfl) ?_
        refine SView.all (by simp [lst]) ?_
        refine SView.all (by simp [lst]) ?_
        refine SView.all (by simp [lst]) ?_
        refine SView.all (by simp [lst]) ?_
        refine SView.all (by simp [codesP, codesN]) ?_
        refine SCall.pureT (c2) (fun _ => rfl) ?_
        refine SCmp.yes (rfl) ?_
        refine SCmp.yes (rfl) ?_
        refine SCall.pure (rsame_self bq (by omega)) ?_
        refine SCond.mk (fun _ => ?_) (fun h => by cases h)
        refine SCall.pure (rright_ok q bq (by omega)) ?_
        refine SCond.mk (fun _ => ?_) (fun h => by cases h)
        refine SCmp.yes (hneg) ?_
        exact SRet.pure (.tf _)
    | 4, _, h1 =>
      refine SCmp.no (decide_eq_false (by omega)) ?_
      have hn' : N = 4 := by omega
      subst hn'
      refine SView.all (by simp [codesP, codesN]) ?_
      refine SCall.pureT (c1) (fun _ => rfl) ?_
      refine SView.all (by simp [lst]) ?_
      refine SView.all (by simp [lst]) ?_
      refine SView.all (by simp [lst]) ?_
      refine SView.all (by simp [lst]) ?_
      refine SView.all (by simp [lst]) ?_
      refine SView.all (by simp [codesP, codesN]) ?_
      refine SCall.pureT (c2) (fun _ => rfl) ?_
      refine SCmp.yes (rfl) ?_
      refine SCmp.yes (rfl) ?_
      refine SCall.pure (rsame_self bq (by omega)) ?_
      refine SCond.mk (fun _ => ?_) (fun h => by cases h)
      refine SCall.pure (rright_ok q bq (by omega)) ?_
      refine SCond.mk (fun _ => ?_) (fun h => by cases h)
      refine SCmp.yes (hneg) ?_
      exact SRet.pure (.tf _)
end Go.Proofs.YtacklcbgkigcaaaGreat
