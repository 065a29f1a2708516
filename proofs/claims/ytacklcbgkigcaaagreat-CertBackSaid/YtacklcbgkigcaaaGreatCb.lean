/- CertBack: the plain law and the walk. -/
import Derived.Test.YtacklcbgkigcaaaGreatCr13
/- CertBack: the plain law. -/
namespace Go.Proofs.YtacklcbgkigcaaaGreat
open Go
set_option linter.unusedVariables false
set_option linter.unusedSimpArgs false
set_option maxRecDepth 10000

theorem getR {l : List Rat} {j : Nat} (h : j < l.length) : (rats l)[j]? = some (ratP (l.getD j 0)) := by rw [List.getElem?_map, List.getElem?_eq_getElem h]; simp [List.getD, List.getElem?_eq_getElem h]
theorem lst_rats (n : Nat) (g : Nat → Rat) : rats (lst n g) ++ [ratP (g n)] = rats (lst (n + 1) g) := by rw [← lst_snoc, rats, rats, List.map_append]; rfl
theorem at_size (l : List Rat) : ∀ i, 0 < i → i ≤ l.length → (l.getD (atN l i) 0).abs = sizeQ (l.take i) := by
  intro i
  induction i with
  | zero => intro h; omega
  | succ i ih =>
    intro _ hi
    rw [sizeQ_take l (by omega)]
    show (l.getD (if (l.getD (atN l i) 0).abs < (l.getD i 0).abs then i else atN l i) 0).abs = _
    rcases Nat.eq_zero_or_pos i with e | e
    · subst e
      have h1 := Rat.abs_nonneg (x := l.getD 0 0)
      rw [show atN l 0 = 0 from rfl, if_neg (by grind), show sizeQ (l.take 0) = 0 from rfl]
      split
      · rfl
      · grind
    · have h := ih e (by omega)
      rw [h]
      split
      · rfl
      · exact h
/-- How near floats are, as a number. -/
def etaQ (M : List (List Rat)) (b v : List Rat) : Rat := if sizeQ (leftQ M b v) = 0 then 0 else sizeQ (leftQ M b v) / wholeQ M b v
theorem eta_is {M : List (List Rat)} {b : List Rat} {xs : List Nat} (h1 : xs.length = M.length) (h2 : xs.all fineF = true) : etaA M b xs = etaR (ratP (etaQ M b (vals xs))) 0 := by
  unfold etaA etaQ
  rw [if_neg (by omega), h2]
  simp only []
  by_cases h : sizeQ (leftQ M b (vals xs)) = 0
  · rw [if_pos h, if_pos h]
  · rw [if_neg h, if_neg h]
theorem eta_whole (M : List (List Rat)) (b v : List Rat) : etaQ M b v * wholeQ M b v = sizeQ (leftQ M b v) := by
  unfold etaQ
  by_cases h : sizeQ (leftQ M b v) = 0
  · rw [if_pos h, h, Rat.zero_mul]
  · rw [if_neg h]; exact Rat.div_mul_cancel fun e => h (whole_left e)
theorem whole_nn (M : List (List Rat)) (b v : List Rat) : 0 ≤ wholeQ M b v := Rat.add_nonneg (Rat.mul_nonneg (sizeQ_pos _) (sizeQ_pos _)) (sizeQ_pos _)
theorem le_of_mulQ {x y w : Rat} (hw : 0 < w) (h : x * w ≤ y * w) : x ≤ y := by
  by_cases hxy : x ≤ y
  · exact hxy
  · have := (mul_lt (a := w) (x := y) (y := x) hw).2 (by grind)
    grind
/-- What is laid on the right side, on the matrix. -/
theorem back_law {d na nx nb e w v : Rat} (hw : w = na * nx + nb) (hw0 : w ≠ 0) (hwn : 0 ≤ w) (ha : 0 ≤ na) (hx : 0 ≤ nx) (hb : 0 ≤ nb) (hd : d.abs ≤ e * w) (hv : v.abs = nx) :
    (d * nb / w).abs ≤ e * nb ∧ (nx ≠ 0 → (d * (na * nx) / w / v).abs ≤ e * na ∧ d * (na * nx) / w / v * v + d * nb / w = d) ∧ (nx = 0 → 0 ≤ e * na ∧ d * nb / w = d) := by
  have hwp : 0 < w := by grind
  obtain ⟨t, ht⟩ : ∃ t, t = d / w := ⟨_, rfl⟩
  have h1 : t * w = d := by rw [ht]; exact Rat.div_mul_cancel hw0
  have h2 : t.abs * w = d.abs := by rw [← h1, abs_mul', Rat.abs_of_nonneg hwn]
  have h3 : t.abs ≤ e := le_of_mulQ hwp (by rw [h2]; exact hd)
  have h4 : ∀ y, d * y / w = t * y := fun y => by
    rw [← h1, show t * w * y = t * y * w by grind, Rat.mul_div_cancel hw0]
  have h5 : ∀ y, 0 ≤ y → t.abs * y ≤ e * y := fun y hy => by
    have := Rat.mul_nonneg (show 0 ≤ e - t.abs by grind) hy
    grind
  have he : 0 ≤ e := Rat.le_trans Rat.abs_nonneg h3
  refine ⟨by rw [h4, abs_mul', Rat.abs_of_nonneg hb]; exact h5 nb hb, fun hn => ?_, fun hn => ⟨Rat.mul_nonneg he ha, ?_⟩⟩
  · have hv0 : v ≠ 0 := fun h => hn (by rw [← hv, h]; rfl)
    rw [h4, h4]
    have h6 : t * (na * nx) / v * v = t * (na * nx) := Rat.div_mul_cancel hv0
    refine ⟨?_, by rw [h6, ← h1, hw]; grind⟩
    obtain ⟨p, hp⟩ : ∃ p, p = t * (na * nx) / v := ⟨_, rfl⟩
    rw [← hp] at h6 ⊢
    have h7 : p.abs * nx = t.abs * na * nx := by
      have := congrArg Rat.abs h6
      rw [abs_mul', abs_mul', abs_mul', Rat.abs_of_nonneg ha, Rat.abs_of_nonneg hx, hv] at this
      rw [this]; grind
    refine le_of_mulQ (w := nx) (by grind) ?_
    rw [h7]
    have := Rat.mul_nonneg (show 0 ≤ e * na - t.abs * na by have := h5 na ha; grind) hx
    grind
  · rw [h4, ← h1, hw, hn]; grind
end Go.Proofs.YtacklcbgkigcaaaGreat

/- CertBack: the walk. -/
namespace Go.Proofs.YtacklcbgkigcaaaGreat
open Go
set_option linter.unusedVariables false
set_option linter.unusedSimpArgs false
set_option maxRecDepth 10000

def bK (vs : List Int) (i : Nat) : Int := if i < vs.length then vs.getD i 0 % 200 - 100 else ((i + 1 : Nat) : Int)
theorem bK_64 (vs : List Int) {i : Nat} (h : i < 1000) : -9223372036854775808 ≤ bK vs i ∧ bK vs i < 9223372036854775808 := by unfold bK; split <;> omega
noncomputable def bX (vs : List Int) (i : Nat) : Nat := codeQ (smallQ (bK vs i))
noncomputable def bV (vs : List Int) (i : Nat) : Rat := fvq (bX vs i)
theorem bV_vals (vs : List Int) (n : Nat) : vals (codesN n (bX vs)) = lst n (bV vs) := by rw [vals, codesN, lst, List.map_map]; rfl
theorem bX_fine (vs : List Int) (n : Nat) : (codesN n (bX vs)).all fineF = true := List.all_eq_true.2 fun f hm => by
  obtain ⟨i, _, rfl⟩ := List.mem_map.1 hm
  exact small_fine _
set_option maxHeartbeats 8000000 in
theorem certBack_ok (m1 m2 m : Bool) (n : Int) (ns bs vs : List Int) (hns : I64s ns) (hbs : I64s bs) (hvs : I64s vs) :
    CallP Tryz.prog 9 [.int .i64 n, .sl m1 1 (intsP ns), .sl m2 1 (intsP bs), .sl m 1 (intsP vs)] (.p (.bool true)) [] := by
  have w1 := within16_ok n 4 (by omega) (by omega)
  obtain ⟨N, hN⟩ : ∃ N : Nat, (N : Int) = 1 + n % 4 := ⟨(1 + n % 4).toNat, by omega⟩
  have hN1 : 0 < N := by omega
  have hN2 : N ≤ 6 := by omega
  have hN4 : N ≤ 4 := by omega
  have bm := mkM_bm40 N ns
  have hs := mkM_sq N ns
  have mk := make7_ok m1 N (by omega) ns hns
  obtain ⟨M, hM⟩ : ∃ M, M = mkM N ns := ⟨_, rfl⟩
  rw [← hM] at bm hs mk
  have hl := hs.rows
  have hbl : (lst N (rowG bs)).length = N := lst_length
  have bb : Bl (lst N (rowG bs)) 300 := Bl.lst fun i _ => (rowG_bz bs i).mono (by omega)
  have rw2 := row2_ok m2 bs hbs N (by omega)
  obtain ⟨b, hb⟩ : ∃ b, b = lst N (rowG bs) := ⟨_, rfl⟩
  rw [← hb] at hbl bb rw2
  have hx : OkC (codesN N (bX vs)) := codesN_ok fun j => codeQ_lt _
  have hxl := codesN_length N (bX vs)
  have c1 := ceta_ok false false false true M b (codesN N (bX vs)) hs bm hbl bb hx hN1 hN2 (by omega)
  have hvv := bV_vals vs N
  have e1 := eta_is (M := M) (b := b) (xs := codesN N (bX vs)) (by omega) (bX_fine vs N)
  have bv := vals_bl (codesN N (bX vs))
  rw [hvv] at e1 bv
  rw [e1] at c1
  have hvl : (lst N (bV vs)).length = N := lst_length
  refine callG_of_vc (wr := wr0) Γok mixed Tryz.func9 (by kernel_rfl) rfl (by kernel_rfl) (le_of_ble rfl) (by simp) ?_
  refine SCall.pure (known16_ok) ?_
  refine SCmp.no (rfl) ?_
  refine SCall.pure (w1) ?_
  refine SWrap.i64z (N : Int) (by omega) (by omega) ?_
  refine SCall.pure (mk) ?_
  refine SCall.pure (rw2) ?_
  refine SLoop.mkT Nat (fun i => ([(0, .p (.int .i64 N)), (3, .p (.sl m 1 (intsP vs))), (9, .p (matM false false M)), (10, .p (ratsM false b)), (11, .vec 0 1 0 i), (12, .vec 1 3 0 i), (13, .p (.int .i64 i))], [.vec 22 1 (codesP (codesN i (bX vs))), .vec 30 3 (rats (lst i (bV vs)))]))
    (fun i => i ≤ N) (fun i => N - i) 0 [0, 1] _ _ (.step 11 22 1 rfl (.step 12 30 3 rfl (.done _ _))) (Nat.zero_le _) ⟨rfl, by simp, rfl, rfl, rfl, ⟨rfl, rfl, rfl, rfl, rfl, rfl, rfl, trivial⟩, ⟨rfl, rfl, trivial⟩⟩ ?_
  intro i h1
  have h1 : i ≤ N := h1
  by_cases hi : i < N
  · refine SCmp.yes (decide_eq_true (by omega)) ?_
    refine SWrap.i64z ((i + 1 : Nat) : Int) (by omega) (by omega) ?_
    refine SZ.mk (vs.length : Int) (by simp) ?_
    by_cases hk : i < vs.length
    · refine SCmp.yes (decide_eq_true (by omega)) ?_
      refine SIdx.ib i rfl hk ?_
      refine SCall.pure (within16_ok (vs.getD i 0) 200 (by omega) (by omega)) ?_
      refine SWrap.i64z (bK vs i) (by unfold bK; rw [if_pos hk]) (bK_64 vs (by omega)) ?_
      refine SCall.pure (small2_ok (bK vs i) (bK_64 vs (by omega))) ?_
      refine SCall.pureT (rfof_ok (smallQ (bK vs i)) 0 (smallQ_bz _) (by omega)) (fun _ => rfl) ?_
      obtain ⟨f1, f2⟩ := fineF_t (small_fine (bK vs i))
      refine SCall.pureT (rfrat_ok (codeQ (smallQ (bK vs i))) (codeQ_lt _) f1 f2) (fun _ => rfl) ?_
      refine SDraw.mkX (by kernel_rfl) ?_
      repeat refine SOp.mk _ _ (And.intro rfl rfl) rfl ?_
      refine SOp.mk _ _ (SEqN.mk (by simp [codesP, codesN]) <| SView.all rfl <| SRoom.mk (by simp [codesP, codesN]; omega) (by simp [codesP, codesN]; omega) <| SEs.mk (codesP (codesN (i + 1) (bX vs))) (codesN_snoc i (bX vs)) <| SZN.mk (i + 1) (by simp [codesP, codesN]) (And.intro rfl rfl)) rfl ?_
      repeat refine SOp.mk _ _ (And.intro rfl rfl) rfl ?_
      refine SOp.mk _ _ (SEqN.mk (by simp [lst]) <| SView.all rfl <| SRoom.mk (by simp [lst]; omega) (by simp [lst]; omega) <| SEs.mk (rats (lst (i + 1) (bV vs))) (lst_rats i (bV vs)) <| SZN.mk (i + 1) (by simp [lst]) (And.intro rfl rfl)) rfl ?_
      repeat refine SOp.mk _ _ (And.intro rfl rfl) rfl ?_
      refine SFin.mk (by kernel_rfl) ?_
      refine SWrap.i64z ((i + 1 : Nat) : Int) (by omega) (by omega) ?_
      exact ⟨i + 1, [4, 6], hi, by show N - (i + 1) < N - i; omega, ⟨rfl, by simp, rfl, rfl, rfl, ⟨rfl, rfl, rfl, rfl, rfl, rfl, rfl, trivial⟩, ⟨rfl, rfl, trivial⟩⟩⟩
    · refine SCmp.no (decide_eq_false (by omega)) ?_
      rw [show ((i + 1 : Nat) : Int) = bK vs i by unfold bK; rw [if_neg hk]]
      refine SCall.pure (small2_ok (bK vs i) (bK_64 vs (by omega))) ?_
      refine SCall.pureT (rfof_ok (smallQ (bK vs i)) 0 (smallQ_bz _) (by omega)) (fun _ => rfl) ?_
      obtain ⟨f1, f2⟩ := fineF_t (small_fine (bK vs i))
      refine SCall.pureT (rfrat_ok (codeQ (smallQ (bK vs i))) (codeQ_lt _) f1 f2) (fun _ => rfl) ?_
      refine SDraw.mkX (by kernel_rfl) ?_
      repeat refine SOp.mk _ _ (And.intro rfl rfl) rfl ?_
      refine SOp.mk _ _ (SEqN.mk (by simp [codesP, codesN]) <| SView.all rfl <| SRoom.mk (by simp [codesP, codesN]; omega) (by simp [codesP, codesN]; omega) <| SEs.mk (codesP (codesN (i + 1) (bX vs))) (codesN_snoc i (bX vs)) <| SZN.mk (i + 1) (by simp [codesP, codesN]) (And.intro rfl rfl)) rfl ?_
      repeat refine SOp.mk _ _ (And.intro rfl rfl) rfl ?_
      refine SOp.mk _ _ (SEqN.mk (by simp [lst]) <| SView.all rfl <| SRoom.mk (by simp [lst]; omega) (by simp [lst]; omega) <| SEs.mk (rats (lst (i + 1) (bV vs))) (lst_rats i (bV vs)) <| SZN.mk (i + 1) (by simp [lst]) (And.intro rfl rfl)) rfl ?_
      repeat refine SOp.mk _ _ (And.intro rfl rfl) rfl ?_
      refine SFin.mk (by kernel_rfl) ?_
      refine SWrap.i64z ((i + 1 : Nat) : Int) (by omega) (by omega) ?_
      exact ⟨i + 1, [4, 6], hi, by show N - (i + 1) < N - i; omega, ⟨rfl, by simp, rfl, rfl, rfl, ⟨rfl, rfl, rfl, rfl, rfl, rfl, rfl, trivial⟩, ⟨rfl, rfl, trivial⟩⟩⟩
  · refine SCmp.no (decide_eq_false (by omega)) ?_
    have hiN : i = N := by omega
    subst hiN
    refine SView.all (by simp [codesP, codesN]) ?_
    refine SCall.pureT (c1) (fun _ => rfl) ?_
    refine SCmp.no (rfl) ?_
    obtain ⟨v, hv⟩ : ∃ v, v = lst i (bV vs) := ⟨_, rfl⟩
    rw [← hv] at e1 bv hvl ⊢
    obtain ⟨e, he⟩ : ∃ e, e = etaQ M b v := ⟨_, rfl⟩
    rw [← he]
    refine SLoop.mk Nat (fun j => ([(0, .p (.int .i64 i)), (9, .p (matM false false M)), (10, .p (ratsM false b)), (12, .vec 0 3 0 i), (19, .bptr 1 0), (21, .p (.int .i64 (atN v j))), (22, .p (.int .i64 j))], [.vec 30 3 (rats v), .box 30 (boxQ e)]))
      (fun j => j ≤ i) (fun j => i - j) 0 [1, 2] (Nat.zero_le _) ⟨rfl, by simp, rfl, rfl, rfl, ⟨rfl, rfl, rfl, rfl, rfl, rfl, rfl, trivial⟩, ⟨rfl, rfl, trivial⟩⟩ ?_
    intro j g1
    have g1 : j ≤ i := g1
    by_cases hj : j < i
    · refine SCmp.yes (decide_eq_true (by omega)) ?_
      have ha := atN_le v j (by omega)
      have v1 := getR (l := v) (j := j) (by omega)
      have v2 := getR (l := v) ha
      have b1 := bv j (by omega)
      have b2 := bv (atN v j) (by omega)
      have ea : atN v (j + 1) = if (v.getD (atN v j) 0).abs < (v.getD j 0).abs then j else atN v j := rfl
      refine SDraw.mk (by kernel_rfl) ?_
      repeat refine SOp.mk _ _ (And.intro rfl rfl) rfl ?_
      refine SOp.mk _ _ (SPos.mk j rfl hj (And.intro rfl rfl)) rfl ?_
      refine SOp.mk _ _ (SIdx.mk j _ rfl v1 (And.intro rfl rfl)) rfl ?_
      repeat refine SOp.mk _ _ (And.intro rfl rfl) rfl ?_
      refine SOp.mk _ _ (SCall.pure (rabs_ok (v.getD j 0) b1 (by omega)) (And.intro rfl rfl)) rfl ?_
      repeat refine SOp.mk _ _ (And.intro rfl rfl) rfl ?_
      refine SOp.mk _ _ (SPos.mk (atN v j) rfl (by omega) (And.intro rfl rfl)) rfl ?_
      refine SOp.mk _ _ (SIdx.mk (atN v j) _ rfl v2 (And.intro rfl rfl)) rfl ?_
      repeat refine SOp.mk _ _ (And.intro rfl rfl) rfl ?_
      refine SOp.mk _ _ (SCall.pure (rabs_ok (v.getD (atN v j) 0) b2 (by omega)) (And.intro rfl rfl)) rfl ?_
      repeat refine SOp.mk _ _ (And.intro rfl rfl) rfl ?_
      refine SOp.mk _ _ (SCall.pure (rcmpq_ok (v.getD j 0).abs (v.getD (atN v j) 0).abs b1.abs b2.abs (by omega)) (And.intro rfl rfl)) rfl ?_
      repeat refine SOp.mk _ _ (And.intro rfl rfl) rfl ?_
      by_cases hc : (v.getD (atN v j) 0).abs < (v.getD j 0).abs
      · refine SOp.mk _ _ (SCmp.yes (decide_eq_true (cmpQ_pos.2 hc)) (And.intro rfl rfl)) rfl ?_
        rw [if_pos hc] at ea
        refine SWrap.i64z ((j + 1 : Nat) : Int) (by omega) (by omega) ?_
        exact ⟨j + 1, [0, 1], hj, by show i - (j + 1) < i - j; omega, ⟨rfl, by simp, rfl, rfl, rfl, ⟨rfl, rfl, rfl, rfl, rfl, by rw [ea]; rfl, rfl, trivial⟩, ⟨rfl, rfl, trivial⟩⟩⟩
      · refine SOp.mk _ _ (SCmp.no (decide_eq_false fun h => hc (cmpQ_pos.1 h)) (And.intro rfl rfl)) rfl ?_
        rw [if_neg hc] at ea
        refine SWrap.i64z ((j + 1 : Nat) : Int) (by omega) (by omega) ?_
        exact ⟨j + 1, [0, 1], hj, by show i - (j + 1) < i - j; omega, ⟨rfl, by simp, rfl, rfl, rfl, ⟨rfl, rfl, rfl, rfl, rfl, by rw [ea]; rfl, rfl, trivial⟩, ⟨rfl, rfl, trivial⟩⟩⟩
    · refine SCmp.no (decide_eq_false (by omega)) ?_
      have hji : j = i := by omega
      rw [hji]
      have hnx := at_size v i hN1 (by omega)
      rw [List.take_of_length_le (by omega)] at hnx
      have hat : atN v i < i := atN_lt v i hN1
      obtain ⟨at', hatd⟩ : ∃ a, a = atN v i := ⟨_, rfl⟩
      rw [← hatd] at hnx hat ⊢
      have a1 := rapply7_ok false false true M v hs bm hvl bv (by omega) hN1 (by omega)
      have d1 := cnorm_ok false false M bm (by omega) (by omega) (by omega)
      have d2 := csize_ok true v bv (by omega) (by omega) (by omega)
      have d3 := csize_ok false b bb (by omega) (by omega) (by omega)
      have s1 := sizeQ_bz (sums_bl bm) (by omega) _ (Nat.le_refl _)
      have s2 := sizeQ_bz bv (by omega) _ (Nat.le_refl _)
      have s3 := sizeQ_bz bb (by omega) _ (Nat.le_refl _)
      rw [List.take_length] at s1 s2 s3
      have s1 : Bz (normQ M) 300 := s1.mono (by omega)
      have hA : (appM M v).length = i := by rw [appM_length, hl]
      have bA : ∀ t, t < i → Bz ((appM M v).getD t 0) 7000 := fun t ht => by
        rw [appM_getD (by omega)]
        have hcl := hs.cols t ht
        exact (dotN_bz (a := 40) (b := 1080) (n := i) (fun j hj => (bm t (by omega)).1 j (by omega)) (fun j hj => bv j (by omega)) v.length (by omega)).mono (by omega)
      have hfar : ∀ t, t < i → (b.getD t 0 - (appM M v).getD t 0).abs ≤ e * wholeQ M b v := fun t ht => by
        have h := sizeQ_at (leftQ M b v) (j := t) (by rw [leftQ, lst_length, hl]; exact ht)
        rw [← eta_whole, ← he, show (leftQ M b v).getD t 0 = leftG M b v t by rw [leftQ]; exact lst_getD (by omega), leftG] at h
        rw [show b.getD t 0 - (appM M v).getD t 0 = -((appM M v).getD t 0 - b.getD t 0) by grind, Rat.abs_neg]
        exact h
      have be : Bz e 9100 := by
        have bf := sizeQ_bz (left_bl hs bm hbl bb hvl bv hN2) (by omega) _ (Nat.le_refl _)
        rw [List.take_length] at bf
        rw [he, etaQ]
        split
        · exact bz_zero.mono (by omega)
        · exact (bf.div (whole_bz bm bb bv hN2)).mono (by omega)
      have hWd : wholeQ M b v = normQ M * sizeQ v + sizeQ b := rfl
      have hWn := whole_nn M b v
      have pa : 0 ≤ normQ M := sizeQ_pos _
      have px := sizeQ_pos v
      have pb := sizeQ_pos b
      obtain ⟨na, hna⟩ : ∃ x, x = normQ M := ⟨_, rfl⟩
      obtain ⟨nx, hnxd⟩ : ∃ x, x = sizeQ v := ⟨_, rfl⟩
      obtain ⟨nb, hnb⟩ : ∃ x, x = sizeQ b := ⟨_, rfl⟩
      obtain ⟨W, hW⟩ : ∃ x, x = wholeQ M b v := ⟨_, rfl⟩
      rw [← hna] at d1 s1 hWd pa
      rw [← hnxd] at d2 s2 hWd px hnx
      rw [← hnb] at d3 s3 hWd pb
      rw [← hW] at hWd hWn hfar
      have x1 := rmulq_ok na nx s1 s2 (by omega)
      have x2 := raddq_ok (na * nx) nb (s1.mul s2) s3 (by omega)
      have bW : Bz W 1700 := by rw [hWd]; exact ((s1.mul s2).add s3).mono (by omega)
      rw [← hWd] at x2
      refine SView.all (by simp [hvl]) ?_
      refine SCall.fresh a1 ?_
      refine SCall.pure (d1) ?_
      refine SView.all (by simp [hvl]) ?_
      refine SCall.pure (d2) ?_
      refine SCall.pure (d3) ?_
      refine SDraw.mkX (by kernel_rfl) ?_
      repeat refine SOp.mk _ _ (And.intro rfl rfl) rfl ?_
      refine SOp.mk _ _ (SCall.pure (x1) (And.intro rfl rfl)) rfl ?_
      repeat refine SOp.mk _ _ (And.intro rfl rfl) rfl ?_
      refine SOp.mk _ _ (SCall.pure (x2) (And.intro rfl rfl)) rfl ?_
      repeat refine SOp.mk _ _ (And.intro rfl rfl) rfl ?_
      refine SFin.mk (by kernel_rfl) ?_
      refine SLoop.mk Nat (fun t => ([(0, .p (.int .i64 i)), (10, .p (ratsM false b)), (12, .vec 0 3 0 i), (19, .bptr 1 0), (21, .p (.int .i64 at')), (23, .vec 2 3 0 i), (24, .bptr 3 0), (25, .bptr 4 0), (26, .bptr 5 0), (27, .bptr 6 0), (28, .p (.int .i64 t))], [.vec 30 3 (rats v), .box 30 (boxQ e), .vec 30 3 (rats (appM M v)), .box 30 (boxQ na), .box 30 (boxQ nx), .box 30 (boxQ nb), .box 30 (boxQ W)]))
        (fun t => t ≤ i) (fun t => i - t) 0 [0, 1, 2, 3, 4, 5, 6] (Nat.zero_le _) ⟨rfl, by simp, rfl, rfl, rfl, ⟨rfl, rfl, rfl, rfl, rfl, rfl, rfl, rfl, rfl, rfl, rfl, trivial⟩, ⟨rfl, rfl, rfl, rfl, rfl, rfl, rfl, trivial⟩⟩ ?_
      intro t q1
      have q1 : t ≤ i := q1
      by_cases ht : t < i
      · refine SCmp.yes (decide_eq_true (by omega)) ?_
        have vb := getR (l := b) (j := t) (by omega)
        have vr := getR (l := appM M v) (j := t) (by omega)
        have va := getR (l := v) (j := at') (by omega)
        have b1 := bb t (by omega)
        have b2 := bA t ht
        have b3 := bv at' (by omega)
        have hf := hfar t ht
        obtain ⟨p, hp⟩ : ∃ p, p = b.getD t 0 := ⟨_, rfl⟩
        obtain ⟨r, hr⟩ : ∃ p, p = (appM M v).getD t 0 := ⟨_, rfl⟩
        obtain ⟨va', hva⟩ : ∃ p, p = v.getD at' 0 := ⟨_, rfl⟩
        rw [← hp] at vb b1 hf
        rw [← hr] at vr b2 hf
        rw [← hva] at va b3 hnx
        have y1 := rsubq_ok p r b1 b2 (by omega)
        have bd : Bz (p - r) 7400 := (b1.sub b2).mono (by omega)
        obtain ⟨d, hd⟩ : ∃ d, d = p - r := ⟨_, rfl⟩
        rw [← hd] at y1 bd hf
        refine SDraw.mkX (by kernel_rfl) ?_
        repeat refine SOp.mk _ _ (And.intro rfl rfl) rfl ?_
        refine SOp.mk _ _ (SIdx.mk t _ rfl vb (And.intro rfl rfl)) rfl ?_
        repeat refine SOp.mk _ _ (And.intro rfl rfl) rfl ?_
        refine SOp.mk _ _ (SPos.mk t rfl ht (And.intro rfl rfl)) rfl ?_
        refine SOp.mk _ _ (SIdx.mk t _ rfl vr (And.intro rfl rfl)) rfl ?_
        refine SOp.mk _ _ (SCall.pure (y1) (And.intro rfl rfl)) rfl ?_
        repeat refine SOp.mk _ _ (And.intro rfl rfl) rfl ?_
        refine SFin.mk (by kernel_rfl) ?_
        refine SCall.pure (rnought_ok W) ?_
        by_cases hW0 : W = 0
        · rw [decide_eq_true hW0]
          refine SCond.mk (fun _ => ?_) (fun h => by cases h)
          have hd0 : d = 0 := abs_zero (by rw [hW0, Rat.mul_zero] at hf; exact hf)
          refine SCall.pure (rnought_ok d) ?_
          rw [decide_eq_true hd0]
          refine SCmp.no (rfl) ?_
          refine SWrap.i64z ((t + 1 : Nat) : Int) (by omega) (by omega) ?_
          exact ⟨t + 1, [0, 1, 2, 3, 4, 5, 6], ht, by show i - (t + 1) < i - t; omega, ⟨rfl, by simp, rfl, rfl, rfl, ⟨rfl, rfl, rfl, rfl, rfl, rfl, rfl, rfl, rfl, rfl, rfl, trivial⟩, ⟨rfl, rfl, rfl, rfl, rfl, rfl, rfl, trivial⟩⟩⟩
        · rw [decide_eq_false hW0]
          refine SCond.mk (fun h => by cases h) (fun _ => ?_)
          obtain ⟨l1, l2, l3⟩ := back_law (d := d) (e := e) (v := va') hWd hW0 hWn pa px pb hf hnx
          have z1 := rmulq_ok d nb bd s3 (by omega)
          have z2 := rover_ok (d * nb) W hW0 (bd.mul s3) bW (by omega)
          have bz2 := (bd.mul s3).div bW
          obtain ⟨rest, hrest⟩ : ∃ x, x = d * nb / W := ⟨_, rfl⟩
          rw [← hrest] at z2 l1 l2 l3 bz2
          have bz2 : Bz rest 12000 := bz2.mono (by omega)
          refine SCall.pure (rzero_ok) ?_
          refine SCall.pure (rnought_ok nx) ?_
          by_cases hx0 : nx = 0
          · rw [decide_eq_true hx0]
            refine SCmp.no (rfl) ?_
            obtain ⟨l4, l5⟩ := l3 hx0
            have hva0 : va' = 0 := abs_zero (by rw [hnx, hx0]; exact Rat.le_refl)
            have bp : Bz (0 : Rat) 12000 := bz_zero.mono (by omega)
            have k1 : ((0 : Rat)).abs ≤ e * na := l4
            have k2 : (0 : Rat) * va' + rest = d := by rw [Rat.zero_mul, Rat.zero_add]; exact l5
            refine SDraw.mkX (by kernel_rfl) ?_
            repeat refine SOp.mk _ _ (And.intro rfl rfl) rfl ?_
            refine SOp.mk _ _ (SCall.pure (z1) (And.intro rfl rfl)) rfl ?_
            repeat refine SOp.mk _ _ (And.intro rfl rfl) rfl ?_
            refine SOp.mk _ _ (SCall.pure (z2) (And.intro rfl rfl)) rfl ?_
            repeat refine SOp.mk _ _ (And.intro rfl rfl) rfl ?_
            refine SFin.mk (by kernel_rfl) ?_
            have g1 := rmulq_ok e na be s1 (by omega)
            have g2 := rmulq_ok e nb be s3 (by omega)
            have g3 := rcmpq_ok ((0 : Rat)).abs (e * na) bp.abs (be.mul s1) (by omega)
            have g4 := rcmpq_ok rest.abs (e * nb) bz2.abs (be.mul s3) (by omega)
            have g5 := rmulq_ok ((0 : Rat)) va' bp b3 (by omega)
            have g6 := raddq_ok r (((0 : Rat)) * va') b2 (bp.mul b3) (by omega)
            have g7 := rsubq_ok p rest b1 bz2 (by omega)
            have hsame : p - rest = r + ((0 : Rat)) * va' := by rw [hd] at k2; grind
            rw [hsame] at g7
            refine SDraw.mk (by kernel_rfl) ?_
            repeat refine SOp.mk _ _ (And.intro rfl rfl) rfl ?_
            refine SOp.mk _ _ (SCall.pure (rabs_ok ((0 : Rat)) bp (by omega)) (And.intro rfl rfl)) rfl ?_
            repeat refine SOp.mk _ _ (And.intro rfl rfl) rfl ?_
            refine SOp.mk _ _ (SCall.pure (g1) (And.intro rfl rfl)) rfl ?_
            refine SOp.mk _ _ (SCall.pure (g3) (And.intro rfl rfl)) rfl ?_
            refine SOp.mk _ _ (SCmp.no (decide_eq_false fun h => by have := cmpQ_pos.1 h; grind) (And.intro rfl rfl)) rfl ?_
            repeat refine SOp.mk _ _ (And.intro rfl rfl) rfl ?_
            refine SOp.mk _ _ (SCall.pure (rabs_ok rest bz2 (by omega)) (And.intro rfl rfl)) rfl ?_
            repeat refine SOp.mk _ _ (And.intro rfl rfl) rfl ?_
            refine SOp.mk _ _ (SCall.pure (g2) (And.intro rfl rfl)) rfl ?_
            refine SOp.mk _ _ (SCall.pure (g4) (And.intro rfl rfl)) rfl ?_
            refine SOp.mk _ _ (SCmp.no (decide_eq_false fun h => by have := cmpQ_pos.1 h; grind) (And.intro rfl rfl)) rfl ?_
            repeat refine SOp.mk _ _ (And.intro rfl rfl) rfl ?_
            refine SOp.mk _ _ (SPos.mk t rfl ht (And.intro rfl rfl)) rfl ?_
            refine SOp.mk _ _ (SIdx.mk t _ rfl vr (And.intro rfl rfl)) rfl ?_
            repeat refine SOp.mk _ _ (And.intro rfl rfl) rfl ?_
            refine SOp.mk _ _ (SPos.mk at' rfl hat (And.intro rfl rfl)) rfl ?_
            refine SOp.mk _ _ (SIdx.mk at' _ rfl va (And.intro rfl rfl)) rfl ?_
            refine SOp.mk _ _ (SCall.pure (g5) (And.intro rfl rfl)) rfl ?_
            refine SOp.mk _ _ (SCall.pure (g6) (And.intro rfl rfl)) rfl ?_
            repeat refine SOp.mk _ _ (And.intro rfl rfl) rfl ?_
            refine SOp.mk _ _ (SIdx.mk t _ rfl vb (And.intro rfl rfl)) rfl ?_
            repeat refine SOp.mk _ _ (And.intro rfl rfl) rfl ?_
            refine SOp.mk _ _ (SCall.pure (g7) (And.intro rfl rfl)) rfl ?_
            refine SOp.mk _ _ (SCall.pure (rsame_self (b2.add (bp.mul b3)) (by omega)) (And.intro rfl rfl)) rfl ?_
            refine SOp.mk _ _ (SCmp.no rfl (And.intro rfl rfl)) rfl ?_
            repeat refine SOp.mk _ _ (And.intro rfl rfl) rfl ?_
            refine SWrap.i64z ((t + 1 : Nat) : Int) (by omega) (by omega) ?_
            exact ⟨t + 1, [0, 1, 2, 3, 4, 5, 6], ht, by show i - (t + 1) < i - t; omega, ⟨rfl, by simp, rfl, rfl, rfl, ⟨rfl, rfl, rfl, rfl, rfl, rfl, rfl, rfl, rfl, rfl, rfl, trivial⟩, ⟨rfl, rfl, rfl, rfl, rfl, rfl, rfl, trivial⟩⟩⟩
          · rw [decide_eq_false hx0]
            refine SCmp.yes (rfl) ?_
            obtain ⟨k1, k2⟩ := l2 hx0
            have hva0 : va' ≠ 0 := fun h => hx0 (by rw [← hnx, h]; rfl)
            have u1 := rmulq_ok d (na * nx) bd (s1.mul s2) (by omega)
            have u2 := rover_ok (d * (na * nx)) W hW0 (bd.mul (s1.mul s2)) bW (by omega)
            have u3 := rover_ok (d * (na * nx) / W) va' hva0 ((bd.mul (s1.mul s2)).div bW) b3 (by omega)
            have bp := ((bd.mul (s1.mul s2)).div bW).div b3
            obtain ⟨part, hpart⟩ : ∃ x, x = d * (na * nx) / W / va' := ⟨_, rfl⟩
            rw [← hpart] at u3 bp k1 k2
            have bp : Bz part 12000 := bp.mono (by omega)
            refine SDraw.mkX (by kernel_rfl) ?_
            repeat refine SOp.mk _ _ (And.intro rfl rfl) rfl ?_
            refine SOp.mk _ _ (SCall.pure (x1) (And.intro rfl rfl)) rfl ?_
            refine SOp.mk _ _ (SCall.pure (u1) (And.intro rfl rfl)) rfl ?_
            repeat refine SOp.mk _ _ (And.intro rfl rfl) rfl ?_
            refine SOp.mk _ _ (SCall.pure (u2) (And.intro rfl rfl)) rfl ?_
            repeat refine SOp.mk _ _ (And.intro rfl rfl) rfl ?_
            refine SOp.mk _ _ (SPos.mk at' rfl hat (And.intro rfl rfl)) rfl ?_
            refine SOp.mk _ _ (SIdx.mk at' _ rfl va (And.intro rfl rfl)) rfl ?_
            refine SOp.mk _ _ (SCall.pure (u3) (And.intro rfl rfl)) rfl ?_
            repeat refine SOp.mk _ _ (And.intro rfl rfl) rfl ?_
            refine SFin.mk (by kernel_rfl) ?_
            refine SDraw.mkX (by kernel_rfl) ?_
            repeat refine SOp.mk _ _ (And.intro rfl rfl) rfl ?_
            refine SOp.mk _ _ (SCall.pure (z1) (And.intro rfl rfl)) rfl ?_
            repeat refine SOp.mk _ _ (And.intro rfl rfl) rfl ?_
            refine SOp.mk _ _ (SCall.pure (z2) (And.intro rfl rfl)) rfl ?_
            repeat refine SOp.mk _ _ (And.intro rfl rfl) rfl ?_
            refine SFin.mk (by kernel_rfl) ?_
            have g1 := rmulq_ok e na be s1 (by omega)
            have g2 := rmulq_ok e nb be s3 (by omega)
            have g3 := rcmpq_ok (part).abs (e * na) bp.abs (be.mul s1) (by omega)
            have g4 := rcmpq_ok rest.abs (e * nb) bz2.abs (be.mul s3) (by omega)
            have g5 := rmulq_ok (part) va' bp b3 (by omega)
            have g6 := raddq_ok r ((part) * va') b2 (bp.mul b3) (by omega)
            have g7 := rsubq_ok p rest b1 bz2 (by omega)
            have hsame : p - rest = r + (part) * va' := by rw [hd] at k2; grind
            rw [hsame] at g7
            refine SDraw.mk (by kernel_rfl) ?_
            repeat refine SOp.mk _ _ (And.intro rfl rfl) rfl ?_
            refine SOp.mk _ _ (SCall.pure (rabs_ok (part) bp (by omega)) (And.intro rfl rfl)) rfl ?_
            repeat refine SOp.mk _ _ (And.intro rfl rfl) rfl ?_
            refine SOp.mk _ _ (SCall.pure (g1) (And.intro rfl rfl)) rfl ?_
            refine SOp.mk _ _ (SCall.pure (g3) (And.intro rfl rfl)) rfl ?_
            refine SOp.mk _ _ (SCmp.no (decide_eq_false fun h => by have := cmpQ_pos.1 h; grind) (And.intro rfl rfl)) rfl ?_
            repeat refine SOp.mk _ _ (And.intro rfl rfl) rfl ?_
            refine SOp.mk _ _ (SCall.pure (rabs_ok rest bz2 (by omega)) (And.intro rfl rfl)) rfl ?_
            repeat refine SOp.mk _ _ (And.intro rfl rfl) rfl ?_
            refine SOp.mk _ _ (SCall.pure (g2) (And.intro rfl rfl)) rfl ?_
            refine SOp.mk _ _ (SCall.pure (g4) (And.intro rfl rfl)) rfl ?_
            refine SOp.mk _ _ (SCmp.no (decide_eq_false fun h => by have := cmpQ_pos.1 h; grind) (And.intro rfl rfl)) rfl ?_
            repeat refine SOp.mk _ _ (And.intro rfl rfl) rfl ?_
            refine SOp.mk _ _ (SPos.mk t rfl ht (And.intro rfl rfl)) rfl ?_
            refine SOp.mk _ _ (SIdx.mk t _ rfl vr (And.intro rfl rfl)) rfl ?_
            repeat refine SOp.mk _ _ (And.intro rfl rfl) rfl ?_
            refine SOp.mk _ _ (SPos.mk at' rfl hat (And.intro rfl rfl)) rfl ?_
            refine SOp.mk _ _ (SIdx.mk at' _ rfl va (And.intro rfl rfl)) rfl ?_
            refine SOp.mk _ _ (SCall.pure (g5) (And.intro rfl rfl)) rfl ?_
            refine SOp.mk _ _ (SCall.pure (g6) (And.intro rfl rfl)) rfl ?_
            repeat refine SOp.mk _ _ (And.intro rfl rfl) rfl ?_
            refine SOp.mk _ _ (SIdx.mk t _ rfl vb (And.intro rfl rfl)) rfl ?_
            repeat refine SOp.mk _ _ (And.intro rfl rfl) rfl ?_
            refine SOp.mk _ _ (SCall.pure (g7) (And.intro rfl rfl)) rfl ?_
            refine SOp.mk _ _ (SCall.pure (rsame_self (b2.add (bp.mul b3)) (by omega)) (And.intro rfl rfl)) rfl ?_
            refine SOp.mk _ _ (SCmp.no rfl (And.intro rfl rfl)) rfl ?_
            repeat refine SOp.mk _ _ (And.intro rfl rfl) rfl ?_
            refine SWrap.i64z ((t + 1 : Nat) : Int) (by omega) (by omega) ?_
            exact ⟨t + 1, [0, 1, 2, 3, 4, 5, 6], ht, by show i - (t + 1) < i - t; omega, ⟨rfl, by simp, rfl, rfl, rfl, ⟨rfl, rfl, rfl, rfl, rfl, rfl, rfl, rfl, rfl, rfl, rfl, trivial⟩, ⟨rfl, rfl, rfl, rfl, rfl, rfl, rfl, trivial⟩⟩⟩
      · refine SCmp.no (decide_eq_false (by omega)) ?_
        exact SRet.pure (.tf _)
end Go.Proofs.YtacklcbgkigcaaaGreat
