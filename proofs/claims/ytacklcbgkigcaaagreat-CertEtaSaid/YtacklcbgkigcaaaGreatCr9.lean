/- CertEta: the walk. -/
import Derived.Test.YtacklcbgkigcaaaGreatCq
namespace Go.Proofs.YtacklcbgkigcaaaGreat
open Go
set_option linter.unusedVariables false
set_option linter.unusedSimpArgs false
set_option maxRecDepth 10000

theorem left_bl {M : List (List Rat)} {b v : List Rat} {n : Nat} (hs : Sq M n) (hM : Bm M n 11) (hb : b.length = n) (hbl : Bl b 40) (hv : v.length = n) (bv : Bl v 1080) (hn : n ≤ 6) : Bl (leftQ M b v) 7041 := by
  have hl := hs.rows
  rw [leftQ, hl]
  refine Bl.lst fun t ht => ?_
  have hA : Bz ((appM M v).getD t 0) 7000 := by
    rw [appM_getD (by omega)]
    have hcl := hs.cols t ht
    exact (dotN_bz (a := 11) (b := 1080) (n := n) (fun j hj => (hM t (by omega)).1 j (by omega)) (fun j hj => bv j (by omega)) v.length (by omega)).mono (by
      have : v.length * (11 + 1080 + 1) ≤ 6 * 1092 := Nat.mul_le_mul (by omega) (by omega)
      omega)
  exact (hA.sub (hbl t (by omega))).mono (by omega)
theorem whole_bz {M : List (List Rat)} {b v : List Rat} {n : Nat} (hM : Bm M n 11) (hbl : Bl b 40) (bv : Bl v 1080) (hn : n ≤ 6) : Bz (wholeQ M b v) 1300 := by
  have s1 := sizeQ_bz (sums_bl hM) (by omega) _ (Nat.le_refl _)
  have s2 := sizeQ_bz bv (by omega) _ (Nat.le_refl _)
  have s3 := sizeQ_bz hbl (by omega) _ (Nat.le_refl _)
  rw [List.take_length] at s1 s2 s3
  have s1 : Bz (normQ M) 100 := s1.mono (by omega)
  exact ((s1.mul s2).add s3).mono (by omega)
theorem eta_form {M : List (List Rat)} {b : List Rat} {xs : List Nat} {n : Nat} (hs : Sq M n) (hM : Bm M n 11) (hb : b.length = n) (hbl : Bl b 40) (hn : n ≤ 6) :
    (∃ e, etaA M b xs = etaR rat0 e) ∨ ∃ q, etaA M b xs = etaR (ratP q) 0 ∧ Bz q 9000 := by
  unfold etaA
  by_cases h1 : xs.length ≠ M.length
  · rw [if_pos h1]; exact .inl ⟨_, rfl⟩
  · rw [if_neg h1]
    have h1 : xs.length = n := by rw [← hs.rows]; omega
    cases xs.all fineF with
    | false => exact .inl ⟨_, rfl⟩
    | true =>
      refine .inr ?_
      have bf := sizeQ_bz (left_bl hs hM hb hbl (by rw [vals_length]; exact h1) (vals_bl xs) hn) (by omega) _ (Nat.le_refl _)
      rw [List.take_length] at bf
      by_cases h2 : sizeQ (leftQ M b (vals xs)) = 0
      · rw [if_pos h2]; exact ⟨_, rfl, bz_zero.mono (by omega)⟩
      · rw [if_neg h2]; exact ⟨_, rfl, (bf.div (whole_bz hM hbl (vals_bl xs) hn)).mono (by omega)⟩

theorem mkM_sq (n : Nat) (ns : List Int) : Sq (mkM n ns) n := ⟨mkM_length n ns, fun i hi => by rw [mkM_getD hi, lst_length]⟩
def etaX (fs : List Nat) (kinds : List Int) (i : Nat) : Nat := mkF (if i < fs.length then fs.getD i 0 else 4607182418800017408) (if i < kinds.length ∧ kinds.getD i 0 % 4 = 0 then (kinds.getD i 0).tdiv 4 else 6)
def codesN (n : Nat) (g : Nat → Nat) : List Nat := (List.range n).map g
theorem codesN_length (n : Nat) (g : Nat → Nat) : (codesN n g).length = n := by simp [codesN]
theorem codesN_snoc (n : Nat) (g : Nat → Nat) : codesP (codesN n g) ++ [PV.int .u64 ((g n : Nat) : Int)] = codesP (codesN (n + 1) g) := by
  simp [codesN, codesP, List.range_succ]
theorem codesN_ok {n : Nat} {g : Nat → Nat} (h : ∀ i, g i < 18446744073709551616) : OkC (codesN n g) := fun i hi => by
  rw [codesN_length] at hi
  simp [codesN, List.getD, hi, h]
theorem etaX_lt {fs : List Nat} (hf : OkC fs) (kinds : List Int) (i : Nat) : etaX fs kinds i < 18446744073709551616 := by
  unfold etaX
  split
  · exact mkF_lt (hf i (by assumption)) _
  · exact mkF_lt (by omega) _
theorem OkC.drop {xs : List Nat} (h : OkC xs) (k : Nat) : OkC (xs.drop k) := fun i hi => by
  have : i + k < xs.length := by rw [List.length_drop] at hi; omega
  have := h (k + i) (by omega)
  rwa [show (xs.drop k).getD i 0 = xs.getD (k + i) 0 by simp [List.getD, List.getElem?_drop]]

theorem certEta_ok (m1 m2 m3 m4 : Bool) (n : Int) (ns bs : List Int) (fs : List Nat) (kinds : List Int) (size : Int) (hns : I64s ns) (hbs : I64s bs) (hfs : OkC fs) (hki : I64s kinds) :
    CallP Tryz.prog 7 [.int .i64 n, .sl m1 1 (intsP ns), .sl m2 1 (intsP bs), .sl m3 1 (codesP fs), .sl m4 1 (intsP kinds), .int .i64 size] (.p (.bool true)) [] := by
  refine callG_of_vc (wr := wr0) Γok mixed Tryz.func7 (by kernel_rfl) rfl (by kernel_rfl) (le_of_ble rfl) (by simp) ?_
  refine SCall.pure (known16_ok) ?_
  refine SCmp.no (rfl) ?_
  have w1 := within16_ok n 4 (by omega) (by omega)
  obtain ⟨N, hN⟩ : ∃ N : Nat, (N : Int) = 1 + n % 4 := ⟨(1 + n % 4).toNat, by omega⟩
  have hN1 : 0 < N := by omega
  have hN2 : N ≤ 6 := by omega
  refine SCall.pure (w1) ?_
  refine SWrap.i64z (N : Int) (by omega) (by omega) ?_
  refine SCall.pure (make7_ok m1 N (by omega) ns hns) ?_
  refine SCall.pure (row2_ok m2 bs hbs N (by omega)) ?_
  have bm := mkM_bm N ns
  have hs := mkM_sq N ns
  obtain ⟨M, hM⟩ : ∃ M, M = mkM N ns := ⟨_, rfl⟩
  rw [← hM] at bm hs ⊢
  have bb : Bl (lst N (rowG bs)) 40 := Bl.lst fun i _ => (rowG_bz bs i).mono (by omega)
  have hbl : (lst N (rowG bs)).length = N := lst_length
  obtain ⟨b, hb⟩ : ∃ b, b = lst N (rowG bs) := ⟨_, rfl⟩
  rw [← hb] at bb hbl ⊢
  refine SLoop.mkT Nat (fun i => ([(0, .p (.int .i64 N)), (3, .p (.sl m3 1 (codesP fs))), (4, .p (.sl m4 1 (intsP kinds))), (5, .p (.int .i64 size)), (13, .p (matM false false M)), (14, .p (ratsM false b)), (15, .vec 0 1 0 i), (16, .p (.int .i64 i))], [.vec 22 1 (codesP (codesN i (etaX fs kinds)))]))
    (fun i => i ≤ N) (fun i => N - i) 0 [0] _ _ (.step 15 22 1 rfl (.done _ _)) (Nat.zero_le _) ⟨rfl, by simp, rfl, rfl, rfl, ⟨rfl, rfl, rfl, rfl, rfl, rfl, rfl, rfl, trivial⟩, ⟨rfl, trivial⟩⟩ ?_
  intro i h1
  have h1 : i ≤ N := h1
  by_cases hi : i < N
  · refine SCmp.yes (decide_eq_true (by omega)) ?_
    refine SZ.mk (fs.length : Int) (by simp [codesP]) ?_
    by_cases hf : i < fs.length
    · refine SCmp.yes (decide_eq_true (by omega)) ?_
      refine SIdx.mk i _ rfl (codes_get hf) ?_
      refine SZ.mk (kinds.length : Int) (by simp) ?_
      by_cases hk : i < kinds.length
      · refine SCmp.yes (decide_eq_true (by omega)) ?_
        refine SIdx.ib i rfl hk ?_
        refine SCall.pure (within16_ok (kinds.getD i 0) 4 (by omega) (by omega)) ?_
        by_cases h4 : kinds.getD i 0 % 4 = 0
        · refine SCmp.yes (eqT h4) ?_
          refine SIdx.ib i rfl hk ?_
          refine SNe.mk (by omega) ?_
          have hkb := hki i
          refine SWrap.i64z ((kinds.getD i 0).tdiv 4) rfl (by rw [Int.tdiv_eq_ediv, show Int.sign 4 = 1 from rfl]; unfold I64 at hkb; split <;> omega) ?_
          have hE : etaX fs kinds i = mkF (fs.getD i 0) ((kinds.getD i 0).tdiv 4) := by unfold etaX; rw [if_pos hf, if_pos ⟨hk, h4⟩]
          have hmk := make3_ok (fs.getD i 0) ((kinds.getD i 0).tdiv 4) (hfs i hf)
          rw [← hE] at hmk
          refine SCall.pure (hmk) ?_
          refine SEqN.mk (by simp [codesP, codesN]) ?_
          refine SView.all rfl ?_
          refine SRoom.mk (by simp [codesP, codesN]; omega) (by simp [codesP, codesN]; omega) ?_
          refine SEs.mk _ (codesN_snoc i (etaX fs kinds)) ?_
          refine SZN.mk (i + 1) (by simp [codesP, codesN]) ?_
          refine SWrap.i64z ((i + 1 : Nat) : Int) (by omega) (by omega) ?_
          exact ⟨i + 1, [2], hi, by show N - (i + 1) < N - i; omega, ⟨rfl, by simp, rfl, rfl, rfl, ⟨rfl, rfl, rfl, rfl, rfl, rfl, rfl, rfl, trivial⟩, ⟨rfl, trivial⟩⟩⟩
        · refine SCmp.no (eqF h4) ?_
          have hE : etaX fs kinds i = mkF (fs.getD i 0) 6 := by unfold etaX; rw [if_pos hf, if_neg (fun h => h4 h.2)]
          have hmk := make3_ok (fs.getD i 0) 6 (hfs i hf)
          rw [← hE] at hmk
          refine SCall.pure (hmk) ?_
          refine SEqN.mk (by simp [codesP, codesN]) ?_
          refine SView.all rfl ?_
          refine SRoom.mk (by simp [codesP, codesN]; omega) (by simp [codesP, codesN]; omega) ?_
          refine SEs.mk _ (codesN_snoc i (etaX fs kinds)) ?_
          refine SZN.mk (i + 1) (by simp [codesP, codesN]) ?_
          refine SWrap.i64z ((i + 1 : Nat) : Int) (by omega) (by omega) ?_
          exact ⟨i + 1, [2], hi, by show N - (i + 1) < N - i; omega, ⟨rfl, by simp, rfl, rfl, rfl, ⟨rfl, rfl, rfl, rfl, rfl, rfl, rfl, rfl, trivial⟩, ⟨rfl, trivial⟩⟩⟩
      · refine SCmp.no (decide_eq_false (by omega)) ?_
        have hE : etaX fs kinds i = mkF (fs.getD i 0) 6 := by unfold etaX; rw [if_pos hf, if_neg (fun h => hk h.1)]
        have hmk := make3_ok (fs.getD i 0) 6 (hfs i hf)
        rw [← hE] at hmk
        refine SCall.pure (hmk) ?_
        refine SEqN.mk (by simp [codesP, codesN]) ?_
        refine SView.all rfl ?_
        refine SRoom.mk (by simp [codesP, codesN]; omega) (by simp [codesP, codesN]; omega) ?_
        refine SEs.mk _ (codesN_snoc i (etaX fs kinds)) ?_
        refine SZN.mk (i + 1) (by simp [codesP, codesN]) ?_
        refine SWrap.i64z ((i + 1 : Nat) : Int) (by omega) (by omega) ?_
        exact ⟨i + 1, [2], hi, by show N - (i + 1) < N - i; omega, ⟨rfl, by simp, rfl, rfl, rfl, ⟨rfl, rfl, rfl, rfl, rfl, rfl, rfl, rfl, trivial⟩, ⟨rfl, trivial⟩⟩⟩
    · refine SCmp.no (decide_eq_false (by omega)) ?_
      refine SZ.mk (kinds.length : Int) (by simp) ?_
      by_cases hk : i < kinds.length
      · refine SCmp.yes (decide_eq_true (by omega)) ?_
        refine SIdx.ib i rfl hk ?_
        refine SCall.pure (within16_ok (kinds.getD i 0) 4 (by omega) (by omega)) ?_
        by_cases h4 : kinds.getD i 0 % 4 = 0
        · refine SCmp.yes (eqT h4) ?_
          refine SIdx.ib i rfl hk ?_
          refine SNe.mk (by omega) ?_
          have hkb := hki i
          refine SWrap.i64z ((kinds.getD i 0).tdiv 4) rfl (by rw [Int.tdiv_eq_ediv, show Int.sign 4 = 1 from rfl]; unfold I64 at hkb; split <;> omega) ?_
          have hE : etaX fs kinds i = mkF 4607182418800017408 ((kinds.getD i 0).tdiv 4) := by unfold etaX; rw [if_neg hf, if_pos ⟨hk, h4⟩]
          have hmk := make3_ok 4607182418800017408 ((kinds.getD i 0).tdiv 4) (by omega)
          rw [← hE] at hmk
          refine SCall.pure (hmk) ?_
          refine SEqN.mk (by simp [codesP, codesN]) ?_
          refine SView.all rfl ?_
          refine SRoom.mk (by simp [codesP, codesN]; omega) (by simp [codesP, codesN]; omega) ?_
          refine SEs.mk _ (codesN_snoc i (etaX fs kinds)) ?_
          refine SZN.mk (i + 1) (by simp [codesP, codesN]) ?_
          refine SWrap.i64z ((i + 1 : Nat) : Int) (by omega) (by omega) ?_
          exact ⟨i + 1, [2], hi, by show N - (i + 1) < N - i; omega, ⟨rfl, by simp, rfl, rfl, rfl, ⟨rfl, rfl, rfl, rfl, rfl, rfl, rfl, rfl, trivial⟩, ⟨rfl, trivial⟩⟩⟩
        · refine SCmp.no (eqF h4) ?_
          have hE : etaX fs kinds i = mkF 4607182418800017408 6 := by unfold etaX; rw [if_neg hf, if_neg (fun h => h4 h.2)]
          have hmk := make3_ok 4607182418800017408 6 (by omega)
          rw [← hE] at hmk
          refine SCall.pure (hmk) ?_
          refine SEqN.mk (by simp [codesP, codesN]) ?_
          refine SView.all rfl ?_
          refine SRoom.mk (by simp [codesP, codesN]; omega) (by simp [codesP, codesN]; omega) ?_
          refine SEs.mk _ (codesN_snoc i (etaX fs kinds)) ?_
          refine SZN.mk (i + 1) (by simp [codesP, codesN]) ?_
          refine SWrap.i64z ((i + 1 : Nat) : Int) (by omega) (by omega) ?_
          exact ⟨i + 1, [2], hi, by show N - (i + 1) < N - i; omega, ⟨rfl, by simp, rfl, rfl, rfl, ⟨rfl, rfl, rfl, rfl, rfl, rfl, rfl, rfl, trivial⟩, ⟨rfl, trivial⟩⟩⟩
      · refine SCmp.no (decide_eq_false (by omega)) ?_
        have hE : etaX fs kinds i = mkF 4607182418800017408 6 := by unfold etaX; rw [if_neg hf, if_neg (fun h => hk h.1)]
        have hmk := make3_ok 4607182418800017408 6 (by omega)
        rw [← hE] at hmk
        refine SCall.pure (hmk) ?_
        refine SEqN.mk (by simp [codesP, codesN]) ?_
        refine SView.all rfl ?_
        refine SRoom.mk (by simp [codesP, codesN]; omega) (by simp [codesP, codesN]; omega) ?_
        refine SEs.mk _ (codesN_snoc i (etaX fs kinds)) ?_
        refine SZN.mk (i + 1) (by simp [codesP, codesN]) ?_
        refine SWrap.i64z ((i + 1 : Nat) : Int) (by omega) (by omega) ?_
        exact ⟨i + 1, [2], hi, by show N - (i + 1) < N - i; omega, ⟨rfl, by simp, rfl, rfl, rfl, ⟨rfl, rfl, rfl, rfl, rfl, rfl, rfl, rfl, trivial⟩, ⟨rfl, trivial⟩⟩⟩
  · refine SCmp.no (decide_eq_false (by omega)) ?_
    have : i = N := by omega
    subst this
    have hxl := codesN_length i (etaX fs kinds)
    have hxo := codesN_ok (n := i) (etaX_lt hfs kinds)
    obtain ⟨xs, hxs⟩ : ∃ xs, xs = codesN i (etaX fs kinds) := ⟨_, rfl⟩
    rw [← hxs] at hxl hxo ⊢
    have hcl : (codesP xs).length = i := by rw [codesP, List.length_map]; exact hxl
    refine SCall.pure (within16_ok size 8 (by omega) (by omega)) ?_
    by_cases h8 : size % 8 = 0
    · refine SCmp.yes (eqT h8) ?_
      refine SCut.mk 1 i rfl rfl (by omega) (Nat.le_refl _) ?_
      have hX := hxo.drop 1
      have hXl : (xs.drop 1).length ≤ 1000000 := by rw [List.length_drop]; omega
      have hd : ((codesP xs).drop 1).take (i - 1) = codesP (xs.drop 1) := by
        rw [List.take_of_length_le (by rw [List.length_drop]; omega), codesP, codesP, List.map_drop]
      have c1 := ceta_ok false false false true M b (xs.drop 1) hs bm hbl bb hX hN1 hN2 hXl
      have c2 := reta_ok false false false true M b (xs.drop 1) hs bm hbl bb hX hN1 hN2 hXl
      rcases eta_form (xs := (xs.drop 1)) hs bm hbl bb hN2 with ⟨e, he⟩ | ⟨q, he, bq⟩
      · rw [he] at c1 c2
        refine SView.mk (codesP (xs.drop 1)) hd (by rw [hcl]; omega) ?_
        refine SCall.pureT (c1) (fun _ => rfl) ?_
        refine SView.mk (codesP (xs.drop 1)) hd (by rw [hcl]; omega) ?_
        refine SCall.pureT (c2) (fun _ => rfl) ?_
        refine SCmp.yes (beq_self_eq_true _) ?_
        refine SCall.pure (rsame0_ok) ?_
        exact SRet.pure (.p _ (.bool _))
      · rw [he] at c1 c2
        refine SView.mk (codesP (xs.drop 1)) hd (by rw [hcl]; omega) ?_
        refine SCall.pureT (c1) (fun _ => rfl) ?_
        refine SView.mk (codesP (xs.drop 1)) hd (by rw [hcl]; omega) ?_
        refine SCall.pureT (c2) (fun _ => rfl) ?_
        refine SCmp.yes (beq_self_eq_true _) ?_
        refine SCall.pure (rsame_self bq (by omega)) ?_
        exact SRet.pure (.p _ (.bool _))
    · refine SCmp.no (eqF h8) ?_
      have hX := hxo
      have hXl : xs.length ≤ 1000000 := by omega
      have hd : ((codesP xs).drop 0).take i = codesP xs := by
        rw [List.drop_zero, List.take_of_length_le (by omega)]
      have c1 := ceta_ok false false false true M b xs hs bm hbl bb hX hN1 hN2 hXl
      have c2 := reta_ok false false false true M b xs hs bm hbl bb hX hN1 hN2 hXl
      rcases eta_form (xs := xs) hs bm hbl bb hN2 with ⟨e, he⟩ | ⟨q, he, bq⟩
      · rw [he] at c1 c2
        refine SView.mk (codesP xs) hd (by rw [hcl]; omega) ?_
        refine SCall.pureT (c1) (fun _ => rfl) ?_
        refine SView.mk (codesP xs) hd (by rw [hcl]; omega) ?_
        refine SCall.pureT (c2) (fun _ => rfl) ?_
        refine SCmp.yes (beq_self_eq_true _) ?_
        refine SCall.pure (rsame0_ok) ?_
        exact SRet.pure (.p _ (.bool _))
      · rw [he] at c1 c2
        refine SView.mk (codesP xs) hd (by rw [hcl]; omega) ?_
        refine SCall.pureT (c1) (fun _ => rfl) ?_
        refine SView.mk (codesP xs) hd (by rw [hcl]; omega) ?_
        refine SCall.pureT (c2) (fun _ => rfl) ?_
        refine SCmp.yes (beq_self_eq_true _) ?_
        refine SCall.pure (rsame_self bq (by omega)) ?_
        exact SRet.pure (.p _ (.bool _))
end Go.Proofs.YtacklcbgkigcaaaGreat
