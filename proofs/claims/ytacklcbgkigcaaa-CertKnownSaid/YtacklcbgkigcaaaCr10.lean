/- CertKnown: answers that are known, reckoned; the walk. -/
import Derived.Test.YtacklcbgkigcaaaCq
namespace Go.Proofs.Ytacklcbgkigcaaa
open Go
set_option linter.unusedVariables false
set_option linter.unusedSimpArgs false
set_option maxRecDepth 100000

theorem quarter16_ok : CallP Try.prog 47 [.int .i64 1, .int .i64 4] (.tup [.p (ratP (1 / 4)), .p (.int .i64 0)]) [] := by
  have h := rof2_ok 1 4 (by omega) (by omega) (by omega)
  have e : mkQ (decide ((1 : Int) < 0) != decide ((4 : Int) < 0)) (1 : Int).natAbs (4 : Int).natAbs = 1 / 4 := by
    rw [mkQ_val]; simp
  rwa [e] at h
theorem third16_ok : CallP Try.prog 47 [.int .i64 1, .int .i64 3] (.tup [.p (ratP (1 / 3)), .p (.int .i64 0)]) [] := by
  have h := rof2_ok 1 3 (by omega) (by omega) (by omega)
  have e : mkQ (decide ((1 : Int) < 0) != decide ((3 : Int) < 0)) (1 : Int).natAbs (3 : Int).natAbs = 1 / 3 := by
    rw [mkQ_val]; simp
  rwa [e] at h
abbrev iq (n : Int) : Rat := (n : Rat)
theorem iq_bz {n : Int} {k : Nat} (h : bitLen n.natAbs ≤ k) (hk : 1 ≤ k) : Bz (iq n) k := ⟨by simpa using h, by rw [Rat.den_intCast, show bitLen 1 = 1 by decide]; exact hk⟩
theorem bl2 {p q : Rat} {k : Nat} (hp : Bz p k) (hq : Bz q k) : Bl [p, q] k := fun i hi => by
  match i, hi with
  | 0, _ => exact hp
  | 1, _ => exact hq
theorem bl1 {p : Rat} {k : Nat} (hp : Bz p k) : Bl [p] k := fun i hi => by
  match i, hi with
  | 0, _ => exact hp
abbrev knM : List (List Rat) := [[iq 1, iq (-2)], [iq 0, iq 1]]
abbrev knB : List Rat := [iq 0, iq 1]
theorem knM_sq : Sq knM 2 := ⟨rfl, fun i hi => by
  match i, hi with
  | 0, _ => rfl
  | 1, _ => rfl⟩
theorem knM_bm : Bm knM 2 11 := fun i hi => by
  match i, hi with
  | 0, _ => exact ⟨bl2 (iq_bz (by decide) (by omega)) (iq_bz (by decide) (by omega)), by decide⟩
  | 1, _ => exact ⟨bl2 (iq_bz (by decide) (by omega)) (iq_bz (by decide) (by omega)), by decide⟩
theorem knB_bl : Bl knB 40 := bl2 (iq_bz (by decide) (by omega)) (iq_bz (by decide) (by omega))
theorem okc {xs : List Nat} (h : xs.all (fun f => decide (f < 18446744073709551616)) = true) : OkC xs := fun i hi => by
  have := List.all_eq_true.1 h xs[i] (List.getElem_mem hi)
  have e : xs.getD i 0 = xs[i] := by simp [List.getD, hi]
  rw [e]; exact of_decide_eq_true this
theorem eta1 : etaA knM knB [4607182418800017408, 4607182418800017408] = etaR (ratP (1 / 4)) 0 := by
  have h1 : sizeQ (leftQ knM knB (vals [4607182418800017408, 4607182418800017408])) = 1 := by decide +kernel
  have h2 : wholeQ knM knB (vals [4607182418800017408, 4607182418800017408]) = 4 := by decide +kernel
  unfold etaA
  rw [if_neg (by decide), show ([4607182418800017408, 4607182418800017408] : List Nat).all fineF = true by decide]
  simp only [h1, h2]
  rw [if_neg (by decide)]
theorem eta2 : etaA knM knB [4607182418800017408, 9218868437227405312] = etaR rat0 10 := by
  unfold etaA
  rw [if_neg (by decide), show ([4607182418800017408, 9218868437227405312] : List Nat).all fineF = false by decide]
theorem eta3 : etaA knM knB [4607182418800017408] = etaR rat0 3 := by
  unfold etaA
  rw [if_pos (by decide)]
theorem eta4 : etaA [[iq 0]] [iq 0] [0] = etaR (ratP 0) 0 := by
  have h1 : sizeQ (leftQ [[iq 0]] [iq 0] (vals [0])) = 0 := by decide +kernel
  unfold etaA
  rw [if_neg (by decide), show ([0] : List Nat).all fineF = true by decide]
  simp only [h1]
  rw [if_pos trivial]
theorem code_zero : codeQ (iq 0) = 0 := by unfold codeQ ofF; rw [if_pos (by decide)]
theorem round1 : roundR [iq 0, iq 0] = .tup [.p (.sl false 1 [.int .u64 0, .int .u64 0]), .p (.int .i64 0)] := by
  have h0 : atN [iq 0, iq 0] 2 = 0 := by decide +kernel
  have hb : badR [iq 0, iq 0] = false := by
    unfold badR
    rw [show [iq 0, iq 0].length = 2 from rfl, h0]
    show (decide (0 < 2) && (!decide (iq 0 = 0) && _)) = false
    rw [decide_eq_true (show iq 0 = 0 by decide)]
    rfl
  rw [roundR_fine hb]
  show AV.tup [.p (.sl false 1 [.int .u64 ((codeQ (iq 0) : Nat) : Int), .int .u64 ((codeQ (iq 0) : Nat) : Int)]), .p (.int .i64 0)] = _
  rw [code_zero]
  rfl
theorem code_third : codeQ (1 / 3) = 4599676419421066581 := by
  have h : rS (1 / 3) 0 = (4599676419421066581, 1) := rSc_ok (c := 4599676419421066581) (by decide +kernel)
  unfold codeQ ofF
  rw [if_neg (by decide +kernel), h]
theorem code_two : codeQ (iq (-2)) = 13835058055282163712 := by
  have h : rS (iq (-2)) 0 = (13835058055282163712, 0) := rSc_ok (c := 4611686018427387904) (by decide +kernel)
  unfold codeQ ofF
  rw [if_neg (by decide +kernel), h]
theorem round2 : roundR [1 / 3, iq (-2)] = .tup [.p (.sl false 1 [.int .u64 4599676419421066581, .int .u64 13835058055282163712]), .p (.int .i64 0)] := by
  have h0 : atN [1 / 3, iq (-2)] 2 = 1 := by decide +kernel
  have hb : badR [1 / 3, iq (-2)] = false := by
    unfold badR
    rw [show [1 / 3, iq (-2)].length = 2 from rfl, h0]
    show (decide (0 < 2) && (!decide (iq (-2) = 0) && !nrm (codeQ (iq (-2))))) = false
    rw [code_two, show nrm 13835058055282163712 = true by decide]
    simp
  rw [roundR_fine hb]
  show AV.tup [.p (.sl false 1 [.int .u64 ((codeQ (1 / 3) : Nat) : Int), .int .u64 ((codeQ (iq (-2)) : Nat) : Int)]), .p (.int .i64 0)] = _
  rw [code_third, code_two]
  rfl

theorem certKnown_ok (which : Int) : CallP Try.prog 8 [.int .i64 which] (.p (.bool true)) [] := by
  have c1 := ceta_ok true true true true knM knB [4607182418800017408, 4607182418800017408] knM_sq knM_bm rfl knB_bl (okc (by decide)) (by omega) (by omega) (by decide)
  have c2 := ceta_ok true true true true knM knB [4607182418800017408, 9218868437227405312] knM_sq knM_bm rfl knB_bl (okc (by decide)) (by omega) (by omega) (by decide)
  have c3 := ceta_ok true true true true knM knB [4607182418800017408] knM_sq knM_bm rfl knB_bl (okc (by decide)) (by omega) (by omega) (by decide)
  have c4 := ceta_ok true true true true [[iq 0]] [iq 0] [0] (n := 1) ⟨rfl, fun i hi => by
    match i, hi with
    | 0, _ => rfl⟩ (fun i hi => by
    match i, hi with
    | 0, _ => exact ⟨bl1 (iq_bz (by decide) (by omega)), by decide⟩) rfl (bl1 (iq_bz (by decide) (by omega))) (okc (by decide)) (by omega) (by omega) (by decide)
  rw [eta1] at c1
  rw [eta2] at c2
  rw [eta3] at c3
  rw [eta4] at c4
  have r1 := cround_ok true [iq 0, iq 0] (k := 1) (bl2 (iq_bz (by decide) (by omega)) (iq_bz (by decide) (by omega))) (by omega) (by decide)
  have r2 := cround_ok true [1 / 3, iq (-2)] (k := 40) (bl2 ⟨by decide +kernel, by decide +kernel⟩ (iq_bz (by decide) (by omega))) (by omega) (by simp)
  rw [round1] at r1
  rw [round2] at r2
  have n1 := cnorm_ok true true knM knM_bm (by omega) (by omega) (by decide)
  rw [show normQ knM = iq 3 by decide +kernel] at n1
  have z1 := csize_ok true [iq (-7), iq 3] (k := 40) (bl2 (iq_bz (by decide) (by omega)) (iq_bz (by decide) (by omega))) (by omega) (by omega) (by simp)
  rw [show sizeQ [iq (-7), iq 3] = iq 7 by decide +kernel] at z1
  have q4 : Bz (1 / 4 : Rat) 40 := ⟨by decide +kernel, by decide +kernel⟩
  have rn : CallP Try.prog 48 [ratP 0] (.p (.bool true)) [] := by
    have := rnought_ok 0
    rwa [decide_eq_true rfl] at this
  obtain ⟨J, hJ⟩ : ∃ J : Nat, (J : Int) = which % 7 := ⟨(which % 7).toNat, by omega⟩
  have hJ7 : J < 7 := by omega
  have w7 := within16_ok which 7 (by omega) (by omega)
  rw [← hJ] at w7
  refine callG_of_vc (wr := wr0) Γok mixed Try.func8 (by kernel_rfl) rfl (by kernel_rfl) (le_of_ble rfl) (by simp) ?_
  refine SCall.pure (known16_ok) ?_
  refine SCmp.no (rfl) ?_
  refine SCall.pure (rint_ok 1 (by omega)) ?_
  refine SCall.pure (rint_ok (-2) (by omega)) ?_
  refine SCall.pure (rint_ok 0 (by omega)) ?_
  refine SCall.pure (rint_ok 1 (by omega)) ?_
  refine SCall.pure (rint_ok 0 (by omega)) ?_
  refine SCall.pure (rint_ok 1 (by omega)) ?_
  refine SView.all rfl ?_
  refine SView.all rfl ?_
  refine SView.all rfl ?_
  refine SView.all rfl ?_
  refine SCall.pureT (c1) (fun _ => rfl) ?_
  refine SCall.pureT (quarter16_ok) (fun _ => rfl) ?_
  refine SCall.pure (rint_ok 0 (by omega)) ?_
  refine SCall.pure (rint_ok 1 (by omega)) ?_
  refine SView.all rfl ?_
  refine SView.all rfl ?_
  refine SView.all rfl ?_
  refine SView.all rfl ?_
  refine SCall.pureT (c2) (fun _ => rfl) ?_
  refine SCall.pure (rint_ok 0 (by omega)) ?_
  refine SCall.pure (rint_ok 1 (by omega)) ?_
  refine SView.all rfl ?_
  refine SView.all rfl ?_
  refine SView.all rfl ?_
  refine SView.all rfl ?_
  refine SCall.pureT (c3) (fun _ => rfl) ?_
  refine SCall.pure (rint_ok 0 (by omega)) ?_
  refine SCall.pure (rint_ok 0 (by omega)) ?_
  refine SView.all rfl ?_
  refine SView.all rfl ?_
  refine SView.all rfl ?_
  refine SCall.pureT (c4) (fun _ => rfl) ?_
  refine SCall.pure (rint_ok 0 (by omega)) ?_
  refine SCall.pure (rint_ok 0 (by omega)) ?_
  refine SView.all rfl ?_
  refine SCall.pureT (r1) (fun _ => rfl) ?_
  refine SCall.pureT (third16_ok) (fun _ => rfl) ?_
  refine SDraw.mkX (by kernel_rfl) ?_
  repeat refine SOp.mk _ _ (And.intro rfl rfl) rfl ?_
  refine SOp.mk _ _ (SCall.pure (rint_ok (-2) (by omega)) (And.intro rfl rfl)) rfl ?_
  repeat refine SOp.mk _ _ (And.intro rfl rfl) rfl ?_
  refine SOp.mk _ _ (SView.all rfl <| SCall.pureT r2 (fun _ => rfl) (And.intro rfl rfl)) rfl ?_
  repeat refine SOp.mk _ _ (And.intro rfl rfl) rfl ?_
  refine SFin.mk (by kernel_rfl) ?_
  refine SDraw.mkX (by kernel_rfl) ?_
  repeat refine SOp.mk _ _ (And.intro rfl rfl) rfl ?_
  refine SOp.mk _ _ (SView.all rfl <| SView.all rfl <| SCall.pure n1 (And.intro rfl rfl)) rfl ?_
  refine SOp.mk _ _ (SCall.pure (rint_ok 3 (by omega)) (And.intro rfl rfl)) rfl ?_
  refine SOp.mk _ _ (SCall.pure (rsame_self (p := iq 3) (k := 40) (iq_bz (by decide) (by omega)) (by omega)) (And.intro rfl rfl)) rfl ?_
  refine SOp.mk _ _ (SCall.pure (rint_ok (-7) (by omega)) (And.intro rfl rfl)) rfl ?_
  refine SOp.mk _ _ (SCall.pure (rint_ok 3 (by omega)) (And.intro rfl rfl)) rfl ?_
  repeat refine SOp.mk _ _ (And.intro rfl rfl) rfl ?_
  refine SOp.mk _ _ (SView.all rfl <| SCall.pure z1 (And.intro rfl rfl)) rfl ?_
  refine SOp.mk _ _ (SCall.pure (rint_ok 7 (by omega)) (And.intro rfl rfl)) rfl ?_
  refine SOp.mk _ _ (SCall.pure (rsame_self (p := iq 7) (k := 40) (iq_bz (by decide) (by omega)) (by omega)) (And.intro rfl rfl)) rfl ?_
  repeat refine SOp.mk _ _ (And.intro rfl rfl) rfl ?_
  refine SOp.mk _ _ (SCmp.yes rfl (And.intro rfl rfl)) rfl ?_
  repeat refine SOp.mk _ _ (And.intro rfl rfl) rfl ?_
  refine SOp.mk _ _ (SCall.pure (rsame_self q4 (by omega)) (And.intro rfl rfl)) rfl ?_
  repeat refine SOp.mk _ _ (And.intro rfl rfl) rfl ?_
  refine SOp.mk _ _ (SCmp.yes rfl (And.intro rfl rfl)) rfl ?_
  repeat refine SOp.mk _ _ (And.intro rfl rfl) rfl ?_
  refine SOp.mk _ _ (SCmp.yes rfl (And.intro rfl rfl)) rfl ?_
  repeat refine SOp.mk _ _ (And.intro rfl rfl) rfl ?_
  refine SOp.mk _ _ (SCmp.yes rfl (And.intro rfl rfl)) rfl ?_
  repeat refine SOp.mk _ _ (And.intro rfl rfl) rfl ?_
  refine SOp.mk _ _ (SCall.pure (rn) (And.intro rfl rfl)) rfl ?_
  repeat refine SOp.mk _ _ (And.intro rfl rfl) rfl ?_
  refine SOp.mk _ _ (SCmp.yes rfl (And.intro rfl rfl)) rfl ?_
  repeat refine SOp.mk _ _ (And.intro rfl rfl) rfl ?_
  refine SOp.mk _ _ (SZ.mk 2 rfl (And.intro rfl rfl)) rfl ?_
  repeat refine SOp.mk _ _ (And.intro rfl rfl) rfl ?_
  refine SOp.mk _ _ (SCmp.yes rfl (And.intro rfl rfl)) rfl ?_
  repeat refine SOp.mk _ _ (And.intro rfl rfl) rfl ?_
  refine SOp.mk _ _ (SIdx.mk 0 _ rfl rfl (And.intro rfl rfl)) rfl ?_
  repeat refine SOp.mk _ _ (And.intro rfl rfl) rfl ?_
  refine SOp.mk _ _ (SCmp.yes rfl (And.intro rfl rfl)) rfl ?_
  repeat refine SOp.mk _ _ (And.intro rfl rfl) rfl ?_
  refine SOp.mk _ _ (SIdx.mk 1 _ rfl rfl (And.intro rfl rfl)) rfl ?_
  repeat refine SOp.mk _ _ (And.intro rfl rfl) rfl ?_
  refine SOp.mk _ _ (SCmp.yes rfl (And.intro rfl rfl)) rfl ?_
  repeat refine SOp.mk _ _ (And.intro rfl rfl) rfl ?_
  refine SOp.mk _ _ (SCmp.yes rfl (And.intro rfl rfl)) rfl ?_
  repeat refine SOp.mk _ _ (And.intro rfl rfl) rfl ?_
  refine SOp.mk _ _ (SZ.mk 2 rfl (And.intro rfl rfl)) rfl ?_
  repeat refine SOp.mk _ _ (And.intro rfl rfl) rfl ?_
  refine SOp.mk _ _ (SCmp.yes rfl (And.intro rfl rfl)) rfl ?_
  repeat refine SOp.mk _ _ (And.intro rfl rfl) rfl ?_
  refine SOp.mk _ _ (SIdx.mk 0 _ rfl rfl (And.intro rfl rfl)) rfl ?_
  repeat refine SOp.mk _ _ (And.intro rfl rfl) rfl ?_
  refine SOp.mk _ _ (SCmp.yes rfl (And.intro rfl rfl)) rfl ?_
  repeat refine SOp.mk _ _ (And.intro rfl rfl) rfl ?_
  refine SOp.mk _ _ (SIdx.mk 1 _ rfl rfl (And.intro rfl rfl)) rfl ?_
  repeat refine SOp.mk _ _ (And.intro rfl rfl) rfl ?_
  refine SOp.mk _ _ (SCmp.yes rfl (And.intro rfl rfl)) rfl ?_
  repeat refine SOp.mk _ _ (And.intro rfl rfl) rfl ?_
  refine SFin.mk (by kernel_rfl) ?_
  refine SZ.mk 7 rfl ?_
  refine SCall.pure (w7) ?_
  refine SPos.mk J rfl hJ7 ?_
  refine SIdx.mk J (.bool true) rfl (by
    match J, hJ7 with
    | 0, _ => rfl
    | 1, _ => rfl
    | 2, _ => rfl
    | 3, _ => rfl
    | 4, _ => rfl
    | 5, _ => rfl
    | 6, _ => rfl) ?_
  exact SRet.pure (.p _ (.bool _))
end Go.Proofs.Ytacklcbgkigcaaa
