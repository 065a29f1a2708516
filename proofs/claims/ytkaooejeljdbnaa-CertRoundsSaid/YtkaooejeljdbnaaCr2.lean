/- Cert: rounding. -/
import Derived.Test.YtkaooejeljdbnaaCr0
namespace Go.Proofs.Ytkaooejeljdbnaa
open Go
set_option linter.unusedVariables false
set_option linter.unusedSimpArgs false
set_option maxRecDepth 10000

/-- Neither infinite nor below all normal ones. -/
def nrm (f : Nat) : Bool := decide (0 < f / 4503599627370496 % 2048 ∧ f / 4503599627370496 % 2048 < 2047)
theorem normal_ok (f : Nat) (hf : f < 18446744073709551616) : CallP Try.prog 94 [.int .u64 f] (.p (.bool (nrm f))) [] := by
  refine callG_of_vc (wr := wr0) Γok mixed Try.func94 (by kernel_rfl) rfl (by kernel_rfl) (le_of_ble rfl) (by simp) ?_
  refine SShr52 ?_
  refine SWrap.and (f / 4503599627370496) 2047 _ rfl rfl (by omega) (by omega) (low11 _) ?_
  unfold nrm
  by_cases h1 : 0 < f / 4503599627370496 % 2048
  · refine SCmp.yes (decide_eq_true (by omega)) ?_
    by_cases h2 : f / 4503599627370496 % 2048 < 2047
    · refine SCmp.yes (decide_eq_true (by omega)) ?_
      rw [decide_eq_true (And.intro h1 h2)]
      exact SRet.pure (.tf _)
    · refine SCmp.no (decide_eq_false (by omega)) ?_
      rw [decide_eq_false (fun h => h2 h.2)]
      exact SRet.pure (.tf _)
  · refine SCmp.no (decide_eq_false (by omega)) ?_
    rw [decide_eq_false (fun h => h1 h.1)]
    exact SRet.pure (.tf _)

/-- The first of the greatest size. -/
def atN (l : List Rat) : Nat → Nat
  | 0 => 0
  | i + 1 => if (l.getD (atN l i) 0).abs < (l.getD i 0).abs then i else atN l i
theorem atN_lt (l : List Rat) : ∀ i, 0 < i → atN l i < i := by
  intro i
  induction i with
  | zero => intro h; omega
  | succ i ih =>
    intro _
    unfold atN
    split
    · omega
    · rcases Nat.eq_zero_or_pos i with h | h
      · subst h; exact Nat.zero_lt_one
      · exact Nat.lt_succ_of_lt (ih h)
theorem atN_le (l : List Rat) (i : Nat) (h : i < l.length) : atN l i < l.length := by
  rcases Nat.eq_zero_or_pos i with e | e
  · subst e; exact Nat.lt_of_le_of_lt (Nat.zero_le _) h
  · have := atN_lt l i e; omega
noncomputable def codeQ (q : Rat) : Nat := (ofF q 0).1
noncomputable def fls (l : List Rat) : List PV := l.map fun q => .int .u64 ((codeQ q : Nat) : Int)
theorem fls_take (l : List Rat) {i : Nat} (h : i < l.length) : fls (l.take (i + 1)) = fls (l.take i) ++ [.int .u64 ((codeQ (l.getD i 0) : Nat) : Int)] := by rw [take_snoc l h, fls, fls, List.map_append]; rfl
theorem fls_get {l : List Rat} {i : Nat} (h : i < l.length) : (fls l)[i]? = some (.int .u64 ((codeQ (l.getD i 0) : Nat) : Int)) := by
  simp [fls, List.getD, List.getElem?_eq_getElem h]
theorem fls_length (l : List Rat) : (fls l).length = l.length := by simp [fls]
theorem pers_fls (l : List Rat) : ∀ e ∈ fls l, ∀ c ∈ e.cells, Pers c := fun e he c hc => by
  obtain ⟨q, _, rfl⟩ := List.mem_map.1 he
  simp [PV.cells] at hc; subst hc
  exact .int _ _
/-- Is the answer refused? -/
noncomputable def badR (l : List Rat) : Bool := decide (0 < l.length) && (!decide (l.getD (atN l l.length) 0 = 0) && !nrm (codeQ (l.getD (atN l l.length) 0)))
noncomputable def roundR (l : List Rat) : AV := match badR l with
  | true => .tup [.p (.sl false 1 []), .p (.int .i64 10)]
  | false => .tup [.p (.sl false 1 (fls l)), .p (.int .i64 0)]
theorem roundR_bad {l : List Rat} (h : badR l = true) : roundR l = .tup [.p (.sl false 1 []), .p (.int .i64 10)] := by unfold roundR; rw [h]
theorem roundR_fine {l : List Rat} (h : badR l = false) : roundR l = .tup [.p (.sl false 1 (fls l)), .p (.int .i64 0)] := by unfold roundR; rw [h]
theorem SRet.bad {H : Hp} {l : List Rat} (h : badR l = true) : SRet [] (.tup [.emp, .p (.int .i64 10)]) H (roundR l) [] := by
  rw [roundR_bad h]
  exact SRet.pure (.tup rfl fun i c d e1 e2 => by
    match i, e1, e2 with
    | 0, e1, e2 => cases e1; cases e2; exact .emp _
    | 1, e1, e2 => cases e1; cases e2; exact .p _ (.int _ _))
theorem SRet.fine {H : Hp} {T : TypeId} {l : List Rat} {n : Nat} (h : badR l = false) (hn : n = l.length) (h0 : look H 0 = .vec T 1 (fls l)) : SRet [] (.tup [.vec 0 1 0 n, .p (.int .i64 0)]) H (roundR l) [] := by
  rw [roundR_fine h]
  subst hn
  exact SRet.pure (.tup rfl fun i c d e1 e2 => by
    match i, e1, e2 with
    | 0, e1, e2 => cases e1; cases e2; exact .frz h0 (by simp) (by simp [fls]) (pers_fls l) (by rw [List.drop_zero]; exact List.take_of_length_le (by simp [fls]))
    | 1, e1, e2 => cases e1; cases e2; exact .p _ (.int _ _))
theorem codeQ_lt (q : Rat) : codeQ q < 18446744073709551616 := (ok_of q 0).1

theorem SMake.u64 {n : Int} {K : Nat → Prop} (j : Nat) (hi : n = j) (h : j ≤ 1099511627776) (hk : K j) : SMake n 8 K := .mk j hi (by omega) (by omega) hk
theorem cround_ok (m : Bool) (l : List Rat) {k : Nat} (hl : Bl l k) (hk : k ≤ 60000) (hn : l.length ≤ 1000000) : CallP Try.prog 40 [ratsM m l] (roundR l) [] := by
  refine callG_of_vc (wr := wr0) Γok mixed Try.func40 (by kernel_rfl) rfl (by kernel_rfl) (le_of_ble rfl) (by simp) ?_
  refine SZ.mk (l.length : Int) (by simp) ?_
  refine SZ.mk (l.length : Int) rfl ?_
  refine SLt.mk (by simp) ?_
  refine SMake.u64 l.length rfl (by omega) ?_
  refine SZ.mk (l.length : Int) (by simp) ?_
  refine SLoop.mk Nat (fun i => ([(0, .p (ratsM m l)), (4, .vec 0 1 0 l.length), (5, .p (.int .i64 (atN l i))), (11, .p (ratsM m l)), (12, .p (.int .i64 l.length)), (13, .p (.int .i64 i))], [.vec 50 1 (fls (l.take i) ++ List.replicate (l.length - i) (PV.int .u64 0))]))
    (fun i => i ≤ l.length) (fun i => l.length - i) 0 [0] (Nat.zero_le _) ⟨rfl, by simp, rfl, rfl, rfl, ⟨rfl, rfl, rfl, rfl, rfl, rfl, trivial⟩, ⟨rfl, trivial⟩⟩ ?_
  intro i h1
  have h1 : i ≤ l.length := h1
  by_cases hi : i < l.length
  · refine SCmp.yes (decide_eq_true (by omega)) ?_
    have bq := hl i hi
    have e := fls_take l hi
    have ha := atN_le l i hi
    have bp := hl _ ha
    have ea : atN l (i + 1) = if (l.getD (atN l i) 0).abs < (l.getD i 0).abs then i else atN l i := rfl
    obtain ⟨q, hq⟩ : ∃ q, q = l.getD i 0 := ⟨_, rfl⟩
    have hv : (rats l)[i]? = some (ratP q) := by rw [List.getElem?_map, List.getElem?_eq_getElem hi, hq]; simp [List.getD, List.getElem?_eq_getElem hi]
    rw [← hq] at e bq ea
    obtain ⟨at', hat⟩ : ∃ a, a = atN l i := ⟨_, rfl⟩
    rw [← hat] at ha bp ea ⊢
    obtain ⟨p, hp⟩ : ∃ p, p = l.getD at' 0 := ⟨_, rfl⟩
    have hv2 : (rats l)[at']? = some (ratP p) := by rw [List.getElem?_map, List.getElem?_eq_getElem ha, hp]; simp [List.getD, List.getElem?_eq_getElem ha]
    rw [← hp] at bp ea
    refine SIdx.mk i (ratP q) rfl hv ?_
    refine SCall.pureT (sfof_ok q 0 bq (by omega)) (fun _ => rfl) ?_
    refine SPos.mk i rfl hi ?_
    refine SLt.mk (by simp [fls]; omega) ?_
    refine SEs.mk _ (fill_set _ _ _ hi (by simp [fls]; omega)) ?_
    refine SDraw.mk (by kernel_rfl) ?_
    repeat refine SOp.mk _ _ (And.intro rfl rfl) rfl ?_
    refine SOp.mk _ _ (SCall.pure (vabs_ok q bq (by omega)) (And.intro rfl rfl)) rfl ?_
    repeat refine SOp.mk _ _ (And.intro rfl rfl) rfl ?_
    refine SOp.mk _ _ (SIdx.mk at' (ratP p) rfl hv2 (And.intro rfl rfl)) rfl ?_
    repeat refine SOp.mk _ _ (And.intro rfl rfl) rfl ?_
    refine SOp.mk _ _ (SCall.pure (vabs_ok p bp (by omega)) (And.intro rfl rfl)) rfl ?_
    repeat refine SOp.mk _ _ (And.intro rfl rfl) rfl ?_
    refine SOp.mk _ _ (SCall.pure (ratcmp_ok q.abs p.abs bq.abs.sz bp.abs.sz (by omega)) (And.intro rfl rfl)) rfl ?_
    repeat refine SOp.mk _ _ (And.intro rfl rfl) rfl ?_
    by_cases hc : p.abs < q.abs
    · refine SOp.mk _ _ (SCmp.yes (decide_eq_true (cmpQ_pos.2 hc)) (And.intro rfl rfl)) rfl ?_
      rw [if_pos hc] at ea
      refine SWrap.i64z ((i + 1 : Nat) : Int) (by omega) (by omega) ?_
      exact ⟨i + 1, [0], hi, by show l.length - (i + 1) < l.length - i; omega, ⟨rfl, by simp, rfl, rfl, rfl, ⟨rfl, rfl, by rw [ea]; rfl, rfl, rfl, rfl, trivial⟩, ⟨by rw [e]; rfl, trivial⟩⟩⟩
    · refine SOp.mk _ _ (SCmp.no (decide_eq_false fun h => hc (cmpQ_pos.1 h)) (And.intro rfl rfl)) rfl ?_
      rw [if_neg hc] at ea
      refine SWrap.i64z ((i + 1 : Nat) : Int) (by omega) (by omega) ?_
      exact ⟨i + 1, [0], hi, by show l.length - (i + 1) < l.length - i; omega, ⟨rfl, by simp, rfl, rfl, rfl, ⟨rfl, rfl, by rw [ea]; rfl, rfl, rfl, rfl, trivial⟩, ⟨by rw [e]; rfl, trivial⟩⟩⟩
  · refine SCmp.no (decide_eq_false (by omega)) ?_
    have : i = l.length := by omega
    subst this
    rw [List.take_length, Nat.sub_self, List.replicate_zero, List.append_nil]
    refine SZ.mk (l.length : Int) (by simp) ?_
    by_cases h0 : 0 < l.length
    · refine SCmp.yes (decide_eq_true (by omega)) ?_
      have ha := atN_lt l l.length h0
      have hb : badR l = (!decide (l.getD (atN l l.length) 0 = 0) && !nrm (codeQ (l.getD (atN l l.length) 0))) := by unfold badR; rw [decide_eq_true h0]; rfl
      have hf := fls_get ha
      obtain ⟨at', hat⟩ : ∃ a, a = atN l l.length := ⟨_, rfl⟩
      rw [← hat] at ha hb hf ⊢
      obtain ⟨p, hp⟩ : ∃ p, p = l.getD at' 0 := ⟨_, rfl⟩
      have hv2 : (rats l)[at']? = some (ratP p) := by rw [List.getElem?_map, List.getElem?_eq_getElem ha, hp]; simp [List.getD, List.getElem?_eq_getElem ha]
      rw [← hp] at hb hf
      refine SIdx.mk at' (ratP p) rfl hv2 ?_
      refine SZ.mk (nlen p.num.natAbs : Int) (by simp) ?_
      by_cases hp0 : p = 0
      · rw [hp0] at hb ⊢
        refine SCmp.no (decide_eq_false (by rw [show (0 : Rat).num.natAbs = 0 from rfl, nlen_zero_iff.2 rfl]; omega)) ?_
        exact SRet.fine hb rfl rfl
      · have hnz : nlen p.num.natAbs ≠ 0 := fun h => hp0 (by have := nlen_zero_iff.1 h; exact Rat.num_eq_zero.1 (by omega))
        refine SCmp.yes (decide_eq_true (by omega)) ?_
        refine SPos.mk at' rfl ha ?_
        refine SIdx.mk at' _ rfl hf ?_
        refine SCall.pure (normal_ok (codeQ p) (codeQ_lt p)) ?_
        rw [decide_eq_false hp0] at hb
        cases hc : nrm (codeQ p) with
        | true =>
          rw [hc] at hb
          refine SCmp.no (rfl) ?_
          exact SRet.fine hb rfl rfl
        | false =>
          rw [hc] at hb
          refine SCmp.yes (rfl) ?_
          exact SRet.bad hb
    · refine SCmp.no (decide_eq_false (by omega)) ?_
      exact SRet.fine (by unfold badR; rw [decide_eq_false h0]; rfl) rfl rfl

theorem rround_ok (m : Bool) (l : List Rat) {k : Nat} (hl : Bl l k) (hk : k ≤ 60000) (hn : l.length ≤ 1000000) : CallP Try.prog 41 [ratsM m l] (roundR l) [] := by
  refine callG_of_vc (wr := wr0) Γok mixed Try.func41 (by kernel_rfl) rfl (by kernel_rfl) (le_of_ble rfl) (by simp) ?_
  refine SLoop.mkT Nat (fun i => ([(0, .p (ratsM m l)), (4, .vec 0 1 0 i), (5, .p (.int .i64 (atN l i))), (6, .p (.int .i64 i))], [.vec 50 1 (fls (l.take i))]))
    (fun i => i ≤ l.length) (fun i => l.length - i) 0 [0] _ _ (.step 4 50 1 rfl (.done _ _)) (Nat.zero_le _) ⟨rfl, by simp, rfl, rfl, rfl, ⟨rfl, rfl, rfl, rfl, trivial⟩, ⟨rfl, trivial⟩⟩ ?_
  intro i h1
  have h1 : i ≤ l.length := h1
  refine SZ.mk (l.length : Int) (by simp) ?_
  by_cases hi : i < l.length
  · refine SCmp.yes (decide_eq_true (by omega)) ?_
    have bq := hl i hi
    have e := fls_take l hi
    have ha := atN_le l i hi
    have bp := hl _ ha
    have ea : atN l (i + 1) = if (l.getD (atN l i) 0).abs < (l.getD i 0).abs then i else atN l i := rfl
    obtain ⟨q, hq⟩ : ∃ q, q = l.getD i 0 := ⟨_, rfl⟩
    have hv : (rats l)[i]? = some (ratP q) := by rw [List.getElem?_map, List.getElem?_eq_getElem hi, hq]; simp [List.getD, List.getElem?_eq_getElem hi]
    rw [← hq] at e bq ea
    obtain ⟨at', hat⟩ : ∃ a, a = atN l i := ⟨_, rfl⟩
    rw [← hat] at ha bp ea ⊢
    obtain ⟨p, hp⟩ : ∃ p, p = l.getD at' 0 := ⟨_, rfl⟩
    have hv2 : (rats l)[at']? = some (ratP p) := by rw [List.getElem?_map, List.getElem?_eq_getElem ha, hp]; simp [List.getD, List.getElem?_eq_getElem ha]
    rw [← hp] at bp ea
    refine SIdx.mk i (ratP q) rfl hv ?_
    refine SCall.pureT (rfof_ok q 0 bq (by omega)) (fun _ => rfl) ?_
    refine SEqN.mk (by simp [fls]; omega) ?_
    refine SView.all rfl ?_
    refine SRoom.mk (by simp [fls]; omega) (by simp [fls]; omega) ?_
    refine SEs.mk _ e.symm ?_
    refine SZN.mk (i + 1) (by simp [fls]; omega) ?_
    refine SDraw.mk (by kernel_rfl) ?_
    repeat refine SOp.mk _ _ (And.intro rfl rfl) rfl ?_
    refine SOp.mk _ _ (SIdx.mk i (ratP q) rfl hv (And.intro rfl rfl)) rfl ?_
    repeat refine SOp.mk _ _ (And.intro rfl rfl) rfl ?_
    refine SOp.mk _ _ (SCall.pure (rabs_ok q bq (by omega)) (And.intro rfl rfl)) rfl ?_
    repeat refine SOp.mk _ _ (And.intro rfl rfl) rfl ?_
    refine SOp.mk _ _ (SIdx.mk at' (ratP p) rfl hv2 (And.intro rfl rfl)) rfl ?_
    repeat refine SOp.mk _ _ (And.intro rfl rfl) rfl ?_
    refine SOp.mk _ _ (SCall.pure (rabs_ok p bp (by omega)) (And.intro rfl rfl)) rfl ?_
    repeat refine SOp.mk _ _ (And.intro rfl rfl) rfl ?_
    refine SOp.mk _ _ (SCall.pure (rcmpq_ok q.abs p.abs bq.abs bp.abs (by omega)) (And.intro rfl rfl)) rfl ?_
    repeat refine SOp.mk _ _ (And.intro rfl rfl) rfl ?_
    by_cases hc : p.abs < q.abs
    · refine SOp.mk _ _ (SCmp.yes (decide_eq_true (cmpQ_pos.2 hc)) (And.intro rfl rfl)) rfl ?_
      rw [if_pos hc] at ea
      refine SWrap.i64z ((i + 1 : Nat) : Int) (by omega) (by omega) ?_
      exact ⟨i + 1, [2], hi, by show l.length - (i + 1) < l.length - i; omega, ⟨rfl, by simp, rfl, rfl, rfl, ⟨rfl, rfl, by rw [ea]; rfl, rfl, trivial⟩, ⟨rfl, trivial⟩⟩⟩
    · refine SOp.mk _ _ (SCmp.no (decide_eq_false fun h => hc (cmpQ_pos.1 h)) (And.intro rfl rfl)) rfl ?_
      rw [if_neg hc] at ea
      refine SWrap.i64z ((i + 1 : Nat) : Int) (by omega) (by omega) ?_
      exact ⟨i + 1, [2], hi, by show l.length - (i + 1) < l.length - i; omega, ⟨rfl, by simp, rfl, rfl, rfl, ⟨rfl, rfl, by rw [ea]; rfl, rfl, trivial⟩, ⟨rfl, trivial⟩⟩⟩
  · refine SCmp.no (decide_eq_false (by omega)) ?_
    have : i = l.length := by omega
    subst this
    rw [List.take_length]
    refine SZ.mk (l.length : Int) (by simp) ?_
    by_cases h0 : 0 < l.length
    · refine SCmp.yes (decide_eq_true (by omega)) ?_
      have ha := atN_lt l l.length h0
      have hb : badR l = (!decide (l.getD (atN l l.length) 0 = 0) && !nrm (codeQ (l.getD (atN l l.length) 0))) := by unfold badR; rw [decide_eq_true h0]; rfl
      have hf := fls_get ha
      obtain ⟨at', hat⟩ : ∃ a, a = atN l l.length := ⟨_, rfl⟩
      rw [← hat] at ha hb hf ⊢
      obtain ⟨p, hp⟩ : ∃ p, p = l.getD at' 0 := ⟨_, rfl⟩
      have hv2 : (rats l)[at']? = some (ratP p) := by rw [List.getElem?_map, List.getElem?_eq_getElem ha, hp]; simp [List.getD, List.getElem?_eq_getElem ha]
      rw [← hp] at hb hf
      refine SIdx.mk at' (ratP p) rfl hv2 ?_
      refine SCall.pure (rnought_ok p) ?_
      by_cases hp0 : p = 0
      · rw [decide_eq_true hp0] at hb ⊢
        refine SCmp.no (rfl) ?_
        exact SRet.fine hb rfl rfl
      · rw [decide_eq_false hp0] at hb ⊢
        refine SCmp.yes (rfl) ?_
        refine SPos.mk at' rfl ha ?_
        refine SIdx.mk at' _ rfl hf ?_
        have hlt := codeQ_lt p
        refine SWrap.not (codeQ p) 9223372036854775808 _ rfl rfl hlt (by omega) (low63 _) ?_
        by_cases c1 : codeQ p % 9223372036854775808 < 4503599627370496
        · refine SCmp.yes (decide_eq_true (by omega)) ?_
          refine SRet.bad (hb.trans ?_)
          rw [nrm, decide_eq_false (by omega)]; rfl
        · refine SCmp.no (decide_eq_false (by omega)) ?_
          by_cases c2 : 9218868437227405312 ≤ codeQ p % 9223372036854775808
          · refine SCmp.yes (decide_eq_true (by omega)) ?_
            refine SRet.bad (hb.trans ?_)
            rw [nrm, decide_eq_false (by omega)]; rfl
          · refine SCmp.no (decide_eq_false (by omega)) ?_
            refine SRet.fine (hb.trans ?_) rfl rfl
            rw [nrm, decide_eq_true (by omega)]; rfl
    · refine SCmp.no (decide_eq_false (by omega)) ?_
      exact SRet.fine (by unfold badR; rw [decide_eq_false h0]; rfl) rfl rfl
end Go.Proofs.Ytkaooejeljdbnaa
