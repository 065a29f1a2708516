/- FTWhole: what its proof needs, part 6. -/
import Derived.Test.YtnilcfiemgmfdaaGreatHTWhole5
set_option linter.unusedVariables false
set_option linter.unusedSimpArgs false
namespace Go.Proofs.YtnilcfiemgmfdaaGreat
open Go
set_option linter.unusedVariables false
set_option linter.unusedSimpArgs false
set_option maxRecDepth 10000
/-- Neither infinite nor below all normal ones. -/
def nrm (f : Nat) : Bool := decide (0 < f / 4503599627370496 % 2048 ∧ f / 4503599627370496 % 2048 < 2047)
theorem normal_ok (f : Nat) (hf : f < 18446744073709551616) : CallP Tryz.prog 122 [.int .u64 f] (.p (.bool (nrm f))) [] := by
  refine callG_of_vc (wr := wr0) Γok mixed Tryz.func122 (by kernel_rfl) rfl (by kernel_rfl) (le_of_ble rfl) (by simp) ?_
  refine SShr52 ?_
  refine SWrap.and (f / 4503599627370496) 2047 _ rfl rfl (by omega) (by omega) (low11 _) ?_
  unfold nrm
  by_cases h1 : 0 < f / 4503599627370496 % 2048
  · refine SCmp.yes (decide_eq_true (by omega)) ?_
    by_cases h2 : f / 4503599627370496 % 2048 < 2047
    · refine SCmp.yes (decide_eq_true (by omega)) ?_
      rw [decide_eq_true (And.intro h1 h2)]
      exact SRet.pure (.tf _)
    · refine SCmp.no (decide_eq_false (by omega)) ?_
      rw [decide_eq_false (fun h => h2 h.2)]
      exact SRet.pure (.tf _)
  · refine SCmp.no (decide_eq_false (by omega)) ?_
    rw [decide_eq_false (fun h => h1 h.1)]
    exact SRet.pure (.tf _)
/-- The first of the greatest size. -/
def atN (l : List Rat) : Nat → Nat
  | 0 => 0
  | i + 1 => if (l.getD (atN l i) 0).abs < (l.getD i 0).abs then i else atN l i
theorem atN_lt (l : List Rat) : ∀ i, 0 < i → atN l i < i := by
  intro i
  induction i with
  | zero => intro h; omega
  | succ i ih =>
    intro _
    unfold atN
    split
    · omega
    · rcases Nat.eq_zero_or_pos i with h | h
      · subst h; exact Nat.zero_lt_one
      · exact Nat.lt_succ_of_lt (ih h)
theorem atN_le (l : List Rat) (i : Nat) (h : i < l.length) : atN l i < l.length := by
  rcases Nat.eq_zero_or_pos i with e | e
  · subst e; exact Nat.lt_of_le_of_lt (Nat.zero_le _) h
  · have := atN_lt l i e; omega
noncomputable def codeQ (q : Rat) : Nat := (ofF q 0).1
noncomputable def fls (l : List Rat) : List PV := l.map fun q => .int .u64 ((codeQ q : Nat) : Int)
theorem fls_take (l : List Rat) {i : Nat} (h : i < l.length) : fls (l.take (i + 1)) = fls (l.take i) ++ [.int .u64 ((codeQ (l.getD i 0) : Nat) : Int)] := by rw [take_snoc l h, fls, fls, List.map_append]; rfl
theorem fls_get {l : List Rat} {i : Nat} (h : i < l.length) : (fls l)[i]? = some (.int .u64 ((codeQ (l.getD i 0) : Nat) : Int)) := by
  simp [fls, List.getD, List.getElem?_eq_getElem h]
theorem pers_fls (l : List Rat) : ∀ e ∈ fls l, ∀ c ∈ e.cells, Pers c := fun e he c hc => by
  obtain ⟨q, _, rfl⟩ := List.mem_map.1 he
  simp [PV.cells] at hc; subst hc
  exact .int _ _
/-- Is the answer refused? -/
noncomputable def badR (l : List Rat) : Bool := decide (0 < l.length) && (!decide (l.getD (atN l l.length) 0 = 0) && !nrm (codeQ (l.getD (atN l l.length) 0)))
noncomputable def roundR (l : List Rat) : AV := match badR l with
  | true => .tup [.p (.sl false 1 []), .p (.int .i64 10)]
  | false => .tup [.p (.sl false 1 (fls l)), .p (.int .i64 0)]
theorem roundR_bad {l : List Rat} (h : badR l = true) : roundR l = .tup [.p (.sl false 1 []), .p (.int .i64 10)] := by unfold roundR; rw [h]
theorem roundR_fine {l : List Rat} (h : badR l = false) : roundR l = .tup [.p (.sl false 1 (fls l)), .p (.int .i64 0)] := by unfold roundR; rw [h]
theorem SRet.bad {H : Hp} {l : List Rat} (h : badR l = true) : SRet [] (.tup [.emp, .p (.int .i64 10)]) H (roundR l) [] := by
  rw [roundR_bad h]
  exact SRet.pure (.tup rfl fun i c d e1 e2 => by
    match i, e1, e2 with
    | 0, e1, e2 => cases e1; cases e2; exact .emp _
    | 1, e1, e2 => cases e1; cases e2; exact .p _ (.int _ _))
theorem SRet.fine {H : Hp} {T : TypeId} {l : List Rat} {n : Nat} (h : badR l = false) (hn : n = l.length) (h0 : look H 0 = .vec T 1 (fls l)) : SRet [] (.tup [.vec 0 1 0 n, .p (.int .i64 0)]) H (roundR l) [] := by
  rw [roundR_fine h]
  subst hn
  exact SRet.pure (.tup rfl fun i c d e1 e2 => by
    match i, e1, e2 with
    | 0, e1, e2 => cases e1; cases e2; exact .frz h0 (by simp) (by simp [fls]) (pers_fls l) (by rw [List.drop_zero]; exact List.take_of_length_le (by simp [fls]))
    | 1, e1, e2 => cases e1; cases e2; exact .p _ (.int _ _))
theorem codeQ_lt (q : Rat) : codeQ q < 18446744073709551616 := (ok_of q 0).1
theorem SMake.u64 {n : Int} {K : Nat → Prop} (j : Nat) (hi : n = j) (h : j ≤ 1099511627776) (hk : K j) : SMake n 8 K := .mk j hi (by omega) (by omega) hk
theorem cround_ok (m : Bool) (l : List Rat) {k : Nat} (hl : Bl l k) (hk : k ≤ 60000) (hn : l.length ≤ 1000000) : CallP Tryz.prog 54 [ratsM m l] (roundR l) [] := by
  refine callG_of_vc (wr := wr0) Γok mixed Tryz.func54 (by kernel_rfl) rfl (by kernel_rfl) (le_of_ble rfl) (by simp) ?_
  refine SZ.mk (l.length : Int) (by simp) ?_
  refine SZ.mk (l.length : Int) rfl ?_
  refine SLt.mk (by simp) ?_
  refine SMake.u64 l.length rfl (by omega) ?_
  refine SZ.mk (l.length : Int) (by simp) ?_
  refine SLoop.mk Nat (fun i => ([(0, .p (ratsM m l)), (4, .vec 0 1 0 l.length), (5, .p (.int .i64 (atN l i))), (11, .p (ratsM m l)), (12, .p (.int .i64 l.length)), (13, .p (.int .i64 i))], [.vec 61 1 (fls (l.take i) ++ List.replicate (l.length - i) (PV.int .u64 0))]))
    (fun i => i ≤ l.length) (fun i => l.length - i) 0 [0] (Nat.zero_le _) ⟨rfl, by simp, rfl, rfl, rfl, ⟨rfl, rfl, rfl, rfl, rfl, rfl, trivial⟩, ⟨rfl, trivial⟩⟩ ?_
  intro i h1
  have h1 : i ≤ l.length := h1
  by_cases hi : i < l.length
  · refine SCmp.yes (decide_eq_true (by omega)) ?_
    have bq := hl i hi
    have e := fls_take l hi
    have ha := atN_le l i hi
    have bp := hl _ ha
    have ea : atN l (i + 1) = if (l.getD (atN l i) 0).abs < (l.getD i 0).abs then i else atN l i := rfl
    obtain ⟨q, hq⟩ : ∃ q, q = l.getD i 0 := ⟨_, rfl⟩
    have hv : (rats l)[i]? = some (ratP q) := by rw [List.getElem?_map, List.getElem?_eq_getElem hi, hq]; simp [List.getD, List.getElem?_eq_getElem hi]
    rw [← hq] at e bq ea
    obtain ⟨at', hat⟩ : ∃ a, a = atN l i := ⟨_, rfl⟩
    rw [← hat] at ha bp ea ⊢
    obtain ⟨p, hp⟩ : ∃ p, p = l.getD at' 0 := ⟨_, rfl⟩
    have hv2 : (rats l)[at']? = some (ratP p) := by rw [List.getElem?_map, List.getElem?_eq_getElem ha, hp]; simp [List.getD, List.getElem?_eq_getElem ha]
    rw [← hp] at bp ea
    refine SIdx.mk i (ratP q) rfl hv ?_
    refine SCall.pureT (sfof_ok q 0 bq (by omega)) (fun _ => rfl) ?_
    refine SPos.mk i rfl hi ?_
    refine SLt.mk (by simp [fls]; omega) ?_
    refine SEs.mk _ (fill_set _ _ _ hi (by simp [fls]; omega)) ?_
    refine SDraw.mk (by kernel_rfl) ?_
    repeat refine SOp.mk _ _ (And.intro rfl rfl) rfl ?_
    refine SOp.mk _ _ (SCall.pure (vabs_ok q bq (by omega)) (And.intro rfl rfl)) rfl ?_
    repeat refine SOp.mk _ _ (And.intro rfl rfl) rfl ?_
    refine SOp.mk _ _ (SIdx.mk at' (ratP p) rfl hv2 (And.intro rfl rfl)) rfl ?_
    repeat refine SOp.mk _ _ (And.intro rfl rfl) rfl ?_
    refine SOp.mk _ _ (SCall.pure (vabs_ok p bp (by omega)) (And.intro rfl rfl)) rfl ?_
    repeat refine SOp.mk _ _ (And.intro rfl rfl) rfl ?_
    refine SOp.mk _ _ (SCall.pure (ratcmp_ok q.abs p.abs bq.abs.sz bp.abs.sz (by omega)) (And.intro rfl rfl)) rfl ?_
    repeat refine SOp.mk _ _ (And.intro rfl rfl) rfl ?_
    by_cases hc : p.abs < q.abs
    · refine SOp.mk _ _ (SCmp.yes (decide_eq_true (cmpQ_pos.2 hc)) (And.intro rfl rfl)) rfl ?_
      rw [if_pos hc] at ea
      refine SWrap.i64z ((i + 1 : Nat) : Int) (by omega) (by omega) ?_
      exact ⟨i + 1, [0], hi, by show l.length - (i + 1) < l.length - i; omega, ⟨rfl, by simp, rfl, rfl, rfl, ⟨rfl, rfl, by rw [ea]; rfl, rfl, rfl, rfl, trivial⟩, ⟨by rw [e]; rfl, trivial⟩⟩⟩
    · refine SOp.mk _ _ (SCmp.no (decide_eq_false fun h => hc (cmpQ_pos.1 h)) (And.intro rfl rfl)) rfl ?_
      rw [if_neg hc] at ea
      refine SWrap.i64z ((i + 1 : Nat) : Int) (by omega) (by omega) ?_
      exact ⟨i + 1, [0], hi, by show l.length - (i + 1) < l.length - i; omega, ⟨rfl, by simp, rfl, rfl, rfl, ⟨rfl, rfl, by rw [ea]; rfl, rfl, rfl, rfl, trivial⟩, ⟨by rw [e]; rfl, trivial⟩⟩⟩
  · refine SCmp.no (decide_eq_false (by omega)) ?_
    have : i = l.length := by omega
    subst this
    rw [List.take_length, Nat.sub_self, List.replicate_zero, List.append_nil]
    refine SZ.mk (l.length : Int) (by simp) ?_
    by_cases h0 : 0 < l.length
    · refine SCmp.yes (decide_eq_true (by omega)) ?_
      have ha := atN_lt l l.length h0
      have hb : badR l = (!decide (l.getD (atN l l.length) 0 = 0) && !nrm (codeQ (l.getD (atN l l.length) 0))) := by unfold badR; rw [decide_eq_true h0]; rfl
      have hf := fls_get ha
      obtain ⟨at', hat⟩ : ∃ a, a = atN l l.length := ⟨_, rfl⟩
      rw [← hat] at ha hb hf ⊢
      obtain ⟨p, hp⟩ : ∃ p, p = l.getD at' 0 := ⟨_, rfl⟩
      have hv2 : (rats l)[at']? = some (ratP p) := by rw [List.getElem?_map, List.getElem?_eq_getElem ha, hp]; simp [List.getD, List.getElem?_eq_getElem ha]
      rw [← hp] at hb hf
      refine SIdx.mk at' (ratP p) rfl hv2 ?_
      refine SZ.mk (nlen p.num.natAbs : Int) (by simp) ?_
      by_cases hp0 : p = 0
      · rw [hp0] at hb ⊢
        refine SCmp.no (decide_eq_false (by rw [show (0 : Rat).num.natAbs = 0 from rfl, nlen_zero_iff.2 rfl]; omega)) ?_
        exact SRet.fine hb rfl rfl
      · have hnz : nlen p.num.natAbs ≠ 0 := fun h => hp0 (by have := nlen_zero_iff.1 h; exact Rat.num_eq_zero.1 (by omega))
        refine SCmp.yes (decide_eq_true (by omega)) ?_
        refine SPos.mk at' rfl ha ?_
        refine SIdx.mk at' _ rfl hf ?_
        refine SCall.pure (normal_ok (codeQ p) (codeQ_lt p)) ?_
        rw [decide_eq_false hp0] at hb
        cases hc : nrm (codeQ p) with
        | true =>
          rw [hc] at hb
          refine SCmp.no (rfl) ?_
          exact SRet.fine hb rfl rfl
        | false =>
          rw [hc] at hb
          refine SCmp.yes (rfl) ?_
          exact SRet.bad hb
    · refine SCmp.no (decide_eq_false (by omega)) ?_
      exact SRet.fine (by unfold badR; rw [decide_eq_false h0]; rfl) rfl rfl
end Go.Proofs.YtnilcfiemgmfdaaGreat

namespace Go.Proofs.YtnilcfiemgmfdaaGreat
open Go
set_option linter.unusedVariables false
set_option linter.unusedSimpArgs false
set_option maxRecDepth 10000
theorem code_q : codeQ (1 / 4) = 4598175219545276416 := by
  have h : rS (1 / 4) 0 = (4598175219545276416, 0) := rSc_ok (c := 4598175219545276416) (by decide +kernel)
  unfold codeQ ofF
  rw [if_neg (by decide +kernel), h]
theorem round_q : roundR [1 / 4] = .tup [.p (.sl false 1 [.int .u64 4598175219545276416]), .p (.int .i64 0)] := by
  have h0 : atN [(1 / 4 : Rat)] 1 = 0 := by have := atN_lt [(1 / 4 : Rat)] 1 (by decide); omega
  have hb : badR [(1 / 4 : Rat)] = false := by
    unfold badR
    rw [show [(1 / 4 : Rat)].length = 1 from rfl, h0]
    show (decide (0 < 1) && (!decide ((1 / 4 : Rat) = 0) && !nrm (codeQ (1 / 4)))) = false
    rw [code_q]
    decide +kernel
  rw [roundR_fine hb]
  show AV.tup [.p (.sl false 1 [.int .u64 ((codeQ (1 / 4) : Nat) : Int)]), .p (.int .i64 0)] = _
  rw [code_q]
  rfl
theorem fvq_q : fvq 4598175219545276416 = 1 / 4 := by decide +kernel
theorem czero_ok : CallP Tryz.prog 135 [] (.p (ratP 0)) [] := by
  refine callG_of_vc (wr := wr0) Γok mixed Tryz.func135 (by kernel_rfl) rfl (by kernel_rfl) (le_of_ble rfl) (by simp) ?_
  refine SRet.pure ?_
  rw [ratP_zero]
  exact conv3 ⟨rfl, rfl, rfl⟩ (.p _ (.bool _)) (.p _ (.sl _ _ (fun e he => by simp at he))) (frz1 rfl)
abbrev boxQ (q : Rat) : List AV := [.p (.bool (decide (q.num < 0))), .p (natP q.num.natAbs), .p (natP q.den)]
/-- A call that is handed two blocks and hands them back. -/
theorem SCall.two {P : Program} {f : FuncId} {L : Hd → Blk} {base : Nat} {K : AV → List (Hd × Blk) → Prop} {args args' : List AV} {r : AV} {B0 B1 C0 C1 : Blk} (h0 h1 : Nat) (hc : CallG P f args' [B0, B1] r [C0, C1])
    (hn : [h0, h1].Nodup) (hb0 : h0 < base) (hb1 : h1 < base) (ha : AV.renL (renOf [h0, h1] base) args' = args)
    (e0 : L (.t h0) = (B0.ren (renOf [h0, h1] base)).top ∧ ∀ k, L (.r h0 k) = B0.row k) (e1 : L (.t h1) = (B1.ren (renOf [h0, h1] base)).top ∧ ∀ k, L (.r h1 k) = B1.row k)
    (hl : ∀ B ∈ [B0, B1], B ≠ .free ∧ B ≠ .dead) (hm : ∀ B ∈ [B0, B1], ∀ k, B.men k → k.key < 2) (hf : ∀ B ∈ [C0, C1], B ≠ .free) (hargs : ∀ a ∈ args', ∀ k, a.men k → k.key < 2)
    (hk : K (r.ren (renOf [h0, h1] base)) [(.t h0, C0.ren (renOf [h0, h1] base)), (.t h1, C1.ren (renOf [h0, h1] base))]) {raw : List AV} : SCall P true f raw args L base K :=
  .mk [h0, h1] args' r [B0, B1] [C0, C1] (fun e => by cases e) hn (fun h hh => by simp at hh; rcases hh with rfl | rfl <;> assumption) ha rfl (fun i h B g1 g2 => by
    match i, g1, g2 with
    | 0, g1, g2 => cases g1; cases g2; exact e0
    | 1, g1, g2 => cases g1; cases g2; exact e1) hl hm (Nat.le_refl _) hf hargs hc hk
theorem csee0_ok : CallG Tryz.prog 136 [.bptr 0 0, .vec 1 3 0 1] [.box 153 (boxQ 0), .vec 38 3 [ratP 0]] (.tup []) [.box 153 (boxQ 0), .vec 38 3 [ratP 0]] := by
  refine callG_of_vc (wr := wr0) Γok mixed Tryz.func136 (by kernel_rfl) rfl (by kernel_rfl) (le_of_ble rfl) (by intro B hB; simp at hB; rcases hB with rfl | rfl <;> exact fun e => by (cases e)) ?_
  refine SZ.mk 1 rfl ?_
  refine SLoop.mk Nat (fun i => ([(0, .bptr 0 0), (6, .vec 1 3 0 1), (7, .p (.int .i64 1)), (8, .p (.int .i64 i))], [.box 153 (boxQ 0), .vec 38 3 [ratP 0]])) (fun i => i ≤ 1) (fun i => 1 - i) 0 [0, 1]
    (Nat.zero_le _) ⟨rfl, by simp, rfl, rfl, rfl, ⟨rfl, rfl, rfl, rfl, trivial⟩, ⟨rfl, rfl, trivial⟩⟩ ?_
  intro i h1
  have h1 : i ≤ 1 := h1
  by_cases hi : i = 0
  · subst hi
    refine SCmp.yes (decide_eq_true (by omega)) ?_
    refine SPos.mk 0 rfl (by omega) ?_
    refine SIdx.mk 0 (ratP 0) rfl rfl ?_
    refine SDraw.mk (by kernel_rfl) ?_
    repeat refine SOp.mk _ _ (And.intro rfl rfl) rfl ?_
    refine SOp.mk _ _ (SCall.pure (ratcmp_ok 0 0 bz_zero.sz bz_zero.sz (by omega)) (And.intro rfl rfl)) rfl ?_
    repeat refine SOp.mk _ _ (And.intro rfl rfl) rfl ?_
    refine SOp.mk _ _ (SCmp.no (by decide +kernel) (And.intro rfl rfl)) rfl ?_
    refine SWrap.i64z 1 rfl (by omega) ?_
    exact ⟨1, [0, 1], Nat.le_refl _, by decide, ⟨rfl, by simp, rfl, rfl, rfl, ⟨rfl, rfl, rfl, rfl, trivial⟩, ⟨rfl, rfl, trivial⟩⟩⟩
  · refine SCmp.no (decide_eq_false (by omega)) ?_
    refine SRet.keep rfl (by intro B hB k; simp at hB; rcases hB with rfl | rfl <;> rfl) (fun i hi => ?_) (fun i B e => ?_) (.tup rfl fun i c d e1 e2 => by simp at e1)
    · match i, hi with
      | 0, _ => trivial
      | 1, _ => trivial
    · match i, e with
      | 0, e =>
        cases e
        refine .box (by intro c hc; simp at hc; rcases hc with rfl | rfl | rfl <;> rfl) rfl fun i c d e1 e2 => ?_
        match i, e1, e2 with
        | 0, e1, e2 => cases e1; cases e2; exact .p _ (.bool _)
        | 1, e1, e2 => cases e1; cases e2; exact .p _ (.sl _ _ (pers_limbs _))
        | 2, e1, e2 => cases e1; cases e2; exact .p _ (.sl _ _ (pers_limbs _))
      | 1, e => cases e; exact .vec (pers_rats [0])
end Go.Proofs.YtnilcfiemgmfdaaGreat

namespace Go.Proofs.YtnilcfiemgmfdaaGreat
open Go
set_option linter.unusedVariables false
set_option linter.unusedSimpArgs false
set_option maxRecDepth 10000
abbrev wrSee : FuncId → Bool := fun f => Nat.beq f 136
/-- The size of nothing but nought. -/
theorem csize0_ok (m : Bool) : CallP Tryz.prog 61 [ratsM m (lst 1 fun _ => 0)] (.p (ratP 0)) [] := by
  refine callG_of_vc (wr := wrSee) Γok mixed Tryz.func61 (by kernel_rfl) rfl (by kernel_rfl) (le_of_ble rfl) (by simp) ?_
  refine SCall.pure (czero_ok) ?_
  refine SZ.mk 1 rfl ?_
  refine SLoop.mk Nat (fun i => ([(2, .bptr 0 0), (3, .bptr 1 0), (9, .p (ratsM m (lst 1 fun _ => 0))), (10, .p (.int .i64 1)), (11, .p (.int .i64 i))], [.box 38 [.p (.bool false), .p (.sl false 1 []), .p (.sl false 1 [])], .box 153 (boxQ 0)]))
    (fun i => i ≤ 1) (fun i => 1 - i) 0 [0, 1] (Nat.zero_le _) ⟨rfl, by simp, rfl, rfl, rfl, ⟨rfl, rfl, rfl, rfl, rfl, trivial⟩, ⟨rfl, rfl, trivial⟩⟩ ?_
  intro i h1
  have h1 : i ≤ 1 := h1
  by_cases hi : i < 1
  · obtain rfl : i = 0 := by omega
    have ha := vabs_ok 0 bz_zero (by decide)
    rw [show (0 : Rat).abs = 0 by decide +kernel] at ha
    refine SCmp.yes (decide_eq_true (by omega)) ?_
    refine SIdx.rf 0 rfl (by decide) ?_
    refine SCall.pure (ha) ?_
    refine SCall.two (args' := [.bptr 0 0, .vec 1 3 0 1]) 1 3 csee0_ok (by decide) (by decide) (by decide) rfl ⟨rfl, fun _ => rfl⟩ ⟨rfl, fun _ => rfl⟩ (by intro B hB; simp at hB; rcases hB with rfl | rfl <;> exact ⟨fun e => by (cases e), fun e => by (cases e)⟩)
      (by
        intro B hB k hk; simp at hB
        rcases hB with rfl | rfl
        · simp [Blk.men, AV.menL, AV.men] at hk
        · exact hk.elim) (by intro B hB; simp at hB; rcases hB with rfl | rfl <;> exact fun e => by (cases e)) (by
        intro a ha k hk; simp at ha
        rcases ha with rfl | rfl
        · have : 0 = k := hk; subst this; decide
        · have : 1 = k := hk; subst this; decide) ?_
    refine SWrap.i64z ((0 + 1 : Nat) : Int) (by omega) (by omega) ?_
    exact ⟨1, [0, 1], by decide, by decide, ⟨rfl, by simp, rfl, rfl, rfl, ⟨rfl, rfl, rfl, rfl, rfl, trivial⟩, ⟨rfl, rfl, trivial⟩⟩⟩
  · refine SCmp.no (decide_eq_false (by omega)) ?_
    exact SRet.pure (.p _ (pers_rat _ _ _))
theorem frz_rats {H : Hp} {h : Nat} {T : TypeId} {l : List Rat} {n : Nat} (hB : look H h = .vec T 3 (rats l)) (hn : n = l.length) : SRet [] (.tup [.vec h 3 0 n, .p (.int .i64 0)]) H (.tup [.p (ratsM false l), .p (.int .i64 0)]) [] :=
  SRet.pure (.tup rfl fun i c d e1 e2 => by
    match i, e1, e2 with
    | 0, e1, e2 => cases e1; cases e2; exact frzR hB hn
    | 1, e1, e2 => cases e1; cases e2; exact .p _ (.int _ _))
theorem exact1_ok (m : Bool) (c : Nat) (hc : c < 18446744073709551616) (h1 : isNan c = false) (h2 : isInf c = false) :
    CallP Tryz.prog 59 [.sl m 1 [.int .u64 c]] (.tup [.p (ratsM false (lst 1 fun _ => fvq c)), .p (.int .i64 0)]) [] := by
  refine callG_of_vc (wr := wr0) Γok mixed Tryz.func59 (by kernel_rfl) rfl (by kernel_rfl) (le_of_ble rfl) (by simp) ?_
  refine SZ.mk 1 rfl ?_
  refine SZ.mk 1 rfl ?_
  refine SLt.mk (by simp) ?_
  refine SMake.rat 1 rfl (by decide) ?_
  refine SZ.mk 1 rfl ?_
  refine SLoop.mk Nat (fun i => ([(4, .vec 0 3 0 1), (12, .p (.sl m 1 [.int .u64 c])), (13, .p (.int .i64 1)), (14, .p (.int .i64 i))], [.vec 38 3 (fl 1 fun k => if k < i then ratP (fvq c) else rat0)]))
    (fun i => i ≤ 1) (fun i => 1 - i) 0 [0] (Nat.zero_le _) ⟨rfl, by simp, rfl, rfl, rfl, ⟨rfl, rfl, rfl, rfl, trivial⟩, ⟨rfl, trivial⟩⟩ ?_
  intro i hi
  have hi : i ≤ 1 := hi
  by_cases h1' : i < 1
  · obtain rfl : i = 0 := by omega
    refine SCmp.yes (decide_eq_true (by omega)) ?_
    refine SIdx.mk 0 _ rfl rfl ?_
    refine SCall.pureT (sfrat_ok c hc h1 h2) (fun _ => rfl) ?_
    refine SCmp.no (rfl) ?_
    refine SPos.mk 0 rfl (by decide) ?_
    refine SLt.mk (by simp) ?_
    refine SEs.mk (fl 1 fun k => if k < 0 + 1 then ratP (fvq c) else rat0) rfl ?_
    refine SWrap.i64z ((0 + 1 : Nat) : Int) (by omega) (by omega) ?_
    exact ⟨1, [0], by decide, by decide, ⟨rfl, by simp, rfl, rfl, rfl, ⟨rfl, rfl, rfl, rfl, trivial⟩, ⟨rfl, trivial⟩⟩⟩
  · refine SCmp.no (decide_eq_false (by omega)) ?_
    obtain rfl : i = 1 := by omega
    exact frz_rats (l := lst 1 fun _ => fvq c) rfl rfl
end Go.Proofs.YtnilcfiemgmfdaaGreat

namespace Go.Proofs.YtnilcfiemgmfdaaGreat
open Go
set_option linter.unusedVariables false
set_option linter.unusedSimpArgs false
set_option maxRecDepth 10000
theorem ceta1_ok (m m' mb mx : Bool) (A : Nat → Nat → Rat) (f : Nat → Rat) (c : Nat) (hc : c < 18446744073709551616) (h1 : isNan c = false) (h2 : isInf c = false) {a : Nat} (hA : Bz (A 0 0) a) (hf : Bz (f 0) a) (hv : Bz (fvq c) a) (ha : a ≤ 1000) (a1 : 1 ≤ a) (e : A 0 0 * fvq c = f 0) :
    CallP Tryz.prog 23 [matP m m' 1 1 A, ratsM mb (lst 1 f), .sl mx 1 [.int .u64 c]] (.tup [.p (ratP 0), .p (.int .i64 0)]) [] := by
  have c2 := dapply_ok m m' false 1 A (fun _ => fvq c) (a := a) (b := a) (fun i j hi hj => by
    obtain rfl : i = 0 := by omega
    obtain rfl : j = 0 := by omega
    exact hA) (fun k hk => hv) (by decide) (by decide) (by omega)
  have e1 : apl 1 A (fun _ => fvq c) 0 = f 0 := by
    show 0 + A 0 0 * fvq c = f 0
    rw [e, Rat.zero_add]
  have e2 : f 0 - f 0 = 0 := by grind
  have bb : Bz (apl 1 A (fun _ => fvq c) 0) a := by rw [e1]; exact hf
  refine callG_of_vc (wr := wr0) Γok mixed Tryz.func23 (by kernel_rfl) rfl (by kernel_rfl) (le_of_ble rfl) (by simp) ?_
  refine SZ.mk 1 rfl ?_
  refine SZ.mk 1 rfl ?_
  refine SCmp.no (rfl) ?_
  refine SZ.mk 1 rfl ?_
  refine SZ.mk 1 rfl ?_
  refine SCmp.no (rfl) ?_
  refine SCall.pureT (exact1_ok mx c hc h1 h2) (fun _ => rfl) ?_
  refine SCmp.no (rfl) ?_
  refine SCall.fresh c2 ?_
  refine SZ.mk 1 rfl ?_
  refine SZ.mk 1 rfl ?_
  refine SCmp.no (rfl) ?_
  refine SZ.mk 1 rfl ?_
  refine SLoop.mk Nat (fun i => ([(1, .p (ratsM mb (lst 1 f))), (6, .bptr 0 0), (10, .vec 1 3 0 1), (46, .p (.int .i64 1)), (47, .p (.int .i64 i))], [.box 38 zratA, .vec 38 3 (rats (lst 1 fun _ => if i = 0 then apl 1 A (fun _ => fvq c) 0 else 0))]))
    (fun i => i ≤ 1) (fun i => 1 - i) 0 [0, 1] (Nat.zero_le _) ⟨rfl, by simp, rfl, rfl, rfl, ⟨rfl, rfl, rfl, rfl, rfl, trivial⟩, ⟨rfl, rfl, trivial⟩⟩ ?_
  intro i hi
  have hi : i ≤ 1 := hi
  by_cases hi1 : i < 1
  · obtain rfl : i = 0 := by omega
    refine SCmp.yes (decide_eq_true (by omega)) ?_
    refine SDraw.mkX (by kernel_rfl) ?_
    repeat refine SOp.mk _ _ (And.intro rfl rfl) rfl ?_
    refine SOp.mk _ _ (SPos.mk 0 rfl (by decide) (And.intro rfl rfl)) rfl ?_
    refine SOp.mk _ _ (SIdx.rf 0 rfl (by decide) (And.intro rfl rfl)) rfl ?_
    repeat refine SOp.mk _ _ (And.intro rfl rfl) rfl ?_
    refine SOp.mk _ _ (SIdx.rf 0 rfl (by decide) (And.intro rfl rfl)) rfl ?_
    repeat refine SOp.mk _ _ (And.intro rfl rfl) rfl ?_
    refine SOp.mk _ _ (SCall.pure (ratsub_ok (if 0 = 0 then apl 1 A (fun _ => fvq c) 0 else 0) (f 0) (k := a) (by rw [if_pos rfl]; exact bb.sz) hf.sz (by omega)) (And.intro rfl rfl)) rfl ?_
    refine SOp.mk _ _ (SPos.mk 0 rfl (by decide) (And.intro rfl rfl)) rfl ?_
    refine SOp.mk _ _ (SLt.mk (by simp [lst]) <| SEs.mk (rats (lst 1 fun _ => if 0 + 1 = 0 then apl 1 A (fun _ => fvq c) 0 else 0)) (by show [ratP ((if 0 = 0 then apl 1 A (fun _ => fvq c) 0 else 0) - f 0)] = [ratP (if 0 + 1 = 0 then apl 1 A (fun _ => fvq c) 0 else 0)]; rw [if_pos rfl, if_neg (by decide), e1, e2]) (And.intro rfl rfl)) rfl ?_
    repeat refine SOp.mk _ _ (And.intro rfl rfl) rfl ?_
    refine SFin.mk (by kernel_rfl) ?_
    refine SWrap.i64z ((0 + 1 : Nat) : Int) (by omega) (by omega) ?_
    exact ⟨1, [0, 1], by decide, by decide, ⟨rfl, by simp, rfl, rfl, rfl, ⟨rfl, rfl, rfl, rfl, rfl, trivial⟩, ⟨rfl, rfl, trivial⟩⟩⟩
  · refine SCmp.no (decide_eq_false (by omega)) ?_
    obtain rfl : i = 1 := by omega
    refine SView.all rfl ?_
    refine SCall.pure (csize0_ok true) ?_
    refine SZ.mk 0 (by rw [show (0 : Rat).num.natAbs = 0 from rfl, nl_zero]; rfl) ?_
    refine SCmp.yes (rfl) ?_
    exact SRet.pure (.tup rfl fun i c d e1 e2 => by
      match i, e1, e2 with
      | 0, e1, e2 => cases e1; cases e2; exact .p _ (pers_rat _ _ _)
      | 1, e1, e2 => cases e1; cases e2; exact .p _ (.int _ _))
end Go.Proofs.YtnilcfiemgmfdaaGreat

namespace Go.Proofs.YtnilcfiemgmfdaaGreat
open Go
set_option linter.unusedVariables false
set_option linter.unusedSimpArgs false
set_option maxRecDepth 10000
/-- What is told of a tree is told of another one. -/
def PRle (p' p : PV) : Prop := ∀ w FB v, PR w FB p' v → PR w FB p v
theorem PRle.refl (p : PV) : PRle p p := fun _ _ _ h => h
theorem PRle.nil (m : Bool) (W : Nat) : PRle (.raw (.slice none 0 0)) (.sl m W []) := fun w FB v h => by cases h; exact .nil _ _ _
theorem PRle.agg {cs' cs : List PV} (hl : cs'.length = cs.length) (ho : ∀ c ∈ cs, c.one = true) (h : ∀ (i : Nat) c' c, cs'[i]? = some c' → cs[i]? = some c → PRle c' c) : PRle (.agg cs') (.agg cs) := fun w FB v hv => by
  cases hv with
  | agg _ vs hone hl' h' =>
    refine .agg cs vs ho (by rw [hl', hl]) fun i c v e1 e2 => ?_
    have hi : i < cs'.length := by rw [hl]; exact (List.getElem?_eq_some_iff.1 e1).1
    exact h i cs'[i] c (List.getElem?_eq_getElem hi) e1 _ _ _ (h' i _ v (List.getElem?_eq_getElem hi) e2)
theorem CallG.weak {P : Program} {f : FuncId} {pvs pvs' : List PV} {r : AV} {nb : List Blk} (hc : CallP P f pvs r nb) (hl : pvs'.length = pvs.length) (h : ∀ (i : Nat) p' p, pvs'[i]? = some p' → pvs[i]? = some p → PRle p' p) : CallP P f pvs' r nb :=
  ⟨hc.fn, fun w F Bor β vs ha => hc.run w F Bor β vs { ha with
    len := by rw [ha.len, List.length_map, List.length_map, hl]
    rel := fun i a v e1 e2 => by
      rw [List.getElem?_map] at e1
      cases e : pvs[i]? with
      | none => rw [e] at e1; cases e1
      | some p =>
        rw [e] at e1; cases e1
        have hi : i < pvs'.length := by rw [hl]; exact (List.getElem?_eq_some_iff.1 e).1
        have e' : pvs'[i]? = some pvs'[i] := List.getElem?_eq_getElem hi
        have := ha.rel i (.p pvs'[i]) v (by rw [List.getElem?_map, e']; rfl) e2
        exact .p (h i _ p e' e _ _ _ this.pOf)
    ma := fun a ha k hk => by obtain ⟨v, _, rfl⟩ := List.mem_map.1 ha; simp only [AV.men] at hk }⟩
end Go.Proofs.YtnilcfiemgmfdaaGreat

namespace Go.Proofs.YtnilcfiemgmfdaaGreat
open Go
set_option linter.unusedVariables false
set_option linter.unusedSimpArgs false
set_option maxRecDepth 10000
def m1t : Nat → Bool
  | 0 => true
  | _ => false
def g1t : GV := ⟨1, 1, 0, fun _ => ((4 : Int) : Rat), fun _ => 0, fun _ => 0, fun _ => 0⟩
theorem wf_g1t : Wf g1t 5 13 where
  k1 := by decide
  k7 := by decide
  kT := by decide
  n1 := by decide
  n6 := by decide
  r2 := by decide
  r1 := fun h => by rcases h with h | h <;> cases h
  r0 := fun _ => rfl
  bA := fun i _ => int_bz (by decide) (by decide)
  bB := fun i _ => bz_zero.mono (by decide)
  bG := fun i _ => bz_zero.mono (by decide)
  bH := fun i _ => bz_zero.mono (by decide)
  ne := fun i j _ hj => absurd hj (Nat.not_lt_zero _)
  bc := by decide
  c4 := by decide
def f1t : Nat → Rat := fun _ => ((1 : Int) : Rat)
theorem sfloat1_ok : CallP Tryz.prog 18 [genP m1t g1t, ratsM true (lst 1 f1t), ratP 0] (.tup [.p (.sl false 1 [.int .u64 4598175219545276416]), .p (ratP 0), .p (.int .i64 0)]) [] := by
  have e4 : Bz (ent g1t 0 0) 5 := int_bz (n := 4) (by decide) (by decide)
  have f4 : Bz (f1t 0) 5 := int_bz (n := 1) (by decide) (by decide)
  have c1 := ssolve1_ok m1t true g1t wf_g1t rfl f1t (by decide +kernel) e4 f4
  have ex : xV g1t f1t = ratsM false [1 / 4] := by
    show PV.sl false 3 (rats [0 - -(f1t 0 - 0) * (1 / ent g1t 0 0)]) = PV.sl false 3 (rats [1 / 4])
    rw [show 0 - -(f1t 0 - 0) * (1 / ent g1t 0 0) = 1 / 4 by decide +kernel]
  rw [ex] at c1
  have b4 : Bz (1 / 4 : Rat) 5 := ⟨by decide +kernel, by decide +kernel⟩
  have c2 := cround_ok false [1 / 4] (k := 5) (fun i hi => by
    obtain rfl : i = 0 := by simpa using hi
    exact b4) (by decide) (by decide)
  rw [round_q] at c2
  have c3 := ceta1_ok false false true false (ent g1t) f1t 4598175219545276416 (by decide) (by decide) (by decide) e4 f4 (by rw [fvq_q]; exact b4) (by decide) (by decide) (by rw [fvq_q]; decide +kernel)
  refine callG_of_vc (wr := wr0) Γok mixed Tryz.func18 (by kernel_rfl) rfl (by kernel_rfl) (le_of_ble rfl) (by simp) ?_
  refine SCall.pureT (c1) (fun _ => rfl) ?_
  refine SCmp.no (rfl) ?_
  refine SCall.pureT (c2) (fun _ => rfl) ?_
  refine SCmp.no (rfl) ?_
  refine SCall.pure (gexpand_ok m1t g1t wf_g1t) ?_
  refine SCall.pureT (c3) (fun _ => rfl) ?_
  refine SCmp.no (rfl) ?_
  refine SCall.pure (ratcmp_ok 0 0 bz_zero.sz bz_zero.sz (by omega)) ?_
  refine SCmp.no (by decide +kernel) ?_
  refine SDraw.mkX (by kernel_rfl) ?_
  repeat refine SOp.mk _ _ (And.intro rfl rfl) rfl ?_
  refine SFin.mk (by kernel_rfl) ?_
  exact SRet.pure (.tup rfl fun i c d e1 e2 => by
    match i, e1, e2 with
    | 0, e1, e2 =>
      cases e1; cases e2
      exact .p _ (.sl _ _ fun e he c hc => by
        simp at he; subst he
        simp [PV.cells] at hc; subst hc
        exact .int _ _)
    | 1, e1, e2 => cases e1; cases e2; exact .p _ (pers_rat _ _ _)
    | 2, e1, e2 => cases e1; cases e2; exact .p _ (.int _ _))
theorem PRle.gen {m : Nat → Bool} {g : GV} {k n r : Int} {a b c d : PV} (hk : k = g.k) (hn : n = g.n) (hr : r = g.r) (ha : PRle a (ratsM (m 0) (lst g.la g.A))) (hb : PRle b (ratsM (m 1) (lst g.lb g.B))) (hc : PRle c (ratsM (m 2) (lst g.lh g.G))) (hd : PRle d (ratsM (m 3) (lst g.lh g.H))) :
    PRle (.agg [.int .i64 k, .int .i64 n, .int .i64 r, a, b, c, d]) (genP m g) := by
  subst hk; subst hn; subst hr
  refine PRle.agg rfl (fun c hc => ?_) fun i c' c e1 e2 => ?_
  · simp only [genC, List.mem_cons, List.not_mem_nil, or_false] at hc
    rcases hc with rfl | rfl | rfl | rfl | rfl | rfl | rfl <;> rfl
  · match i, e1, e2 with
    | 0, e1, e2 => cases e1; cases e2; exact .refl _
    | 1, e1, e2 => cases e1; cases e2; exact .refl _
    | 2, e1, e2 => cases e1; cases e2; exact .refl _
    | 3, e1, e2 => cases e1; cases e2; exact ha
    | 4, e1, e2 => cases e1; cases e2; exact hb
    | 5, e1, e2 => cases e1; cases e2; exact hc
    | 6, e1, e2 => cases e1; cases e2; exact hd
theorem knownT_ok : CallP Tryz.prog 6 [] (.p (.bool true)) [] := by
  have hf : CallP Tryz.prog 18 [.agg [.int .i64 1, .int .i64 1, .int .i64 0, ratsM true (lst 1 g1t.A), znil, znil, znil], ratsM true (lst 1 f1t), ratP 0] (.tup [.p (.sl false 1 [.int .u64 4598175219545276416]), .p (ratP 0), .p (.int .i64 0)]) [] :=
    CallG.weak sfloat1_ok rfl fun i p1 p2 e1 e2 => by
      match i, e1, e2 with
      | 0, e1, e2 => cases e1; cases e2; exact .gen rfl rfl rfl (.refl _) (.nil _ _) (.nil _ _) (.nil _ _)
      | 1, e1, e2 => cases e1; cases e2; exact .refl _
      | 2, e1, e2 => cases e1; cases e2; exact .refl _
  refine callG_of_vc (wr := wr0) Γok mixed Tryz.func6 (by kernel_rfl) rfl (by kernel_rfl) (le_of_ble rfl) (by simp) ?_
  refine SCall.pure (rint_ok 4 (by decide)) ?_
  refine SDraw.mkX (by kernel_rfl) ?_
  repeat refine SOp.mk _ _ (And.intro rfl rfl) rfl ?_
  refine SOp.mk _ _ (SCall.pure (rint_ok 1 (by decide)) (And.intro rfl rfl)) rfl ?_
  repeat refine SOp.mk _ _ (And.intro rfl rfl) rfl ?_
  refine SOp.mk _ _ (SCall.pure (rzero_ok) (And.intro rfl rfl)) rfl ?_
  refine SOp.mk _ _ (SView.all rfl <| SView.all rfl <| SCall.pureT hf (fun _ => rfl) (And.intro rfl rfl)) rfl ?_
  repeat refine SOp.mk _ _ (And.intro rfl rfl) rfl ?_
  refine SFin.mk (by kernel_rfl) ?_
  have hn : CallP Tryz.prog 19 [ratP 0] (.p (.bool true)) [] := rnought_ok 0
  refine SCmp.yes (rfl) ?_
  refine SZ.mk 1 rfl ?_
  refine SCmp.yes (rfl) ?_
  refine SIdx.mk 0 _ rfl rfl ?_
  refine SCmp.yes (rfl) ?_
  refine SCall.pure (hn) ?_
  refine SCond.mk (fun _ => ?_) (fun h => by cases h)
  refine SZ.mk 1 (by rw [show (0 : Rat).den = 1 from rfl, nl_one]; rfl) ?_
  refine SCmp.yes (rfl) ?_
  exact SRet.pure (.tf _)
end Go.Proofs.YtnilcfiemgmfdaaGreat

namespace Go.Proofs.YtnilcfiemgmfdaaGreat
open Go
set_option linter.unusedVariables false
set_option linter.unusedSimpArgs false
set_option maxRecDepth 10000
theorem withinT_ok (a n : Int) (hn : 0 < n) (hn' : n < 4611686018427387904) : CallP Tryz.prog 10 [.int .i64 a, .int .i64 n] (.p (.int .i64 (a % n))) [] := by
  refine callG_of_vc (wr := wr0) Γok mixed Tryz.func10 (by kernel_rfl) rfl (by kernel_rfl) (le_of_ble rfl) (by simp) ?_
  have hw := within_aux (a := a) hn
  have hb := tmod_bd a hn
  obtain ⟨r, hr⟩ : ∃ r, r = a.tmod n := ⟨_, rfl⟩
  rw [← hr] at hw hb
  refine SNe.mk (by omega) ?_
  refine SZ.mk r hr.symm ?_
  by_cases h : r < 0
  · refine SCmp.yes (decide_eq_true (by omega)) ?_
    refine SWrap.i64z (r + n) rfl (by omega) ?_
    rw [if_pos h] at hw
    rw [← hw]
    exact SRet.pure (.p _ (.int _ _))
  · refine SCmp.no (decide_eq_false (by omega)) ?_
    rw [if_neg h] at hw
    rw [← hw]
    exact SRet.pure (.p _ (.int _ _))
theorem app_u32 (k : Nat) (f : Nat → Nat) {v : Int} (h : v = ((f k : Nat) : Int)) : u32s k f ++ [.int .u32 v] = u32s (k + 1) f := by
  subst h; exact fl_snoc.symm
theorem wkA_in {ns : List Int} {i : Nat} (h : i < ns.length) : ns.getD i 0 % 2000 = ((wkA ns i : Nat) : Int) := by
  unfold wkA; rw [if_pos h]; omega
theorem wkA_out {ns : List Int} {i : Nat} (h : ¬ i < ns.length) : wkA ns i = i := if_neg h
abbrev cT (N : Nat) (a b : Nat → Nat) (t : Nat) : Nat := cvF (bitLen (2 * N - 1 + N - 2)) (pad (2 * N - 1) a) (pad N b) t
abbrev rqA (a : Nat → Nat) : Nat → Rat := fun i => (((a i : Nat) : Int) : Rat)
theorem rqA_bz {n : Nat} {a : Nat → Nat} (h : ∀ t, t < n → a t < 2000) {i : Nat} (hi : i < n) : Bz (rqA a i) 11 := nat_bz (h i hi)
theorem cT_lt {N : Nat} {a b : Nat → Nat} {t : Nat} : cT N a b t < 998244353 := cvF_lt
theorem cT_bz {N : Nat} {a b : Nat → Nat} {t : Nat} : Bz (((cT N a b t : Nat) : Int) : Rat) 30 := int_bz (bitLen_le (Nat.lt_of_lt_of_le cT_lt (by decide))) (by decide)
theorem sameT_ok {N t : Nat} (h1 : 1 ≤ N) (h8 : N ≤ 8) {a b : Nat → Nat} (ha : ∀ t, t < 2 * N - 1 → a t < 2000) (hb : ∀ t, t < N → b t < 2000) (ht : t < N) :
    CallP Tryz.prog 16 [ratP (apl N (ent (gT N a)) (rqA b) t), ratP (((cT N a b (N - 1 + t) : Nat) : Int) : Rat)] (.p (.bool true)) [] := by
  have e : apl N (ent (gT N a)) (rqA b) t = (((cT N a b (N - 1 + t) : Nat) : Int) : Rat) := whole_eq h1 h8 ha hb ht
  rw [e]
  have h := rsame_ok (((cT N a b (N - 1 + t) : Nat) : Int) : Rat) (((cT N a b (N - 1 + t) : Nat) : Int) : Rat) cT_bz cT_bz (by decide)
  rwa [decide_eq_true rfl] at h
theorem applyT_ok {N L : Nat} (h1 : 1 ≤ N) (h8 : N ≤ 8) (hL : L = 2 * N - 1) {a b : Nat → Nat} (ha : ∀ t, t < 2 * N - 1 → a t < 2000) (hb : ∀ t, t < N → b t < 2000) :
    CallP Tryz.prog 14 [.agg [.int .i64 1, .int .i64 N, .int .i64 0, ratsM true (lst L (rqA a)), znil, znil, znil], ratsM true (lst N (rqA b))] (.tup [.vec 0 3 0 N, .p (.int .i64 0)]) [.vec 38 3 (rats (lst N (apl N (ent (gT N a)) (rqA b))))] := by
  subst hL
  have hf := fapply_ok m1t true (gT N a) (wf_gT h1 h8 ha) (rqA b) (d := 11) (e := 11) (fun k hk => rqA_bz hb hk) (fun i j hi hj => by
    have hi : i < N := hi
    have hj : j < N := hj
    rw [ent_gT]; exact nat_bz (ha _ (by omega))) (by
    have : N * (11 + 11 + 1) ≤ 8 * 23 := Nat.mul_le_mul_right _ h8
    show N * (11 + 11 + 1) + 1 + (11 + 11) + 1 ≤ 1048576
    omega)
  exact CallG.weak hf rfl fun i p1 p2 e1 e2 => by
    match i, e1, e2 with
    | 0, e1, e2 => cases e1; cases e2; exact .gen rfl rfl rfl (.refl _) (.nil _ _) (.nil _ _) (.nil _ _)
    | 1, e1, e2 => cases e1; cases e2; exact .refl _
theorem convT_ok {N L : Nat} (h1 : 1 ≤ N) (h8 : N ≤ 8) (hL : L = 2 * N - 1) {a b : Nat → Nat} (ha : ∀ t, t < 2 * N - 1 → a t < 2000) (hb : ∀ t, t < N → b t < 2000) :
    CallP Tryz.prog 15 [.sl true 1 (u32s L a), .sl true 1 (u32s N b)] (.tup [.vec 0 1 0 (3 * N - 2), .p (.int .i64 0)]) [.vec 41 1 (u32s (3 * N - 2) (cT N a b))] := by
  subst hL
  obtain ⟨k1, k2⟩ := kN_ok h1 h8
  have hp : pP = 998244353 := rfl
  have h := nconv_ok true true (2 * N - 1) N (bitLen (2 * N - 1 + N - 2)) k1 (by omega) h1 k2 rfl a b (fun t ht => by have := ha t ht; omega) (fun t ht => by have := hb t ht; omega)
  rwa [show 2 * N - 1 + N - 1 = 3 * N - 2 by omega] at h
theorem topWhole_ok (m1 m2 : Bool) (n : Int) (ns vs : List Int) (hn : I64 n) (hns : I64s ns) (hvs : I64s vs) :
    CallP Tryz.prog 4 [.int .i64 n, .sl m1 1 (intsP ns), .sl m2 1 (intsP vs)] (.p (.bool true)) [] := by
  have w8 := withinT_ok n 8 (by omega) (by omega)
  obtain ⟨N, hN, h1, h8⟩ : ∃ N : Nat, 1 + n % 8 = N ∧ 1 ≤ N ∧ N ≤ 8 := ⟨(1 + n % 8).toNat, by omega, by omega, by omega⟩
  refine callG_of_vc (wr := wr0) Γok mixed Tryz.func4 (by kernel_rfl) rfl (by kernel_rfl) (le_of_ble rfl) (by simp) ?_
  refine SCall.pure (knownT_ok) ?_
  refine SCmp.no (rfl) ?_
  refine SCall.pure (w8) ?_
  refine SWrap.i64z (N : Int) hN (by omega) ?_
  refine SLoop.mk Nat (fun i => match i with
      | 0 => ([(1, .p (.sl m1 1 (intsP ns))), (2, .p (.sl m2 1 (intsP vs))), (7, .bptr 0 0), (8, .emp), (9, .emp), (10, .p (.int .i64 (0 : Nat)))], [.box 26 [.p (.int .i64 1), .p (.int .i64 N), .p (.int .i64 0), .p znil, .p znil, .p znil, .p znil]])
      | i + 1 => ([(1, .p (.sl m1 1 (intsP ns))), (2, .p (.sl m2 1 (intsP vs))), (7, .bptr 0 0), (8, .vec 2 1 0 (i + 1)), (9, .emp), (10, .p (.int .i64 ((i + 1 : Nat) : Int)))], [.box 26 [.p (.int .i64 1), .p (.int .i64 N), .p (.int .i64 0), .vec 1 3 0 (i + 1), .p znil, .p znil, .p znil], .vec 38 3 (rats (lst (i + 1) (rqA (wkA ns)))), .vec 41 1 (u32s (i + 1) (wkA ns))]))
    (fun i => i ≤ 2 * N - 1) (fun i => 2 * N - 1 - i) 0 [0] (Nat.zero_le _) ⟨rfl, by simp, rfl, rfl, rfl, ⟨rfl, rfl, rfl, rfl, rfl, rfl, trivial⟩, ⟨rfl, trivial⟩⟩ ?_
  intro i hi'
  have hi' : i ≤ 2 * N - 1 := hi'
  cases i with
  | zero =>
    refine SWrap.i64z (2 * (N : Int)) rfl (by omega) ?_
    refine SWrap.i64z (2 * (N : Int) - 1) rfl (by omega) ?_
    refine SCmp.yes (decide_eq_true (by omega)) ?_
    refine SZ.mk (ns.length : Int) (by simp) ?_
    by_cases c : 0 < ns.length
    · have w := withinT_ok (ns.getD 0 0) 2000 (by omega) (by omega)
      rw [wkA_in c] at w
      have hw := wkA_lt ns (i := 0) (by decide)
      refine SCmp.yes (decide_eq_true (by omega)) ?_
      refine SIdx.ib 0 rfl c ?_
      refine SCall.pure (w) ?_
      refine SDraw.mkX (by kernel_rfl) ?_
      repeat refine SOp.mk _ _ (And.intro rfl rfl) rfl ?_
      refine SOp.mk _ _ (SCall.pure (rint_ok ((wkA ns 0 : Nat) : Int) (by omega)) (And.intro rfl rfl)) rfl ?_
      repeat refine SOp.mk _ _ (And.intro rfl rfl) rfl ?_
      refine SOp.mk _ _ (SView.all rfl <| SRoom.mk (by simp) (by simp) (And.intro rfl rfl)) rfl ?_
      repeat refine SOp.mk _ _ (And.intro rfl rfl) rfl ?_
      refine SOp.mk _ _ (SWrap.u32z (wkA ns 0) (by omega) (And.intro rfl rfl)) rfl ?_
      repeat refine SOp.mk _ _ (And.intro rfl rfl) rfl ?_
      refine SOp.mk _ _ (SView.all rfl <| SRoom.mk (by simp) (by simp) (And.intro rfl rfl)) rfl ?_
      repeat refine SOp.mk _ _ (And.intro rfl rfl) rfl ?_
      refine SFin.mk (by kernel_rfl) ?_
      refine SWrap.i64z ((0 + 1 : Nat) : Int) (by omega) (by omega) ?_
      exact ⟨0 + 1, [0, 2, 4], by show 0 + 1 ≤ 2 * N - 1; omega, by show 2 * N - 1 - (0 + 1) < 2 * N - 1 - 0; omega, ⟨rfl, by simp, rfl, rfl, rfl, ⟨rfl, rfl, rfl, rfl, rfl, rfl, trivial⟩, ⟨rfl, rfl, rfl, trivial⟩⟩⟩
    · refine SCmp.no (decide_eq_false (by omega)) ?_
      have hw := wkA_out c
      refine SDraw.mkX (by kernel_rfl) ?_
      repeat refine SOp.mk _ _ (And.intro rfl rfl) rfl ?_
      refine SOp.mk _ _ (SCall.pure (rint_ok ((0 : Nat) : Int) (by omega)) (And.intro rfl rfl)) rfl ?_
      repeat refine SOp.mk _ _ (And.intro rfl rfl) rfl ?_
      refine SOp.mk _ _ (SView.all rfl <| SRoom.mk (by simp) (by simp) (And.intro rfl rfl)) rfl ?_
      repeat refine SOp.mk _ _ (And.intro rfl rfl) rfl ?_
      refine SOp.mk _ _ (SWrap.u32z (0) (by omega) (And.intro rfl rfl)) rfl ?_
      repeat refine SOp.mk _ _ (And.intro rfl rfl) rfl ?_
      refine SOp.mk _ _ (SView.all rfl <| SRoom.mk (by simp) (by simp) (And.intro rfl rfl)) rfl ?_
      repeat refine SOp.mk _ _ (And.intro rfl rfl) rfl ?_
      refine SFin.mk (by kernel_rfl) ?_
      refine SWrap.i64z ((0 + 1 : Nat) : Int) (by omega) (by omega) ?_
      exact ⟨0 + 1, [0, 2, 4], by show 0 + 1 ≤ 2 * N - 1; omega, by show 2 * N - 1 - (0 + 1) < 2 * N - 1 - 0; omega, ⟨rfl, by simp, rfl, rfl, rfl, ⟨rfl, rfl, rfl, rfl, rfl, rfl, trivial⟩, ⟨rfl, congrArg (Blk.vec 38 3) (one_lst (rqA (wkA ns)) _ (by show (((0 : Nat) : Int) : Rat) = (((wkA ns 0 : Nat) : Int) : Rat); rw [hw])).symm, congrArg (Blk.vec 41 1) (app_u32 0 (wkA ns) (v := ((0 : Nat) : Int)) (by rw [hw])).symm, trivial⟩⟩⟩
  | succ i =>
    refine SWrap.i64z (2 * (N : Int)) rfl (by omega) ?_
    refine SWrap.i64z (2 * (N : Int) - 1) rfl (by omega) ?_
    by_cases hin : i + 1 < 2 * N - 1
    · refine SCmp.yes (decide_eq_true (by omega)) ?_
      refine SZ.mk (ns.length : Int) (by simp) ?_
      by_cases c : i + 1 < ns.length
      · have w := withinT_ok (ns.getD (i + 1) 0) 2000 (by omega) (by omega)
        rw [wkA_in c] at w
        have hw := wkA_lt ns (i := i + 1) (by omega)
        refine SCmp.yes (decide_eq_true (by omega)) ?_
        refine SIdx.ib (i + 1) rfl c ?_
        refine SCall.pure (w) ?_
        refine SDraw.mkX (by kernel_rfl) ?_
        repeat refine SOp.mk _ _ (And.intro rfl rfl) rfl ?_
        refine SOp.mk _ _ (SCall.pure (rint_ok ((wkA ns (i + 1) : Nat) : Int) (by omega)) (And.intro rfl rfl)) rfl ?_
        repeat refine SOp.mk _ _ (And.intro rfl rfl) rfl ?_
        refine SOp.mk _ _ (SEqN.mk (by simp [lst]) <| SView.all rfl <| SRoom.mk (by simp [lst]; omega) (by simp [lst]; omega) <| SEs.mk (rats (lst (i + 1 + 1) (rqA (wkA ns)))) (app_lst _ _ _ ((congrArg (fun z : Int => (z : Rat)) rfl))) <| SZN.mk (i + 1 + 1) (by simp [lst]) (And.intro rfl rfl)) rfl ?_
        repeat refine SOp.mk _ _ (And.intro rfl rfl) rfl ?_
        refine SOp.mk _ _ (SWrap.u32z (wkA ns (i + 1)) (by omega) (And.intro rfl rfl)) rfl ?_
        repeat refine SOp.mk _ _ (And.intro rfl rfl) rfl ?_
        refine SOp.mk _ _ (SEqN.mk (by simp) <| SView.all rfl <| SRoom.mk (by simp; omega) (by simp; omega) <| SEs.mk (u32s (i + 1 + 1) (wkA ns)) (app_u32 _ _ rfl) <| SZN.mk (i + 1 + 1) (by simp) (And.intro rfl rfl)) rfl ?_
        repeat refine SOp.mk _ _ (And.intro rfl rfl) rfl ?_
        refine SFin.mk (by kernel_rfl) ?_
        refine SWrap.i64z ((i + 1 + 1 : Nat) : Int) (by omega) (by omega) ?_
        exact ⟨i + 1 + 1, [0, 4, 6], hin, by show 2 * N - 1 - (i + 1 + 1) < 2 * N - 1 - (i + 1); omega, ⟨rfl, by simp, rfl, rfl, rfl, ⟨rfl, rfl, rfl, rfl, rfl, rfl, trivial⟩, ⟨rfl, rfl, rfl, trivial⟩⟩⟩
      · refine SCmp.no (decide_eq_false (by omega)) ?_
        have hw := wkA_out c
        refine SDraw.mkX (by kernel_rfl) ?_
        repeat refine SOp.mk _ _ (And.intro rfl rfl) rfl ?_
        refine SOp.mk _ _ (SCall.pure (rint_ok ((i + 1 : Nat) : Int) (by omega)) (And.intro rfl rfl)) rfl ?_
        repeat refine SOp.mk _ _ (And.intro rfl rfl) rfl ?_
        refine SOp.mk _ _ (SEqN.mk (by simp [lst]) <| SView.all rfl <| SRoom.mk (by simp [lst]; omega) (by simp [lst]; omega) <| SEs.mk (rats (lst (i + 1 + 1) (rqA (wkA ns)))) (app_lst _ _ _ ((congrArg (fun z : Int => (z : Rat)) (by rw [hw])))) <| SZN.mk (i + 1 + 1) (by simp [lst]) (And.intro rfl rfl)) rfl ?_
        repeat refine SOp.mk _ _ (And.intro rfl rfl) rfl ?_
        refine SOp.mk _ _ (SWrap.u32z (i + 1) (by omega) (And.intro rfl rfl)) rfl ?_
        repeat refine SOp.mk _ _ (And.intro rfl rfl) rfl ?_
        refine SOp.mk _ _ (SEqN.mk (by simp) <| SView.all rfl <| SRoom.mk (by simp; omega) (by simp; omega) <| SEs.mk (u32s (i + 1 + 1) (wkA ns)) (app_u32 _ _ (by rw [hw])) <| SZN.mk (i + 1 + 1) (by simp) (And.intro rfl rfl)) rfl ?_
        repeat refine SOp.mk _ _ (And.intro rfl rfl) rfl ?_
        refine SFin.mk (by kernel_rfl) ?_
        refine SWrap.i64z ((i + 1 + 1 : Nat) : Int) (by omega) (by omega) ?_
        exact ⟨i + 1 + 1, [0, 4, 6], hin, by show 2 * N - 1 - (i + 1 + 1) < 2 * N - 1 - (i + 1); omega, ⟨rfl, by simp, rfl, rfl, rfl, ⟨rfl, rfl, rfl, rfl, rfl, rfl, trivial⟩, ⟨rfl, rfl, rfl, trivial⟩⟩⟩
    · refine SCmp.no (decide_eq_false (by omega)) ?_
      have hL : i + 1 = 2 * N - 1 := by omega
      refine SLoop.mk Nat (fun j => match j with
          | 0 => ([(2, .p (.sl m2 1 (intsP vs))), (7, .bptr 0 0), (8, .vec 2 1 0 (i + 1)), (9, .emp), (12, .emp), (13, .p (.int .i64 (0 : Nat)))], [.box 26 [.p (.int .i64 1), .p (.int .i64 N), .p (.int .i64 0), .vec 1 3 0 (i + 1), .p znil, .p znil, .p znil], .vec 38 3 (rats (lst (i + 1) (rqA (wkA ns)))), .vec 41 1 (u32s (i + 1) (wkA ns))])
          | j + 1 => ([(2, .p (.sl m2 1 (intsP vs))), (7, .bptr 0 0), (8, .vec 2 1 0 (i + 1)), (9, .vec 4 1 0 (j + 1)), (12, .vec 3 3 0 (j + 1)), (13, .p (.int .i64 ((j + 1 : Nat) : Int)))], [.box 26 [.p (.int .i64 1), .p (.int .i64 N), .p (.int .i64 0), .vec 1 3 0 (i + 1), .p znil, .p znil, .p znil], .vec 38 3 (rats (lst (i + 1) (rqA (wkA ns)))), .vec 41 1 (u32s (i + 1) (wkA ns)), .vec 38 3 (rats (lst (j + 1) (rqA (wkA vs)))), .vec 41 1 (u32s (j + 1) (wkA vs))]))
        (fun j => j ≤ N) (fun j => N - j) 0 [0, 1, 2] (Nat.zero_le _) ⟨rfl, by simp, rfl, rfl, rfl, ⟨rfl, rfl, rfl, rfl, rfl, rfl, trivial⟩, ⟨rfl, rfl, rfl, trivial⟩⟩ ?_
      intro j hj'
      have hj' : j ≤ N := hj'
      cases j with
      | zero =>
        refine SCmp.yes (decide_eq_true (by omega)) ?_
        refine SZ.mk (vs.length : Int) (by simp) ?_
        by_cases c : 0 < vs.length
        · have w := withinT_ok (vs.getD 0 0) 2000 (by omega) (by omega)
          rw [wkA_in c] at w
          have hw := wkA_lt vs (i := 0) (by decide)
          refine SCmp.yes (decide_eq_true (by omega)) ?_
          refine SIdx.ib 0 rfl c ?_
          refine SCall.pure (w) ?_
          refine SCall.pure (rint_ok ((wkA vs 0 : Nat) : Int) (by omega)) ?_
          refine SView.all rfl <| SRoom.mk (by simp) (by simp) ?_
          refine SWrap.u32z (wkA vs 0) (by omega) ?_
          refine SView.all rfl <| SRoom.mk (by simp) (by simp) ?_
          refine SWrap.i64z ((0 + 1 : Nat) : Int) (by omega) (by omega) ?_
          exact ⟨0 + 1, [0, 1, 2, 4, 6], h1, by show N - (0 + 1) < N - 0; omega, ⟨rfl, by simp, rfl, rfl, rfl, ⟨rfl, rfl, rfl, rfl, rfl, rfl, trivial⟩, ⟨rfl, rfl, rfl, rfl, rfl, trivial⟩⟩⟩
        · refine SCmp.no (decide_eq_false (by omega)) ?_
          have hw := wkA_out c
          refine SCall.pure (rint_ok ((0 : Nat) : Int) (by omega)) ?_
          refine SView.all rfl <| SRoom.mk (by simp) (by simp) ?_
          refine SWrap.u32z (0) (by omega) ?_
          refine SView.all rfl <| SRoom.mk (by simp) (by simp) ?_
          refine SWrap.i64z ((0 + 1 : Nat) : Int) (by omega) (by omega) ?_
          exact ⟨0 + 1, [0, 1, 2, 4, 6], h1, by show N - (0 + 1) < N - 0; omega, ⟨rfl, by simp, rfl, rfl, rfl, ⟨rfl, rfl, rfl, rfl, rfl, rfl, trivial⟩, ⟨rfl, rfl, rfl, congrArg (Blk.vec 38 3) (one_lst (rqA (wkA vs)) _ (by show (((0 : Nat) : Int) : Rat) = (((wkA vs 0 : Nat) : Int) : Rat); rw [hw])).symm, congrArg (Blk.vec 41 1) (app_u32 0 (wkA vs) (v := ((0 : Nat) : Int)) (by rw [hw])).symm, trivial⟩⟩⟩
      | succ j =>
        by_cases hjn : j + 1 < N
        · refine SCmp.yes (decide_eq_true (by omega)) ?_
          refine SZ.mk (vs.length : Int) (by simp) ?_
          by_cases c : j + 1 < vs.length
          · have w := withinT_ok (vs.getD (j + 1) 0) 2000 (by omega) (by omega)
            rw [wkA_in c] at w
            have hw := wkA_lt vs (i := j + 1) (by omega)
            refine SCmp.yes (decide_eq_true (by omega)) ?_
            refine SIdx.ib (j + 1) rfl c ?_
            refine SCall.pure (w) ?_
            refine SCall.pure (rint_ok ((wkA vs (j + 1) : Nat) : Int) (by omega)) ?_
            refine SEqN.mk (by simp [lst]) <| SView.all rfl <| SRoom.mk (by simp [lst]; omega) (by simp [lst]; omega) <| SEs.mk (rats (lst (j + 1 + 1) (rqA (wkA vs)))) (app_lst _ _ _ ((congrArg (fun z : Int => (z : Rat)) rfl))) <| SZN.mk (j + 1 + 1) (by simp [lst]) ?_
            refine SWrap.u32z (wkA vs (j + 1)) (by omega) ?_
            refine SEqN.mk (by simp) <| SView.all rfl <| SRoom.mk (by simp; omega) (by simp; omega) <| SEs.mk (u32s (j + 1 + 1) (wkA vs)) (app_u32 _ _ rfl) <| SZN.mk (j + 1 + 1) (by simp) ?_
            refine SWrap.i64z ((j + 1 + 1 : Nat) : Int) (by omega) (by omega) ?_
            exact ⟨j + 1 + 1, [0, 1, 2, 6, 8], hjn, by show N - (j + 1 + 1) < N - (j + 1); omega, ⟨rfl, by simp, rfl, rfl, rfl, ⟨rfl, rfl, rfl, rfl, rfl, rfl, trivial⟩, ⟨rfl, rfl, rfl, rfl, rfl, trivial⟩⟩⟩
          · refine SCmp.no (decide_eq_false (by omega)) ?_
            have hw := wkA_out c
            refine SCall.pure (rint_ok ((j + 1 : Nat) : Int) (by omega)) ?_
            refine SEqN.mk (by simp [lst]) <| SView.all rfl <| SRoom.mk (by simp [lst]; omega) (by simp [lst]; omega) <| SEs.mk (rats (lst (j + 1 + 1) (rqA (wkA vs)))) (app_lst _ _ _ ((congrArg (fun z : Int => (z : Rat)) (by rw [hw])))) <| SZN.mk (j + 1 + 1) (by simp [lst]) ?_
            refine SWrap.u32z (j + 1) (by omega) ?_
            refine SEqN.mk (by simp) <| SView.all rfl <| SRoom.mk (by simp; omega) (by simp; omega) <| SEs.mk (u32s (j + 1 + 1) (wkA vs)) (app_u32 _ _ (by rw [hw])) <| SZN.mk (j + 1 + 1) (by simp) ?_
            refine SWrap.i64z ((j + 1 + 1 : Nat) : Int) (by omega) (by omega) ?_
            exact ⟨j + 1 + 1, [0, 1, 2, 6, 8], hjn, by show N - (j + 1 + 1) < N - (j + 1); omega, ⟨rfl, by simp, rfl, rfl, rfl, ⟨rfl, rfl, rfl, rfl, rfl, rfl, trivial⟩, ⟨rfl, rfl, rfl, rfl, rfl, trivial⟩⟩⟩
        · refine SCmp.no (decide_eq_false (by omega)) ?_
          obtain rfl : N = j + 1 := by omega
          have ha : ∀ t, t < 2 * (j + 1) - 1 → wkA ns t < 2000 := fun t ht => wkA_lt ns (by omega)
          have hb : ∀ t, t < j + 1 → wkA vs t < 2000 := fun t ht => wkA_lt vs (by omega)
          have fa := applyT_ok h1 h8 hL ha hb
          have fc := convT_ok h1 h8 hL ha hb
          refine SView.all (by simp [lst]) <| SView.all (by simp [lst]) <| SCall.newT (pvs := [.agg [.int .i64 1, .int .i64 ((j + 1 : Nat) : Int), .int .i64 0, ratsM true (lst (i + 1) (rqA (wkA ns))), znil, znil, znil], ratsM true (lst (j + 1) (rqA (wkA vs)))]) fa ?_
          refine SView.all (by simp) <| SView.all (by simp) <| SCall.newT (pvs := [.sl true 1 (u32s (i + 1) (wkA ns)), .sl true 1 (u32s (j + 1) (wkA vs))]) fc ?_
          refine SCmp.no (rfl) ?_
          refine SCmp.no (rfl) ?_
          refine SZ.mk ((j + 1 : Nat) : Int) (by simp) ?_
          refine SCmp.no (by simp) ?_
          refine SZ.mk ((3 * (j + 1) - 2 : Nat) : Int) (by simp) ?_
          refine SWrap.i64z (3 * ((j + 1 : Nat) : Int)) rfl (by omega) ?_
          refine SWrap.i64z (3 * ((j + 1 : Nat) : Int) - 2) rfl (by omega) ?_
          refine SCmp.no (neF (by omega)) ?_
          refine SLoop.mk Nat (fun t => ([(7, .bptr 0 0), (15, .vec 2 3 0 (j + 1)), (17, .vec 3 1 0 (3 * (j + 1) - 2)), (19, .p (.int .i64 (t : Nat)))], [.box 26 [.p (.int .i64 1), .p (.int .i64 ((j + 1 : Nat) : Int)), .p (.int .i64 0), .vec 1 3 0 (i + 1), .p znil, .p znil, .p znil], .vec 38 3 (rats (lst (i + 1) (rqA (wkA ns)))), .vec 38 3 (rats (lst (j + 1) (apl (j + 1) (ent (gT (j + 1) (wkA ns))) (rqA (wkA vs))))), .vec 41 1 (u32s (3 * (j + 1) - 2) (cT (j + 1) (wkA ns) (wkA vs)))]))
            (fun t => t ≤ j + 1) (fun t => j + 1 - t) 0 [0, 1, 5, 6] (Nat.zero_le _) ⟨rfl, by simp, rfl, rfl, rfl, ⟨rfl, rfl, rfl, rfl, trivial⟩, ⟨rfl, rfl, rfl, rfl, trivial⟩⟩ ?_
          intro t ht'
          have ht' : t ≤ j + 1 := ht'
          by_cases ht : t < j + 1
          · have hs := sameT_ok h1 h8 ha hb ht
            have hc : cT (j + 1) (wkA ns) (wkA vs) (j + 1 - 1 + t) < 998244353 := cT_lt
            refine SCmp.yes (decide_eq_true (by omega)) ?_
            refine SDraw.mk (by kernel_rfl) ?_
            repeat refine SOp.mk _ _ (And.intro rfl rfl) rfl ?_
            refine SOp.mk _ _ (SPos.mk t rfl ht (And.intro rfl rfl)) rfl ?_
            refine SOp.mk _ _ (SIdx.rf t rfl ht (And.intro rfl rfl)) rfl ?_
            repeat refine SOp.mk _ _ (And.intro rfl rfl) rfl ?_
            refine SOp.mk _ _ (SWrap.i64z (((j + 1 : Nat) : Int) - 1) rfl (by omega) (And.intro rfl rfl)) rfl ?_
            repeat refine SOp.mk _ _ (And.intro rfl rfl) rfl ?_
            refine SOp.mk _ _ (SWrap.i64z ((j + 1 - 1 + t : Nat) : Int) (by omega) (by omega) (And.intro rfl rfl)) rfl ?_
            repeat refine SOp.mk _ _ (And.intro rfl rfl) rfl ?_
            refine SOp.mk _ _ (SPos.mk (j + 1 - 1 + t) rfl (by omega) (And.intro rfl rfl)) rfl ?_
            refine SOp.mk _ _ (SIdx.uf (j + 1 - 1 + t) rfl (by omega) (And.intro rfl rfl)) rfl ?_
            repeat refine SOp.mk _ _ (And.intro rfl rfl) rfl ?_
            refine SOp.mk _ _ (SWrap.i64z ((cT (j + 1) (wkA ns) (wkA vs) (j + 1 - 1 + t) : Nat) : Int) rfl (by omega) (And.intro rfl rfl)) rfl ?_
            refine SOp.mk _ _ (SCall.pure (rint_ok ((cT (j + 1) (wkA ns) (wkA vs) (j + 1 - 1 + t) : Nat) : Int) (by omega)) (And.intro rfl rfl)) rfl ?_
            refine SOp.mk _ _ (SCall.pure (hs) (And.intro rfl rfl)) rfl ?_
            refine SOp.mk _ _ (SCmp.no rfl (And.intro rfl rfl)) rfl ?_
            refine SWrap.i64z ((t + 1 : Nat) : Int) (by omega) (by omega) ?_
            exact ⟨t + 1, [0, 1, 2, 3], ht, by show j + 1 - (t + 1) < j + 1 - t; omega, ⟨rfl, by simp, rfl, rfl, rfl, ⟨rfl, rfl, rfl, rfl, trivial⟩, ⟨rfl, rfl, rfl, rfl, trivial⟩⟩⟩
          · refine SCmp.no (decide_eq_false (by omega)) ?_
            exact SRet.pure (.tf _)
end Go.Proofs.YtnilcfiemgmfdaaGreat

namespace Go.Proofs.YtnilcfiemgmfdaaGreat
open Go Go.ChangeShapes Go.WideShapes Go.ChangeAt Go.RowKit Go.WideElems
set_option linter.unusedVariables false
set_option linter.unusedSimpArgs false
theorem Tryz.own : ownKnob Tryz.prog.godebug = none := by kernel_rfl
theorem Tryz.laidOut : laidOutB Tryz.prog = true := by kernel_rfl
theorem Tryz.cells3 : Tryz.prog.cellsOf 3 = 1 := by kernel_rfl
abbrev oldF (W : World) : Nat → Prop := fun b => b < W.heap.size
theorem law_call {P : Program} {f : FuncId} {pvs : List PV} (hc : CallP P f pvs (.p (.bool true)) []) {W : World} {vs : List Value} (hl : vs.length = pvs.length) (hv : ∀ (i : Nat) p v, pvs[i]? = some p → vs[i]? = some v → PR W (FBof noBor (oldF W)) p v) :
    Calls P f vs.toArray W fun e W' => e = .returned (.bool true) ∧ Below W.heap.size W W' := by
  refine (hc.run W (oldF W) noBor (fun _ => (none, 0)) vs ⟨by simp [hl], fun i a v e1 e2 => ?_, fun h => by rw [look_nil]; trivial, fun b h => h, fun b h => h.elim, fun h b hl => ?_, fun h h' b hl => ?_, fun a ha k hk => ?_, fun h k hk => ?_⟩).mono ?_
  · rw [List.getElem?_map] at e1
    cases hp : pvs[i]? with
    | none => rw [hp] at e1; cases e1
    | some p => rw [hp] at e1; cases e1; exact .p (hv i p v hp e2)
  · rw [look_nil] at hl; exact hl.elim
  · rw [look_nil] at hl; exact hl.elim
  · obtain ⟨p, _, rfl⟩ := List.mem_map.1 ha; simp only [AV.men] at hk
  · rw [look_nil] at hk; exact hk.elim
  · intro e W' ⟨v, F', β', he, hr⟩
    subst he
    refine ⟨?_, hr.os, hr.tape, hr.output, hr.size, fun b hb => hr.same b hb fun h hl => ?_⟩
    · have := hr.rel
      cases this with | p h => cases h; rfl
    · rw [look_nil] at hl; exact hl.elim
section
variable {H : Type} {enc : TypeId × Value → H} {P : Program} {W : World} {base : Nat} {sp : Nat → Bool} {held : Bool}
theorem openInt {t : TypeId} {r : Go.Reach} {b0 : Nat} {v : Value} {d : DataW H} {ps : List MemPlace} (ht : P.underlying t = some (.int .i64)) (hval : Value.okWide P W r b0 t v) (hd : DataW.Trod enc P W base sp held t v d ps) :
    ∃ n, v = .int .i64 n ∧ I64 n := by
  obtain ⟨n, h1, h2, h3, h4⟩ := open_int ht hval hd
  refine ⟨n, h1, ?_⟩
  simp [Lit.wf, IntKind.min, IntKind.max, IntKind.signed, IntKind.bits] at h4
  exact ⟨by omega, by omega⟩
theorem openInts {t e : TypeId} {r : Go.Reach} {b0 : Nat} {v : Value} {d : DataW H} {ps : List MemPlace} (ht : P.underlying t = some (.slice e)) (he : P.underlying e = some (.int .i64)) (hc : P.cellsOf e = 1) (hval : Value.okWide P W r b0 t v)
    (hd : DataW.Trod enc P W base sp held t v d ps) (hlt : ∀ x ∈ ps, x.block < W.heap.size) : ∃ zs : List Int, I64s zs ∧ PR W (FBof noBor (oldF W)) (.sl false 1 (intsP zs)) v := by
  obtain ⟨a0, len, cap, rfl⟩ := okWide_slice ht hval
  obtain ⟨fuel, hf⟩ := hd
  rcases open_ints ht he hc hf with ⟨hcs, hx⟩ | ⟨a, len', cap', zs, hcs, _, hl, hm, hz, hx, hcell, hwz⟩
  · simp [Value.cells] at hcs
    obtain ⟨rfl, rfl, rfl⟩ := hcs
    exact ⟨[], fun i => by simp [I64], .nil _ _ _⟩
  · simp [Value.cells] at hcs
    obtain ⟨rfl, rfl, rfl⟩ := hcs
    simp only [Prod.mk.injEq] at hx
    obtain ⟨_, rfl⟩ := hx
    have hlen : len ≤ zs.length := by rw [hz]; split <;> omega
    have hspot : a.spot = none := by
      simp only [Value.okWide, ht, Cell.okWide] at hval
      simp [Cell.ok, World.has] at hval
      first | exact hval.1.2.1 | exact hval.2.1 | (have := hval; simp_all)
    obtain ⟨b, off, spot⟩ := a
    simp only at hspot
    subst hspot
    refine ⟨zs.take len, fun i => ?_, ?_⟩
    · by_cases hi : i < (zs.take len).length
      · have hm : (zs.take len).getD i 0 ∈ zs := by
          have : (zs.take len).getD i 0 = (zs.take len)[i] := by simp only [List.getD, List.getElem?_eq_getElem hi, Option.getD_some]
          rw [this]
          exact List.mem_of_mem_take (List.getElem_mem hi)
        have h4 := hwz _ hm
        generalize (zs.take len).getD i 0 = q at h4 ⊢
        simp [Lit.wf, IntKind.min, IntKind.max, IntKind.signed, IntKind.bits] at h4
        exact ⟨by omega, by omega⟩
      · rw [getD_ge _ 0 (by omega)]; simp [I64]
    · have hll : (intsP (zs.take len)).length = len := by simp; omega
      have h := PR.sl (w := W) (FB := FBof noBor (oldF W)) false 1 (intsP (zs.take len)) b off cap (fun i _ => .int .i64 (zs.getD i 0)) (by rw [hll]; exact hl) (fun hne => ?_) (fun e he => ?_) (fun e he c hc => ?_) (fun i e j c e1 e2 => ?_) (fun i e j c e1 e2 => ?_)
      · rw [hll] at h; exact h
      · have hpos : 0 < zs.length := by
          rcases Nat.eq_zero_or_pos zs.length with h0 | h0
          · exact (hne (by rw [List.length_eq_zero_iff.1 h0]; simp)).elim
          · exact h0
        exact hlt (.cell b off) (MemPlace.mem_row.2 ⟨0, hpos, by simp⟩)
      · obtain ⟨z, _, rfl⟩ := List.mem_map.1 he; rfl
      · obtain ⟨z, _, rfl⟩ := List.mem_map.1 he
        have hc : c ∈ [PV.int .i64 z] := hc
        simp at hc; subst hc; rfl
      all_goals
        have hi : i < len := by have := (List.getElem?_eq_some_iff.1 e1).1; rwa [hll] at this
        have he : e = .int .i64 (zs.getD i 0) := by
          rw [List.getElem?_map, List.getElem?_take_of_lt hi, List.getElem?_eq_getElem (show i < zs.length by omega)] at e1
          simp at e1
          simp [List.getD, show i < zs.length by omega, ← e1]
        subst he
        have hj : j = 0 := by
          have := (List.getElem?_eq_some_iff.1 e2).1
          simpa [PV.cells] using this
        subst hj
        first
          | (have := hcell i (by omega)
             rw [show off + i * 1 + 0 = off + i by omega]
             rwa [Addr.add_lit] at this)
          | (have hcv : c = .int .i64 (zs.getD i 0) := by simpa [PV.cells] using e2.symm
             subst hcv
             exact .int _ _)
end
end Go.Proofs.YtnilcfiemgmfdaaGreat

