/- Cert: sizes, rounding. -/
import Derived.Test.YtacklcbgkigcaaaGreatCr0
namespace Go.Proofs.YtacklcbgkigcaaaGreat
open Go
set_option linter.unusedVariables false
set_option linter.unusedSimpArgs false
set_option maxRecDepth 10000

theorem czero_ok : CallP Tryz.prog 113 [] (.p (ratP 0)) [] := by
  refine callG_of_vc (wr := wr0) Γok mixed Tryz.func113 (by kernel_rfl) rfl (by kernel_rfl) (le_of_ble rfl) (by simp) ?_
  refine SRet.pure ?_
  rw [ratP_zero]
  exact conv3 ⟨rfl, rfl, rfl⟩ (.p _ (.bool _)) (.p _ (.sl _ _ (fun e he => by simp at he))) (frz1 rfl)

/-- The greatest size. -/
def sizeQ (l : List Rat) : Rat := l.foldl (fun m x => if m < x.abs then x.abs else m) 0
theorem sizeQ_snoc (l : List Rat) (x : Rat) : sizeQ (l ++ [x]) = if sizeQ l < x.abs then x.abs else sizeQ l := by rw [sizeQ, List.foldl_append]; rfl
theorem sizeQ_take (l : List Rat) {i : Nat} (h : i < l.length) : sizeQ (l.take (i + 1)) = if sizeQ (l.take i) < (l.getD i 0).abs then (l.getD i 0).abs else sizeQ (l.take i) := by rw [take_snoc l h, sizeQ_snoc]
theorem sizeQ_bz {l : List Rat} {k : Nat} (h : Bl l k) (hk : 1 ≤ k) : ∀ i, i ≤ l.length → Bz (sizeQ (l.take i)) k := by
  intro i
  induction i with
  | zero => intro _; exact bz_zero.mono hk
  | succ i ih =>
    intro hi
    rw [sizeQ_take l (by omega)]
    split
    · exact (h i (by omega)).abs
    · exact ih (by omega)

abbrev boxQ (q : Rat) : List AV := [.p (.bool (decide (q.num < 0))), .p (natP q.num.natAbs), .p (natP q.den)]
theorem SRet.see {H : Hp} {T T' : TypeId} {q : Rat} {es : List PV} (h0 : look H 0 = .box T (boxQ q)) (h1 : look H 1 = .vec T' 3 es) (hp : ∀ e ∈ es, ∀ c ∈ e.cells, Pers c) : SRet 2 (.tup []) H (.tup []) [.box T (boxQ q), .vec T' 3 es] :=
  .mk [0, 1] rfl (by simp) rfl (Nat.le_refl _) (fun i hi => by
    match i, hi with
    | 0, _ => rw [h0]; trivial
    | 1, _ => rw [h1]; trivial) (fun i h' B e1 e2 => by
    match i, e1, e2 with
    | 0, e1, e2 =>
      cases e1; cases e2; rw [h0]
      refine .box (fun d hd => by simp at hd; rcases hd with rfl | rfl | rfl <;> rfl) rfl fun i c d e1 e2 => ?_
      match i, e1, e2 with
      | 0, e1, e2 => cases e1; cases e2; exact .p _ (.bool _)
      | 1, e1, e2 => cases e1; cases e2; exact .p _ (.sl _ _ (pers_limbs _))
      | 2, e1, e2 => cases e1; cases e2; exact .p _ (.sl _ _ (pers_limbs _))
    | 1, e1, e2 => cases e1; cases e2; rw [h1]; exact .vec hp) (.tup rfl fun i c d e1 e2 => by simp at e1)
theorem SCall.see {P : Program} {f : FuncId} {L : Nat → Blk} {base h1 h2 : Nat} {K : AV → List (Nat × Blk) → Prop} {T T' : TypeId} {a b : Rat} {es : List PV} (hne : h1 ≠ h2) (hb1 : h1 < base) (hb2 : h2 < base) (hL1 : L h1 = .box T (boxQ a)) (hL2 : L h2 = .vec T' 3 es)
    (hc : CallG P f [.bptr 0 0, .vec 1 3 0 1] [.box T (boxQ a), .vec T' 3 es] (.tup []) [.box T (boxQ b), .vec T' 3 es]) (hk : K (.tup []) [(h1, .box T (boxQ b)), (h2, .vec T' 3 es)]) : SCall P true f [.bptr h1 0, .vec h2 3 0 1] L base K :=
  .mk [h1, h2] [.bptr 0 0, .vec 1 3 0 1] (.tup []) [.box T (boxQ b), .vec T' 3 es] (fun e => by cases e) (by simp [hne]) (fun k hk => by simp at hk; omega) rfl
    (fun k hk => by simp at hk; rcases hk with rfl | rfl; · rw [hL1]; trivial
                    · rw [hL2]; trivial) (fun k hk j => by
      simp at hk; rcases hk with rfl | rfl
      · rw [hL1]; simp [Blk.men, AV.menL, AV.men]
      · rw [hL2]; exact fun h => h) (Nat.le_refl _)
    (fun B hB => by simp at hB; rcases hB with rfl | rfl <;> simp) (fun a ha k hk => by
      simp at ha; rcases ha with rfl | rfl
      · have : 0 = k := hk; show k < 2; omega
      · have : 1 = k := hk; show k < 2; omega) (by simpa [hL1, hL2] using hc) hk

theorem see1_ok (a x : Rat) {j k : Nat} (ha : Bz a j) (hx : Bz x k) (h : j + k ≤ 1048576) :
    CallG Tryz.prog 114 [.bptr 0 0, .vec 1 3 0 1] [.box 121 (boxQ a), .vec 30 3 [ratP x]] (.tup []) [.box 121 (boxQ (if a < x then x else a)), .vec 30 3 [ratP x]] := by
  refine callG_of_vc (wr := wr0) Γok mixed Tryz.func114 (by kernel_rfl) rfl (by kernel_rfl) (le_of_ble rfl) (by simp [Blk.live]) ?_
  refine SZ.mk 1 rfl ?_
  refine SLoop.mk Nat (fun i => ([(0, .bptr 0 0), (6, .vec 1 3 0 1), (7, .p (.int .i64 1)), (8, .p (.int .i64 i))], [.box 121 (boxQ (if i = 0 then a else if a < x then x else a)), .vec 30 3 [ratP x]])) (fun i => i ≤ 1) (fun i => 1 - i) 0 [0, 1]
    (Nat.zero_le _) ⟨rfl, by simp, rfl, rfl, rfl, ⟨rfl, rfl, rfl, rfl, trivial⟩, ⟨rfl, rfl, trivial⟩⟩ ?_
  intro i h1
  have h1 : i ≤ 1 := h1
  by_cases hi : i = 0
  · subst hi
    rw [if_pos rfl]
    refine SCmp.yes (decide_eq_true (by omega)) ?_
    refine SPos.mk 0 rfl (by omega) ?_
    refine SIdx.mk 0 (ratP x) rfl rfl ?_
    refine SDraw.mk (by kernel_rfl) ?_
    repeat refine SOp.mk _ _ (And.intro rfl rfl) rfl ?_
    refine SOp.mk _ _ (SCall.pure (ratcmp_ok x a hx.sz ha.sz (by omega)) (And.intro rfl rfl)) rfl ?_
    repeat refine SOp.mk _ _ (And.intro rfl rfl) rfl ?_
    by_cases hc : a < x
    · refine SOp.mk _ _ (SCmp.yes (decide_eq_true (cmpQ_pos.2 hc)) (And.intro rfl rfl)) rfl ?_
      refine SWrap.i64z 1 rfl (by omega) ?_
      exact ⟨1, [0, 1], Nat.le_refl _, by decide, ⟨rfl, by simp, rfl, rfl, rfl, ⟨rfl, rfl, rfl, rfl, trivial⟩, ⟨by rw [if_neg (by omega), if_pos hc]; rfl, rfl, trivial⟩⟩⟩
    · refine SOp.mk _ _ (SCmp.no (decide_eq_false fun h => hc (cmpQ_pos.1 h)) (And.intro rfl rfl)) rfl ?_
      refine SWrap.i64z 1 rfl (by omega) ?_
      exact ⟨1, [0, 1], Nat.le_refl _, by decide, ⟨rfl, by simp, rfl, rfl, rfl, ⟨rfl, rfl, rfl, rfl, trivial⟩, ⟨by rw [if_neg (by omega), if_neg hc]; rfl, rfl, trivial⟩⟩⟩
  · rw [if_neg hi]
    refine SCmp.no (decide_eq_false (by omega)) ?_
    exact SRet.see rfl rfl (pers_rats [x])

abbrev wrSee : FuncId → Bool := fun f => Nat.beq f 114
theorem csize_ok (m : Bool) (l : List Rat) {k : Nat} (hl : Bl l k) (hk1 : 1 ≤ k) (hk : k + k ≤ 1048576) (hn : l.length ≤ 1000000) : CallP Tryz.prog 61 [ratsM m l] (.p (ratP (sizeQ l))) [] := by
  refine callG_of_vc (wr := wrSee) Γok mixed Tryz.func61 (by kernel_rfl) rfl (by kernel_rfl) (le_of_ble rfl) (by simp) ?_
  refine SCall.pure (czero_ok) ?_
  refine SZ.mk (l.length : Int) (by simp) ?_
  refine SLoop.mk Nat (fun i => ([(2, .bptr 0 0), (3, .bptr 1 0), (9, .p (ratsM m l)), (10, .p (.int .i64 l.length)), (11, .p (.int .i64 i))], [.box 30 [.p (.bool false), .p (.sl false 1 []), .p (.sl false 1 [])], .box 121 (boxQ (sizeQ (l.take i)))]))
    (fun i => i ≤ l.length) (fun i => l.length - i) 0 [0, 1] (Nat.zero_le _) ⟨rfl, by simp, rfl, rfl, rfl, ⟨rfl, rfl, rfl, rfl, rfl, trivial⟩, ⟨rfl, rfl, trivial⟩⟩ ?_
  intro i h1
  have h1 : i ≤ l.length := h1
  have bs := sizeQ_bz hl hk1 i h1
  by_cases hi : i < l.length
  · refine SCmp.yes (decide_eq_true (by omega)) ?_
    have bq := hl i hi
    refine SIdx.rb i rfl hi ?_
    refine SCall.pure (vabs_ok (l.getD i 0) bq (by omega)) ?_
    have c1 := see1_ok (sizeQ (l.take i)) (l.getD i 0).abs bs bq.abs hk
    rw [← sizeQ_take l hi] at c1
    refine SCall.see (base := 4) (h1 := 1) (h2 := 3) (by omega) (by decide) (by decide) rfl rfl c1 ?_
    refine SWrap.i64z ((i + 1 : Nat) : Int) (by omega) (by omega) ?_
    exact ⟨i + 1, [0, 1], hi, by show l.length - (i + 1) < l.length - i; omega, ⟨rfl, by simp, rfl, rfl, rfl, ⟨rfl, rfl, rfl, rfl, rfl, trivial⟩, ⟨rfl, rfl, trivial⟩⟩⟩
  · refine SCmp.no (decide_eq_false (by omega)) ?_
    have : i = l.length := by omega
    subst this
    rw [List.take_length]
    exact SRet.pure (.p _ (pers_rat _ _ _))

theorem rsize16_ok (m : Bool) (l : List Rat) {k : Nat} (hl : Bl l k) (hk1 : 1 ≤ k) (hk : k + k ≤ 1048576) (hn : l.length ≤ 1000000) : CallP Tryz.prog 55 [ratsM m l] (.p (ratP (sizeQ l))) [] := by
  refine callG_of_vc (wr := wr0) Γok mixed Tryz.func55 (by kernel_rfl) rfl (by kernel_rfl) (le_of_ble rfl) (by simp) ?_
  refine SCall.pure (rzero_ok) ?_
  refine SLoop.mk Nat (fun i => ([(0, .p (ratsM m l)), (2, .bptr 0 0), (3, .bptr 1 0), (4, .p (.int .i64 i))], [.box 30 [.p (.bool false), .p (.sl false 1 []), .p (.sl false 1 [])], .box 30 (boxQ (sizeQ (l.take i)))]))
    (fun i => i ≤ l.length) (fun i => l.length - i) 0 [0, 1] (Nat.zero_le _) ⟨rfl, by simp, rfl, rfl, rfl, ⟨rfl, rfl, rfl, rfl, trivial⟩, ⟨rfl, rfl, trivial⟩⟩ ?_
  intro i h1
  have h1 : i ≤ l.length := h1
  have bs := sizeQ_bz hl hk1 i h1
  refine SZ.mk (l.length : Int) (by simp) ?_
  by_cases hi : i < l.length
  · refine SCmp.yes (decide_eq_true (by omega)) ?_
    have bq := hl i hi
    have e := sizeQ_take l hi
    obtain ⟨q, hq⟩ : ∃ q, q = l.getD i 0 := ⟨_, rfl⟩
    have hv : (rats l)[i]? = some (ratP q) := by rw [List.getElem?_map, List.getElem?_eq_getElem hi, hq]; simp [List.getD, List.getElem?_eq_getElem hi]
    rw [← hq] at e bq
    refine SDraw.mk (by kernel_rfl) ?_
    repeat refine SOp.mk _ _ (And.intro rfl rfl) rfl ?_
    refine SOp.mk _ _ (SIdx.mk i (ratP q) rfl hv (And.intro rfl rfl)) rfl ?_
    repeat refine SOp.mk _ _ (And.intro rfl rfl) rfl ?_
    refine SOp.mk _ _ (SCall.pure (rabs_ok q bq (by omega)) (And.intro rfl rfl)) rfl ?_
    repeat refine SOp.mk _ _ (And.intro rfl rfl) rfl ?_
    refine SOp.mk _ _ (SCall.pure (rcmpq_ok q.abs (sizeQ (l.take i)) bq.abs bs hk) (And.intro rfl rfl)) rfl ?_
    repeat refine SOp.mk _ _ (And.intro rfl rfl) rfl ?_
    by_cases hc : sizeQ (l.take i) < q.abs
    · refine SOp.mk _ _ (SCmp.yes (decide_eq_true (cmpQ_pos.2 hc)) (And.intro rfl rfl)) rfl ?_
      rw [if_pos hc] at e
      refine SIdx.mk i (ratP q) rfl hv ?_
      refine SCall.pure (rabs_ok q bq (by omega)) ?_
      refine SWrap.i64z ((i + 1 : Nat) : Int) (by omega) (by omega) ?_
      exact ⟨i + 1, [0, 1], hi, by show l.length - (i + 1) < l.length - i; omega, ⟨rfl, by simp, rfl, rfl, rfl, ⟨rfl, rfl, rfl, rfl, trivial⟩, ⟨rfl, by rw [e]; rfl, trivial⟩⟩⟩
    · refine SOp.mk _ _ (SCmp.no (decide_eq_false fun h => hc (cmpQ_pos.1 h)) (And.intro rfl rfl)) rfl ?_
      rw [if_neg hc] at e
      refine SWrap.i64z ((i + 1 : Nat) : Int) (by omega) (by omega) ?_
      exact ⟨i + 1, [0, 1], hi, by show l.length - (i + 1) < l.length - i; omega, ⟨rfl, by simp, rfl, rfl, rfl, ⟨rfl, rfl, rfl, rfl, trivial⟩, ⟨rfl, by rw [e]; rfl, trivial⟩⟩⟩
  · refine SCmp.no (decide_eq_false (by omega)) ?_
    have : i = l.length := by omega
    subst this
    rw [List.take_length]
    exact SRet.pure (.p _ (pers_rat _ _ _))
end Go.Proofs.YtacklcbgkigcaaaGreat
