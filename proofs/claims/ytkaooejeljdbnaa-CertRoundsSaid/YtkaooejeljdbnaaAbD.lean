/- Regions that draw their order: whatever the order, the outcome is that of the text's order. -/
import Derived.Test.YtkaooejeljdbnaaAb16
namespace Go.Proofs.Ytkaooejeljdbnaa
open Go
set_option linter.unusedVariables false
set_option linter.unusedSimpArgs false

/-! #### folds over the operations that are done -/
def foldD {σ : Type} (app : σ → Nat → σ) (D : Nat → Bool) (x : σ) : Nat → σ
  | 0 => x
  | k + 1 => bif D k then app (foldD app D x k) k else foldD app D x k
def addD (D : Nat → Bool) (k : Nat) : Nat → Bool := fun j => D j || Nat.beq j k
def allD : Nat → Bool := fun _ => true

theorem foldD_congr {σ : Type} {app : σ → Nat → σ} {D D' : Nat → Bool} {x : σ} : ∀ (n : Nat), (∀ j, j < n → D j = D' j) → foldD app D x n = foldD app D' x n := by
  intro n
  induction n with
  | zero => intro _; rfl
  | succ n ih =>
    intro h
    simp only [foldD]
    rw [ih fun j hj => h j (by omega), h n (by omega)]
theorem beq_ne {i j : Nat} (h : i ≠ j) : Nat.beq i j = false := by
  cases e : Nat.beq i j with
  | false => rfl
  | true => exact (h (Nat.eq_of_beq_eq_true e)).elim
theorem addD_ne {D : Nat → Bool} {k j : Nat} (h : j ≠ k) : addD D k j = D j := by simp [addD, beq_ne h]
theorem addD_same {D : Nat → Bool} {k : Nat} : addD D k k = true := by simp [addD]

theorem foldD_add {σ : Type} {app : σ → Nat → σ} {D : Nat → Bool} {x : σ} {k : Nat} (hk : D k = false) : ∀ n, k < n → (∀ j, k < j → j < n → D j = true → ∀ y, app (app y k) j = app (app y j) k) → foldD app (addD D k) x n = app (foldD app D x n) k := by
  intro n
  induction n with
  | zero => intro h; omega
  | succ n ih =>
    intro hn hc
    simp only [foldD]
    by_cases e : k = n
    · subst e
      rw [addD_same, hk, foldD_congr (D' := D) k fun j hj => addD_ne (by omega)]
      rfl
    · rw [addD_ne (by omega), ih (by omega) fun j h1 h2 => hc j h1 (by omega)]
      cases hd : D n with
      | false => rfl
      | true => exact hc n (by omega) (by omega) hd _

theorem foldD_shift {σ : Type} {app : σ → Nat → σ} {x : σ} : ∀ n, foldD app allD x (n + 1) = foldD (fun y k => app y (k + 1)) allD (app x 0) n := by
  intro n
  induction n with
  | zero => rfl
  | succ n ih =>
    rw [foldD, ih]
    rfl

/-! #### what was done before -/
def ClosedD (ops : List Oper) (D : Nat → Bool) : Prop := ∀ j o, D j = true → ops[j]? = some o → ∀ e ∈ o.after.toList, Region.binds .any e = true → D e.on = true

theorem maskOf_ok {ops : List Oper} {D : Nat → Bool} (hD : ClosedD ops D) {acc : List Nat} (hacc : ∀ j, j < acc.length → D j = true → ∀ i, (acc.getD j 0).testBit i = true → D i = true) : ∀ (es : List Edge), (∀ e ∈ es, Region.binds .any e = true → D e.on = true) → ∀ i, (maskOf acc es).testBit i = true → D i = true := by
  intro es
  induction es with
  | nil => intro _ i h; simp [maskOf] at h
  | cons e es ih =>
    intro hes i h
    simp only [maskOf] at h
    cases hb : Region.binds .any e with
    | false => rw [hb] at h; exact ih (fun e he => hes e (List.mem_cons_of_mem _ he)) i h
    | true =>
      rw [hb] at h
      have hon := hes e List.mem_cons_self hb
      have h : ((2 ^ e.on ||| acc.getD e.on 0) ||| maskOf acc es).testBit i = true := h
      rw [Nat.testBit_or, Nat.testBit_or, Bool.or_eq_true, Bool.or_eq_true] at h
      rcases h with (h | h) | h
      · rw [Nat.testBit_two_pow] at h
        have : e.on = i := by simpa using h
        rw [← this]; exact hon
      · rcases Nat.lt_or_ge e.on acc.length with hlt | hge
        · exact hacc _ hlt hon i h
        · rw [getD_ge _ _ hge] at h; simp at h
      · exact ih (fun e he => hes e (List.mem_cons_of_mem _ he)) i h

theorem masks_ok {ops : List Oper} {D : Nat → Bool} (hD : ClosedD ops D) : ∀ (rest : List Oper) (acc : List Nat), ops.drop acc.length = rest → (∀ j, j < acc.length → D j = true → ∀ i, (acc.getD j 0).testBit i = true → D i = true) →
    ∀ j, D j = true → ∀ i, ((masksGo rest acc).getD j 0).testBit i = true → D i = true := by
  intro rest
  induction rest with
  | nil =>
    intro acc _ hacc j hj i h
    simp only [masksGo] at h
    rcases Nat.lt_or_ge j acc.length with hlt | hge
    · exact hacc j hlt hj i h
    · rw [getD_ge _ _ hge] at h; simp at h
  | cons o rest ih =>
    intro acc hd hacc j hj i h
    simp only [masksGo] at h
    have ho : ops[acc.length]? = some o := by
      have := congrArg (fun l => l[0]?) hd
      simpa [List.getElem?_drop] using this
    refine ih (acc ++ [maskOf acc o.after.toList]) ?_ ?_ j hj i h
    · have := congrArg (List.drop 1) hd
      rw [List.drop_drop] at this
      simpa using this
    · intro j hlt hj i h
      by_cases e : j < acc.length
      · refine hacc j e hj i ?_
        simpa [List.getD, List.getElem?_append_left e] using h
      · have : j = acc.length := by simp at hlt; omega
        subst this
        have h : (maskOf acc o.after.toList).testBit i = true := by simpa [List.getD] using h
        exact maskOf_ok hD hacc _ (fun e he hb => hD _ o hj ho e he hb) i h

section
variable {P : Program} {Γ : Tab} {E : Env} {n : Nat}

theorem drawOK_dep {ops : Array Oper} (h : drawOK ops = true) {j : Nat} {o : Oper} (ho : ops[j]? = some o) : ∀ e ∈ o.after.toList, Region.binds .any e = true → e.on < j := by
  intro e he hb
  have hm : (o, j) ∈ ops.toList.zipIdx := by rw [List.mem_zipIdx_iff_getElem?]; simpa using ho
  have := List.all_eq_true.1 h _ hm
  rw [Bool.and_eq_true] at this
  have := List.all_eq_true.1 this.1 e he
  rw [hb] at this
  simpa using this
theorem drawOK_pair {ops : Array Oper} (h : drawOK ops = true) {i j : Nat} {x y : Oper} (hx : ops[i]? = some x) (hy : ops[j]? = some y) (hij : i < j) :
    (x.apart ops y = true ∧ quiet ops x.op = true ∧ quiet ops y.op = true) ∨ ∀ D, ClosedD ops.toList D → D j = true → D i = true := by
  have hmx : (x, i) ∈ ops.toList.zipIdx := by rw [List.mem_zipIdx_iff_getElem?]; simpa using hx
  have hmy : (y, j) ∈ ops.toList.zipIdx := by rw [List.mem_zipIdx_iff_getElem?]; simpa using hy
  have := List.all_eq_true.1 h _ hmy
  rw [Bool.and_eq_true] at this
  have := List.all_eq_true.1 this.2 _ hmx
  have hlt : Nat.blt i j = true := by simpa using hij
  simp only [hlt, Bool.not_true, Bool.false_or, Bool.or_eq_true, Bool.and_eq_true] at this
  rcases this with h1 | h2
  · exact .inl h1
  · exact .inr fun D hD hj => masks_ok hD _ [] rfl (fun j hj => absurd hj (Nat.not_lt_zero _)) j hj i h2

theorem drawOKX_dep {ops : Array Oper} (h : drawOKX ops = true) {j : Nat} {o : Oper} (ho : ops[j]? = some o) : ∀ e ∈ o.after.toList, Region.binds .any e = true → e.on < j := by
  intro e he hb
  have hm : (o, j) ∈ ops.toList.zipIdx := by rw [List.mem_zipIdx_iff_getElem?]; simpa using ho
  have := List.all_eq_true.1 h _ hm
  rw [Bool.and_eq_true] at this
  have := List.all_eq_true.1 this.1 e he
  rw [hb] at this
  simpa using this
theorem drawOKX_pair {ops : Array Oper} {acc : Acc} (h : drawOKX ops = true) (hdy : dynOK ops acc = true) {i j : Nat} {x y : Oper} (hx : ops[i]? = some x) (hy : ops[j]? = some y) (hij : i < j) :
    (x.apart ops y = true ∧ ((quiet ops x.op = true ∧ quiet ops y.op = true) ∨ (quiet0 x.op = true ∧ quiet0 y.op = true ∧ disjB (acc.getD i ([], [])) (acc.getD j ([], [])) = true))) ∨ ∀ D, ClosedD ops.toList D → D j = true → D i = true := by
  have hmx : (x, i) ∈ ops.toList.zipIdx := by rw [List.mem_zipIdx_iff_getElem?]; simpa using hx
  have hmy : (y, j) ∈ ops.toList.zipIdx := by rw [List.mem_zipIdx_iff_getElem?]; simpa using hy
  have := List.all_eq_true.1 h _ hmy
  rw [Bool.and_eq_true] at this
  have h1 := List.all_eq_true.1 this.2 _ hmx
  have h2 := List.all_eq_true.1 (List.all_eq_true.1 hdy _ hmy) _ hmx
  have hlt : Nat.blt i j = true := by simpa using hij
  simp only [hlt, Bool.not_true, Bool.false_or, Bool.or_eq_true, Bool.and_eq_true] at h1 h2
  have ord : ((masksGo ops.toList []).getD j 0).testBit i = true → ∀ D, ClosedD ops.toList D → D j = true → D i = true := fun h2 D hD hj => masks_ok hD _ [] rfl (fun j hj => absurd hj (Nat.not_lt_zero _)) j hj i h2
  rcases h1 with ⟨ha, hq⟩ | h1
  · rcases h2 with h2 | h2 | h2
    · exact .inl ⟨ha, .inl h2⟩
    · exact .inr (ord h2)
    · exact .inl ⟨ha, .inr ⟨hq.1, hq.2, h2⟩⟩
  · exact .inr (ord h1)
theorem AV.hands_ok : ∀ {c : AV} {h : Hd}, c.men h → h.key ∈ c.hands := by
  have key : ∀ (m : Nat) (c : AV), SizeOf.sizeOf c ≤ m → ∀ h, c.men h → h.key ∈ c.hands := by
    intro m
    induction m with
    | zero => intro c hc; cases c <;> simp at hc
    | succ m ih =>
      intro c hc h hm
      have list : ∀ cs : List AV, SizeOf.sizeOf cs ≤ m → AV.menL cs h → h.key ∈ AV.handsL cs := by
        intro cs
        induction cs with
        | nil => intro _ h; simp only [AV.menL] at h
        | cons d cs ih2 =>
          intro hs hj
          simp only [AV.menL] at hj
          simp at hs
          simp only [AV.handsL, List.mem_append]
          rcases hj with hj | hj
          · exact .inl (ih d (by omega) h hj)
          · exact .inr (ih2 (by omega) hj)
      cases c <;> simp only [AV.men] at hm <;> simp only [AV.hands]
      case bptr g o => subst hm; simp
      case eptr g _ _ _ => subst hm; simp
      case vec g _ _ _ => subst hm; simp
      case map g => subst hm; simp
      case agg cs => exact list cs (by simp at hc; omega) hm
      case tup cs => exact list cs (by simp at hc; omega) hm
      case fn f fs cs =>
        rw [List.mem_append]
        rcases hm with hm | hm
        · exact .inl (list fs (by simp at hc; omega) hm)
        · exact .inr (list cs (by simp at hc; omega) hm)
  exact fun {c h} => key _ c (Nat.le_refl _) h
theorem AV.handsL_ok {cs : List AV} {c : AV} {h : Hd} (hc : c ∈ cs) (hm : c.men h) : h.key ∈ AV.handsL cs := by
  induction cs with
  | nil => cases hc
  | cons d cs ih =>
    simp only [AV.handsL, List.mem_append]
    rcases List.mem_cons.1 hc with rfl | hc
    · exact .inl (AV.hands_ok hm)
    · exact .inr (ih hc)

/-! #### the semantics looks at its operands alone -/
abbrev W0 (s : Nat → AV) (x : Operand) (K : AV → Prop) : Prop := K (rho s x)
abbrev LK0 (L : Hd → Blk) (h : Hd) (K : Blk → Prop) : Prop := K (L h)

theorem getSK_iff {s : Sl} {t : Nat} {K : AV → Prop} : getSK s t K = K (getS s t) := by
  induction s with
  | nil => rfl
  | cons x s ih =>
    obtain ⟨i, v⟩ := x
    simp only [getSK, getS]
    cases e : Nat.beq i t
    · exact ih
    · rfl
theorem WK_eq (s : Sl) : WK s = W0 (getS s) := by
  funext x K
  cases x with
  | tmp t => exact getSK_iff
  | _ => rfl
theorem lookN_ex {H : Hp} {n : Nat} {K : Blk → Prop} : lookN H n K = K (H.getD n .free) := by
  induction H generalizing n with
  | nil => rfl
  | cons B H ih =>
    cases n with
    | zero => rfl
    | succ n => exact ih
/-- What is asked of a block is asked of it as it lies. -/
theorem lookK_imp {H : Hp} {h : Hd} {K : Blk → Prop} (hk : lookK H h K) : LK0 (look H) h K := lookK_ok H h K hk

section
variable {s s' : Nat → AV} {L L' : Hd → Blk} {base : Nat}

theorem evalL_congr : ∀ (xs : List Operand) (K : List AV → Prop), (∀ x ∈ xs, rho s x = rho s' x) → evalL (W0 s) xs K = evalL (W0 s') xs K := by
  intro xs
  induction xs with
  | nil => intro K _; rfl
  | cons x xs ih =>
    intro K h
    simp only [evalL, W0]
    rw [h x List.mem_cons_self, ih _ fun y hy => h y (List.mem_cons_of_mem _ hy)]
theorem evalL_eq : ∀ (xs : List Operand) (K : List AV → Prop), evalL (W0 s) xs K = K (xs.map (rho s)) := by
  intro xs
  induction xs with
  | nil => intro K; rfl
  | cons x xs ih => intro K; simp only [evalL, W0]; rw [ih]; rfl
theorem buildK_congr {place : Nat → Option (Nat × TypeId)} : ∀ (ps : List (Nat × Operand)) (cs : List AV) (K : List AV → Prop), (∀ x ∈ ps, rho s x.2 = rho s' x.2) → buildK Γ (W0 s) place ps cs K = buildK Γ (W0 s') place ps cs K := by
  intro ps
  induction ps with
  | nil => intro cs K _; rfl
  | cons x ps ih =>
    intro cs K h
    obtain ⟨i, x⟩ := x
    have e := h (i, x) List.mem_cons_self
    simp only [buildK, W0]
    simp only at e
    rw [e]
    have ih' : ∀ cs', buildK Γ (W0 s) place ps cs' K = buildK Γ (W0 s') place ps cs' K := fun cs' => ih cs' K fun y hy => h y (List.mem_cons_of_mem _ hy)
    simp only [ih']
theorem elemsK_congr {e : TypeId} {size : Nat} : ∀ (ps : List (Nat × Operand)) (m : Nat) (K : List PV → Prop), (∀ x ∈ ps, rho s x.2 = rho s' x.2) → elemsK Γ (W0 s) e size m ps K = elemsK Γ (W0 s') e size m ps K := by
  intro ps
  induction ps with
  | nil => intro m K _; rfl
  | cons x ps ih =>
    intro m K h
    obtain ⟨i, x⟩ := x
    have e := h (i, x) List.mem_cons_self
    simp only [elemsK, W0]
    simp only at e
    rw [e]
    have ih' : ∀ K', elemsK Γ (W0 s) _ size (m + 1) ps K' = elemsK Γ (W0 s') _ size (m + 1) ps K' := fun K' => ih (m + 1) K' fun y hy => h y (List.mem_cons_of_mem _ hy)
    simp only [ih']
theorem rowsK_congr {e : TypeId} : ∀ (ps : List (Nat × Operand)) (m : Nat) (K : List AV → Prop), (∀ x ∈ ps, rho s x.2 = rho s' x.2) → rowsK Γ (W0 s) e m ps K = rowsK Γ (W0 s') e m ps K := by
  intro ps
  induction ps with
  | nil => intro m K _; rfl
  | cons x ps ih =>
    intro m K h
    obtain ⟨i, x⟩ := x
    have e := h (i, x) List.mem_cons_self
    simp only [rowsK, W0]
    simp only at e
    rw [e]
    have ih' : ∀ K', rowsK Γ (W0 s) _ (m + 1) ps K' = rowsK Γ (W0 s') _ (m + 1) ps K' := fun K' => ih (m + 1) K' fun y hy => h y (List.mem_cons_of_mem _ hy)
    simp only [ih']
theorem optK_congr (x : Option Operand) (d : Int) (K : Int → Prop) (h : ∀ y, x = some y → rho s y = rho s' y) : optK (W0 s) x d K = optK (W0 s') x d K := by
  cases x with
  | none => rfl
  | some y => simp only [optK, W0]; rw [h y rfl]

theorem LK_congr {h : Hd} {K : Blk → Prop} (hL : L h ≠ .free → L' h = L h) (hf : ¬ K .free) (hk : K (L h)) : K (L' h) := by
  by_cases e : L h = .free
  · rw [e] at hk; exact (hf hk).elim
  · rw [hL e]; exact hk

/-- What a value names, and what the boxes and rows of rows name that it names. -/
def Reach (L : Hd → Blk) (v : AV) (h : Hd) : Prop := v.men h ∨ (∃ k, v.men k ∧ (L k).men h) ∨ ∃ k k', v.men k ∧ (L k).men k' ∧ (L k').men h

theorem LendR.congr {c : AV} {p : PV} (hL : ∀ h, c.men h → L h ≠ .free → L' h = L h) (h : LendR L c p) : LendR L' c p := by
  cases h with
  | p v ho => exact .p _ ho
  | vec hB hl => exact .vec ((hL _ rfl (by rw [hB]; exact fun e => by cases e)).trans hB) hl
theorem SLendR.congr {cs : List AV} {len : Nat} {K K' : List PV → Prop} (hL : ∀ h, AV.menL cs h → L h ≠ .free → L' h = L h) (hK : ∀ l, K l → K' l) (h : SLendR L cs len K) : SLendR L' cs len K' := by
  obtain ⟨ps, h1, h2, h3, h4⟩ := h
  exact ⟨ps, h1, h2, fun i c p e1 e2 => (h3 i c p e1 e2).congr fun h hm => hL h (AV.menL_mem (List.mem_of_getElem? e1) hm), hK _ h4⟩
theorem lend1_congr {LK : Hd → (Blk → Prop) → Prop} (hLK : ∀ h K, LK h K → K (L h)) {c : AV} {K K' : PV → Prop} (hL : ∀ h, c.men h ∨ (∃ k, c.men k ∧ (L k).men h) → L h ≠ .free → L' h = L h) (hK : ∀ v, K v → K' v) (hk : lend1 L LK c K) : lend1 L' (LK0 L') c K' := by
  unfold lend1 at hk ⊢
  split at hk
  · rename_i h W off len
    have e := hL h (.inl rfl)
    have hR := fun g hg => hL g (.inr ⟨h, rfl, hg⟩)
    simp only [LK0] at hk ⊢
    have hk := hLK _ _ hk
    cases hB : L h with
    | vec T W' es =>
      rw [e (by rw [hB]; exact fun e => by cases e), hB]
      rw [hB] at hk
      simp only at hk ⊢
      cases hw : Nat.beq W W' with
      | false => rw [hw] at hk; exact hk.elim
      | true =>
        rw [hw] at hk
        obtain ⟨es', h1, h2, h3⟩ := hk
        exact ⟨es', h1, h2, hK _ h3⟩
    | rows T cs =>
      rw [e (by rw [hB]; exact fun e => by cases e), hB]
      rw [hB] at hk hR
      simp only at hk ⊢
      cases hw : (Nat.beq W 1 && Nat.beq off 0) with
      | false => rw [hw] at hk; exact hk.elim
      | true => rw [hw] at hk; exact SLendR.congr hR (fun l => hK _) hk
    | _ => rw [hB] at hk; exact hk.elim
  · rename_i h
    have e := hL h (.inl rfl)
    simp only [LK0] at hk ⊢
    have hk := hLK _ _ hk
    cases hB : L h with
    | map es =>
      rw [e (by rw [hB]; exact fun e => by cases e), hB]
      rw [hB] at hk
      exact hK _ hk
    | _ => rw [hB] at hk; exact hk.elim
  · rename_i v
    cases ho : v.one with
    | true => rw [ho] at hk; exact hK _ hk
    | false => rw [ho] at hk; exact hk.elim
  · exact hK _ hk
  · exact hk.elim
theorem lendCells_congr {LK : Hd → (Blk → Prop) → Prop} (hLK : ∀ h K, LK h K → K (L h)) : ∀ (cs : List AV) (K K' : List PV → Prop), (∀ h, AV.menL cs h ∨ (∃ k, AV.menL cs k ∧ (L k).men h) → L h ≠ .free → L' h = L h) → (∀ l, K l → K' l) → lendCells L LK cs K → lendCells L' (LK0 L') cs K' := by
  intro cs
  induction cs with
  | nil => intro K K' _ hK h; exact hK _ h
  | cons c cs ih =>
    intro K K' hL hK h
    simp only [lendCells] at h ⊢
    refine lend1_congr hLK (fun h hm => hL h ?_) (fun v hv => ih _ _ (fun h hm => hL h ?_) (fun l => hK _) hv) h
    · rcases hm with hm | ⟨k, hm, h2⟩
      · exact .inl (.inl hm)
      · exact .inr ⟨k, .inl hm, h2⟩
    · rcases hm with hm | ⟨k, hm, h2⟩
      · exact .inl (.inr hm)
      · exact .inr ⟨k, .inr hm, h2⟩
theorem allP_mono : ∀ (cs : List AV) (A A' : List PV → Prop) (B B' : List AV → Prop), (∀ l, A l → A' l) → (∀ l, B l → B' l) → allP cs A B → allP cs A' B' := by
  intro cs
  induction cs with
  | nil => intro A A' B B' hA hB h; simp only [allP] at h ⊢; exact hA _ h
  | cons c cs ih =>
    intro A A' B B' hA hB h
    have reb : ∀ (cs : List AV) (B B' : List AV → Prop), (∀ l, B l → B' l) → allP.rebuild cs B → allP.rebuild cs B' := by
      intro cs
      induction cs with
      | nil => intro B B' hB h; exact hB _ h
      | cons c cs ih => intro B B' hB h; exact ih _ _ (fun l => hB _) h
    cases c <;> first
      | exact ih _ _ _ _ (fun l => hA _) (fun l => hB _) h
      | exact reb _ _ _ (fun l => hB _) h
/-- As above, and what is left over is the list itself. -/
theorem allP_monoJ : ∀ (cs : List AV) (A A' : List PV → Prop) (B B' : List AV → Prop), (∀ l, A l → A' l) → (B cs → B' cs) → allP cs A B → allP cs A' B' := by
  intro cs
  induction cs with
  | nil => intro A A' B B' hA hB h; simp only [allP] at h ⊢; exact hA _ h
  | cons c cs ih =>
    intro A A' B B' hA hB h
    have reb : ∀ (cs : List AV) (B B' : List AV → Prop), (B cs → B' cs) → allP.rebuild cs B → allP.rebuild cs B' := by
      intro cs
      induction cs with
      | nil => intro B B' hB h; exact hB h
      | cons c cs ih => intro B B' hB h; exact ih (fun l => B (c :: l)) (fun l => B' (c :: l)) hB h
    cases c with
    | p v => exact ih (fun l => A (v :: l)) (fun l => A' (v :: l)) (fun l => B (.p v :: l)) (fun l => B' (.p v :: l)) (fun l => hA _) hB h
    | tf b => exact ih (fun l => A (.bool b :: l)) (fun l => A' (.bool b :: l)) (fun l => B (.tf b :: l)) (fun l => B' (.tf b :: l)) (fun l => hA _) hB h
    | _ => exact reb cs (fun l => B (_ :: l)) (fun l => B' (_ :: l)) hB h

theorem lendA0_congr {LK : Hd → (Blk → Prop) → Prop} (hLK : ∀ h K, LK h K → K (L h)) {t : TypeId} {v : AV} {K K' : AV → Prop} (hL : ∀ h, Reach L v h → L h ≠ .free → L' h = L h) (hK : ∀ v, K v → K' v) (hk : lendA0 Γ L LK t v K) : lendA0 Γ L' (LK0 L') t v K' := by
  have mono : ∀ w : AV, asP Γ t w (fun v => K (.p v)) → asP Γ t w (fun v => K' (.p v)) := by
    intro w hw
    unfold asP at hw ⊢
    cases w <;> simp only at hw ⊢ <;> first
      | exact hK _ hw
      | exact hw.elim
      | (split at hw <;> first | (split at hw <;> first | exact hK _ hw | exact hw.elim) | exact hw.elim)
      | exact allP_mono _ _ _ _ _ (fun l => hK _) (fun l h => h) hw
      | skip
    case fn f fs cs =>
      cases fs with
      | nil => exact allP_mono _ _ _ _ _ (fun l => hK _) (fun l h => h) hw
      | cons _ _ => exact hw.elim
  cases v with
  | vec h W off len =>
    simp only [lendA0, LK0] at hk ⊢
    have hk := hLK _ _ hk
    have e := hL h (.inl rfl)
    cases hB : L h with
    | vec T W' es =>
      rw [e (by rw [hB]; simp)]
      rw [hB] at hk ⊢
      simp only at hk ⊢
      cases hw : Nat.beq W W' with
      | false => rw [hw] at hk; exact hk.elim
      | true =>
        rw [hw] at hk
        obtain ⟨es', h1, h2, h3⟩ := hk
        exact ⟨es', h1, h2, hK _ h3⟩
    | _ => rw [hB] at hk; exact hk.elim
  | bptr h o =>
    cases o with
    | succ o => simp only [lendA0] at hk; exact (mono _ hk)
    | zero =>
      simp only [lendA0, LK0] at hk ⊢
      have hk := hLK _ _ hk
      have e := hL h (.inl rfl)
      cases hB : L h with
      | box T cs =>
        have hC : ∀ g, AV.menL cs g ∨ (∃ k, AV.menL cs k ∧ (L k).men g) → L g ≠ .free → L' g = L g := fun g hg => hL g (by
          have hbm : ∀ g, AV.menL cs g → (L h).men g := fun g hg => by rw [hB]; exact hg
          rcases hg with hg | ⟨k, hk, hg⟩
          · exact .inr (.inl ⟨h, rfl, hbm g hg⟩)
          · exact .inr (.inr ⟨h, k, rfl, hbm k hk, hg⟩))
        rw [e (by rw [hB]; simp)]
        rw [hB] at hk ⊢
        simp only at hk ⊢
        cases hΓ : Γ T with
        | none => rw [hΓ] at hk; exact hk.elim
        | some i =>
          rw [hΓ] at hk
          simp only at hk ⊢
          cases ha : i.d.agg with
          | true =>
            rw [ha] at hk
            exact allP_monoJ cs _ _ _ _ (fun l => hK _) (fun h => lendCells_congr hLK cs _ _ hC (fun l => hK _) h) hk
          | false =>
            rw [ha] at hk
            refine allP_mono _ _ _ _ _ (fun l hl => ?_) (fun l h => h) hk
            match l, hl with
            | [c], hl =>
              simp only at hl ⊢
              cases ho : c.one with
              | true => rw [ho] at hl; exact hK _ hl
              | false => rw [ho] at hl; exact hl.elim
            | [], hl => exact hl.elim
            | _ :: _ :: _, hl => exact hl.elim
      | _ => rw [hB] at hk; exact hk.elim
  | map h =>
    simp only [lendA0, LK0] at hk ⊢
    have hk := hLK _ _ hk
    have e := hL h (.inl rfl)
    cases hB : L h with
    | map es =>
      rw [e (by rw [hB]; simp)]
      rw [hB] at hk ⊢
      exact hK _ hk
    | _ => rw [hB] at hk; exact hk.elim
  | _ => simp only [lendA0] at hk ⊢; exact mono _ hk

theorem Reach.of {v w : AV} (hm : ∀ h, v.men h → w.men h) {h : Hd} (hr : Reach L v h) : Reach L w h := by
  rcases hr with hr | ⟨k, h1, h2⟩ | ⟨k, k', h1, h2, h3⟩
  · exact .inl (hm h hr)
  · exact .inr (.inl ⟨k, hm k h1, h2⟩)
  · exact .inr (.inr ⟨k, k', hm k h1, h2, h3⟩)
theorem lendCaps_congr {LK : Hd → (Blk → Prop) → Prop} (hLK : ∀ h K, LK h K → K (L h)) : ∀ (cs : List AV) (K K' : List PV → Prop), (∀ c ∈ cs, ∀ h, Reach L c h → L h ≠ .free → L' h = L h) → (∀ l, K l → K' l) → lendCaps Γ L LK cs K → lendCaps Γ L' (LK0 L') cs K' := by
  intro cs
  induction cs with
  | nil => intro K K' _ hK h; exact hK _ h
  | cons c cs ih =>
    intro K K' hL hK h
    simp only [lendCaps] at h ⊢
    refine lendA0_congr hLK (hL c (by simp)) (fun v hv => ?_) h
    cases v <;> first | exact ih _ _ (fun c hc => hL c (by simp [hc])) (fun l => hK _) hv | exact hv.elim
theorem lendA_congr {LK : Hd → (Blk → Prop) → Prop} (hLK : ∀ h K, LK h K → K (L h)) {t : TypeId} {v : AV} {K K' : AV → Prop} (hL : ∀ h, Reach L v h → L h ≠ .free → L' h = L h) (hK : ∀ v, K v → K' v) (hk : lendA Γ L LK t v K) : lendA Γ L' (LK0 L') t v K' := by
  cases v with
  | fn f fs cs =>
    cases fs with
    | nil => exact lendCaps_congr hLK cs _ _ (fun c hc h hr => hL h (hr.of fun h hm => by simp only [AV.men]; exact .inr (AV.menL_mem hc hm))) (fun l => hK _) hk
    | cons _ _ => exact lendA0_congr (Γ := Γ) (t := t) hLK hL hK hk
  | agg cs =>
    refine lendCaps_congr hLK cs _ _ (fun c hc h hr => hL h (hr.of fun h hm => by simp only [AV.men]; exact AV.menL_mem hc hm)) (fun l hl => ?_) hk
    cases ho : l.all PV.one with
    | false => rw [ho] at hl; exact hl.elim
    | true => rw [ho] at hl; exact hK _ hl
  | vec h W o len =>
    by_cases hc : W = 1 ∧ o = 0
    · obtain ⟨rfl, rfl⟩ := hc
      simp only [lendA, LK0] at hk ⊢
      have hk := hLK _ _ hk
      have e := hL h (.inl rfl)
      have hR := fun g hg => hL g (.inr (.inl ⟨h, rfl, hg⟩))
      cases hB : L h with
      | vec T W' es =>
        rw [e (by rw [hB]; simp)]
        rw [hB] at hk ⊢
        simp only at hk ⊢
        cases hw : Nat.beq 1 W' with
        | false => rw [hw] at hk; exact hk.elim
        | true =>
          rw [hw] at hk
          obtain ⟨es', h1, h2, h3⟩ := hk
          exact ⟨es', h1, h2, hK _ h3⟩
      | rows T cs =>
        rw [e (by rw [hB]; simp)]
        rw [hB] at hk hR ⊢
        exact SLendR.congr hR (fun l => hK _) hk
      | _ => rw [hB] at hk; exact hk.elim
    · have e : ∀ (L : Hd → Blk) (M : Hd → (Blk → Prop) → Prop) (K : AV → Prop), lendA Γ L M t (.vec h W o len) K = lendA0 Γ L M t (.vec h W o len) K := by
        intro L M K
        match W, o, hc with
        | 0, _, _ => rfl
        | 1, 0, hc => exact absurd ⟨rfl, rfl⟩ hc
        | 1, _ + 1, _ => rfl
        | _ + 2, _, _ => rfl
      rw [e] at hk ⊢
      exact lendA0_congr (Γ := Γ) (t := t) hLK hL hK hk
  | _ => exact lendA0_congr (Γ := Γ) (t := t) hLK hL hK hk

theorem lendL_congr {LK : Hd → (Blk → Prop) → Prop} (hLK : ∀ h K, LK h K → K (L h)) : ∀ (l : List (TypeId × AV)) (K K' : List AV → Prop), (∀ x ∈ l, ∀ h, Reach L x.2 h → L h ≠ .free → L' h = L h) → (∀ l, K l → K' l) → lendL Γ L LK false l K → lendL Γ L' (LK0 L') false l K' := by
  intro l
  induction l with
  | nil => intro K K' _ hK h; exact hK _ h
  | cons x l ih =>
    intro K K' hL hK h
    simp only [lendL] at h ⊢
    exact lendA_congr hLK (hL x List.mem_cons_self) (fun v hv => ih _ _ (fun y hy => hL y (List.mem_cons_of_mem _ hy)) (fun l => hK _) hv) h

theorem SCall.congr {f : FuncId} {args : List AV} {K : AV → List (Hd × Blk) → Prop} (h : SCall P false f args L base K) : SCall P false f args L' base K := by
  obtain ⟨hs, args', r, Hin, Hout, hw, hn, hb, ha, hin0, hin, hl, hm, hlen', hfree', hargs, hc, hk⟩ := h
  have : hs = [] := hw rfl
  subst this
  have : Hin = [] := List.length_eq_zero_iff.1 hin0
  subst this
  exact ⟨[], args', r, [], Hout, hw, hn, hb, ha, rfl, (fun i h B e => by simp at e), (fun B hB => by simp at hB), (fun B hB => by simp at hB), hlen', hfree', hargs, hc, hk⟩

theorem entriesK_congr {LK : Hd → (Blk → Prop) → Prop} (hLK : ∀ h K, LK h K → K (L h)) {v : AV} {K K' : List (PV × PV) → Prop} (hL : ∀ h, v.men h → L h ≠ .free → L' h = L h) (hK : ∀ es, K es → K' es) (hk : entriesK LK v K) : entriesK (LK0 L') v K' := by
  unfold entriesK at hk ⊢
  split at hk
  · rename_i h
    have e := hL h rfl
    simp only [LK0] at hk ⊢
    have hk := hLK _ _ hk
    cases hB : L h with
    | map es =>
      rw [e (by rw [hB]; exact fun e => by cases e), hB]
      rw [hB] at hk
      exact hK _ hk
    | _ => rw [hB] at hk; exact hk.elim
  · exact hK _ hk
  · exact hk.elim
theorem mapK_mono {t : TypeId} {K K' : TypeId → TI → TypeId → TI → Prop} (hK : ∀ a b c d, K a b c d → K' a b c d) (hk : mapK Γ t K) : mapK Γ t K' := by
  unfold mapK at hk ⊢
  split at hk
  · split at hk
    · split at hk
      · split at hk
        · exact hK _ _ _ _ hk
        · exact hk.elim
      · exact hk.elim
    · exact hk.elim
  · exact hk.elim
theorem asP_mono {t : TypeId} {w : AV} {K K' : PV → Prop} (hK : ∀ v, K v → K' v) (hw : asP Γ t w K) : asP Γ t w K' := by
  unfold asP at hw ⊢
  cases w <;> simp only at hw ⊢ <;> first
    | exact hK _ hw
    | exact hw.elim
    | (split at hw <;> first | (split at hw <;> first | exact hK _ hw | exact hw.elim) | exact hw.elim)
    | exact allP_mono _ _ _ _ _ (fun l => hK _) (fun l h => h) hw
    | skip
  case fn f fs cs =>
    cases fs with
    | nil => exact allP_mono _ _ _ _ _ (fun l => hK _) (fun l h => h) hw
    | cons _ _ => exact hw.elim
theorem lookupK_congr {LK : Hd → (Blk → Prop) → Prop} (hLK : ∀ h K, LK h K → K (L h)) {t : TypeId} {x k : AV} {ok : Bool} {K : AV → List (Hd × Blk) → Prop} (hL : ∀ h, x.men h → L h ≠ .free → L' h = L h) (hk : lookupK Γ LK t x k ok K) : lookupK Γ (LK0 L') t x k ok K := by
  unfold lookupK at hk ⊢
  refine mapK_mono (fun kt ki et ei hk => asP_mono (fun key hk => ?_) hk) hk
  cases hb : ki.keyB key with
  | false => rw [hb] at hk; exact hk.elim
  | true => rw [hb] at hk; exact entriesK_congr hLK hL (fun _ h => h) hk
theorem updateK_congr {LK : Hd → (Blk → Prop) → Prop} (hLK : ∀ h K, LK h K → K (L h)) {t : TypeId} {m k x : AV} {K : AV → List (Hd × Blk) → Prop} (hL : ∀ h, m.men h → L h ≠ .free → L' h = L h) (hk : updateK Γ LK t m k x K) : updateK Γ (LK0 L') t m k x K := by
  unfold updateK at hk ⊢
  refine mapK_mono (fun kt ki et ei hk => asP_mono (fun key hk => asP_mono (fun val hk => ?_) hk) hk) hk
  cases hb : ki.keyB key with
  | false => rw [hb] at hk; exact hk.elim
  | true =>
    rw [hb] at hk
    simp only [cond_true] at hk ⊢
    split at hk
    · rename_i h _ _ _
      have e := hL h rfl
      simp only [LK0] at hk ⊢
      have hk := hLK _ _ hk
      cases hB : L h with
      | map es =>
        rw [e (by rw [hB]; exact fun e => by cases e), hB]
        rw [hB] at hk
        exact hk
      | _ => rw [hB] at hk; exact hk.elim
    · exact hk.elim

theorem addedK_congr {LK : Hd → (Blk → Prop) → Prop} (hLK : ∀ h K, LK h K → K (L h)) {v : AV} {K K' : Nat → List PV → Prop} (hL : ∀ h, v.men h → L h ≠ .free → L' h = L h) (hK : ∀ W es, K W es → K' W es) (hk : addedK LK v K) : addedK (LK0 L') v K' := by
  cases v with
  | vec h W off len =>
    simp only [addedK, LK0] at hk ⊢
    have hk := hLK _ _ hk
    have e := hL h rfl
    cases hB : L h with
    | vec T W' es =>
      rw [e (by rw [hB]; simp)]
      rw [hB] at hk ⊢
      simp only at hk ⊢
      cases hw : Nat.beq W W' with
      | false => rw [hw] at hk; exact hk.elim
      | true =>
        rw [hw] at hk
        obtain ⟨es', h1, h2, h3⟩ := hk
        exact ⟨es', h1, h2, hK _ _ h3⟩
    | _ => rw [hB] at hk; exact hk.elim
  | emp => exact hK _ _ hk
  | p v =>
    cases v with
    | sl m W es => exact hK _ _ hk
    | _ => exact hk.elim
  | _ => exact hk.elim
theorem addedS_congr {LK : Hd → (Blk → Prop) → Prop} (hLK : ∀ h K, LK h K → K (L h)) {size : Nat} {v : AV} {K K' : List PV → Prop} (hL : ∀ h, v.men h → L h ≠ .free → L' h = L h) (hK : ∀ es, K es → K' es) (hk : addedS LK size v K) : addedS (LK0 L') size v K' := by
  unfold addedS at hk ⊢
  refine addedK_congr hLK hL (fun W es h => ?_) hk
  have cc : cond (Nat.beq W size) (K es) False → cond (Nat.beq W size) (K' es) False := by
    cases Nat.beq W size with
    | true => exact hK _
    | false => exact id
  cases v with
  | emp => exact hK _ h
  | _ => exact cc h
theorem appendK_congr {LK : Hd → (Blk → Prop) → Prop} (hLK : ∀ h K, LK h K → K (L h)) {e0 : TypeId} {i : TI} {x y : AV} {K : AV → List (Hd × Blk) → Prop} (hx : ∀ h, x.men h → L h ≠ .free → L' h = L h) (hy : ∀ h, y.men h → L h ≠ .free → L' h = L h)
    (hk : appendK LK base e0 i x y K) : appendK (LK0 L') base e0 i x y K := by
  unfold appendK at hk ⊢
  cases h1 : Nat.ble 1 i.size with
  | false => rw [h1] at hk; exact hk.elim
  | true =>
    rw [h1] at hk
    simp only [cond_true] at hk ⊢
    cases x with
    | emp => exact addedS_congr hLK hy (fun _ => id) hk
    | vec h W o len =>
      cases o with
      | succ o => exact hk.elim
      | zero =>
        simp only at hk ⊢
        cases hc : (Nat.beq W i.size && notVec h y) with
        | false => rw [hc] at hk; exact hk.elim
        | true =>
          rw [hc] at hk
          simp only [cond_true, LK0] at hk ⊢
          have hk := hLK _ _ hk
          have e := hx h rfl
          cases hB : L h with
          | vec T W' es =>
            rw [e (by rw [hB]; simp)]
            rw [hB] at hk ⊢
            simp only at hk ⊢
            cases hw : (Nat.beq W W' && Nat.beq T e0) with
            | false => rw [hw] at hk; exact hk.elim
            | true =>
              rw [hw] at hk
              obtain ⟨h2, h3⟩ := hk
              exact ⟨h2, addedS_congr hLK hy (fun _ => id) h3⟩
          | _ => rw [hB] at hk; exact hk.elim
    | _ => exact hk.elim
theorem isRows_congr {LK : Hd → (Blk → Prop) → Prop} (hLK : ∀ h K, LK h K → K (L h)) {y : AV} {J J' : Option (List AV) → Prop} (hy : ∀ h, y.men h → L h ≠ .free → L' h = L h) (hJ : ∀ o, J o → J' o) (hk : isRows LK y J) : isRows (LK0 L') y J' := by
  unfold isRows at hk ⊢
  split at hk
  · rename_i h len
    have e := hy h rfl
    simp only [LK0] at hk ⊢
    have hk := hLK _ _ hk
    cases hB : L h with
    | vec T W' es =>
      rw [e (by rw [hB]; simp)]
      rw [hB] at hk ⊢
      exact hJ none hk
    | rows T cs =>
      rw [e (by rw [hB]; simp)]
      rw [hB] at hk ⊢
      simp only at hk ⊢
      cases hw : Nat.beq len cs.length with
      | false => rw [hw] at hk; exact hk.elim
      | true => rw [hw] at hk; exact hJ _ hk
    | _ => rw [hB] at hk; exact hk.elim
  · exact hJ none hk
theorem appendR_congr {LK : Hd → (Blk → Prop) → Prop} (hLK : ∀ h K, LK h K → K (L h)) {e0 : TypeId} {i : TI} {x y : AV} {xs : List AV} {K : AV → List (Hd × Blk) → Prop} (hx : ∀ h, x.men h → L h ≠ .free → L' h = L h)
    (hk : appendR LK base e0 i x y xs K) : appendR (LK0 L') base e0 i x y xs K := by
  unfold appendR at hk ⊢
  cases h1 : (Nat.beq i.size 1 && !xs.isEmpty) with
  | false => rw [h1] at hk; exact hk.elim
  | true =>
    rw [h1] at hk
    simp only [cond_true] at hk ⊢
    split at hk
    · exact hk
    · rename_i h len
      have e := hx h rfl
      simp only [LK0] at hk ⊢
      have hk := hLK _ _ hk
      cases hB : L h with
      | rows T cs =>
        rw [e (by rw [hB]; simp)]
        rw [hB] at hk ⊢
        exact hk
      | _ => rw [hB] at hk; exact hk.elim
    · exact hk.elim
theorem appendA_congr {LK : Hd → (Blk → Prop) → Prop} (hLK : ∀ h K, LK h K → K (L h)) {e0 : TypeId} {i : TI} {x y : AV} {K : AV → List (Hd × Blk) → Prop} (hx : ∀ h, x.men h → L h ≠ .free → L' h = L h) (hy : ∀ h, y.men h → L h ≠ .free → L' h = L h)
    (hk : appendA LK base e0 i x y K) : appendA (LK0 L') base e0 i x y K :=
  isRows_congr hLK hy (fun o hk => match o, hk with
    | none, hk => appendK_congr hLK hx hy hk
    | some _, hk => appendR_congr hLK hx hk) hk
theorem appendB_congr {LK : Hd → (Blk → Prop) → Prop} (hLK : ∀ h K, LK h K → K (L h)) {t t' : TypeId} {ts' : List TypeId} {x y : AV} {K : AV → List (Hd × Blk) → Prop} (hx : ∀ h, x.men h → L h ≠ .free → L' h = L h) (hy : ∀ h, y.men h → L h ≠ .free → L' h = L h)
    (hk : builtinK Γ LK base .append (t :: t' :: ts') [x, y] K) : builtinK Γ (LK0 L') base .append (t :: t' :: ts') [x, y] K := by
  simp only [builtinK] at hk ⊢
  cases hc : (Nat.beq t t' && ts'.isEmpty) with
  | false => rw [hc] at hk; exact hk.elim
  | true =>
    rw [hc] at hk
    simp only [cond_true] at hk ⊢
    unfold elemK at hk ⊢
    split at hk
    · rename_i i h1
      split at hk
      · rename_i e h2
        split at hk
        · exact appendA_congr hLK hx hy hk
        · exact hk.elim
      · exact hk.elim
    · exact hk.elim

theorem opSem_congr {LK : Hd → (Blk → Prop) → Prop} (hLK : ∀ h K, LK h K → K (L h)) {op : Op} {K : AV → List (Hd × Blk) → Prop} (hq : quiet0 op = true) (hs : ∀ x ∈ op.operands.toList, rho s x = rho s' x) (hA : looks op = true → ∀ x ∈ op.operands.toList, ∀ h, Reach L (rho s' x) h → L h ≠ .free → L' h = L h)
    (hk : opSem Γ P (fun _ => false) (W0 s) LK L base op K) : opSem Γ P (fun _ => false) (W0 s') (LK0 L') L' base op K := by
  have hL : looks op = true → ∀ x ∈ op.operands.toList, ∀ h, (rho s' x).men h → L h ≠ .free → L' h = L h := fun hl x hx h hm => hA hl x hx h (.inl hm)
  cases op <;> first | (simp only [quiet0] at hq; exact absurd hq (by decide)) | skip
  case move x => simp only [opSem, W0] at hk ⊢; rw [← hs x (by simp [Op.operands])]; exact hk
  case assign x => simp only [opSem, W0] at hk ⊢; rw [← hs x (by simp [Op.operands])]; exact hk
  case pick c x y => simp only [opSem, W0] at hk ⊢; rw [← hs c (by simp [Op.operands]), ← hs x (by simp [Op.operands]), ← hs y (by simp [Op.operands])]; exact hk
  case alloc t => exact hk
  case box t x => simp only [opSem, W0] at hk ⊢; rw [← hs x (by simp [Op.operands])]; exact hk
  case build t ps =>
    have e : ∀ place cs K, buildK Γ (W0 s) place ps.toList cs K = buildK Γ (W0 s') place ps.toList cs K := fun place cs K => buildK_congr _ _ _ fun x hx => hs _ (by simp only [Op.operands]; exact List.mem_map_of_mem hx)
    simp only [opSem, e] at hk ⊢
    exact hk
  case buildSlice t m ps =>
    have e : ∀ ee size m K, elemsK Γ (W0 s) ee size m ps.toList K = elemsK Γ (W0 s') ee size m ps.toList K := fun ee size m K => elemsK_congr _ _ _ fun x hx => hs _ (by simp only [Op.operands]; exact List.mem_map_of_mem hx)
    have e2 : ∀ ee m K, rowsK Γ (W0 s) ee m ps.toList K = rowsK Γ (W0 s') ee m ps.toList K := fun ee m K => rowsK_congr _ _ _ fun x hx => hs _ (by simp only [Op.operands]; exact List.mem_map_of_mem hx)
    have e3 : ∀ K, evalL (W0 s) (ps.toList.map (·.2)) K = evalL (W0 s') (ps.toList.map (·.2)) K := fun K => evalL_congr _ _ fun x hx => hs _ (by simp only [Op.operands]; exact hx)
    simp only [opSem, e, e2, e3] at hk ⊢
    exact hk
  case load t x =>
    have e := hs x (by simp [Op.operands])
    have hL := hL rfl x (by simp [Op.operands])
    simp only [opSem, W0] at hk ⊢
    rw [e] at hk
    generalize rho s' x = v at hk hL
    cases v with
    | bptr h off =>
      have hk := hLK h _ (show LK h _ from hk)
      by_cases hfr : L h = .free
      · rw [hfr] at hk; exact hk.elim
      · show LK0 L' h _
        unfold LK0
        rw [hL h rfl hfr]; exact hk
    | eptr h W i off =>
      have hk := hLK h _ (show LK h _ from hk)
      by_cases hfr : L h = .free
      · rw [hfr] at hk; exact hk.elim
      · show LK0 L' h _
        unfold LK0
        rw [hL h rfl hfr]; exact hk
    | p v => cases v <;> exact hk
    | _ => exact hk
  case store t x y =>
    have e := hs x (by simp [Op.operands])
    have e2 := hs y (by simp [Op.operands])
    have hL := hL rfl x (by simp [Op.operands])
    simp only [opSem, W0] at hk ⊢
    rw [e, e2] at hk
    generalize rho s' x = v at hk hL
    cases v with
    | bptr h off =>
      have hk := hLK h _ (show LK h _ from hk)
      by_cases hfr : L h = .free
      · rw [hfr] at hk; exact hk.elim
      · show LK0 L' h _
        unfold LK0
        rw [hL h rfl hfr]; exact hk
    | eptr h W i off =>
      cases off with
      | zero =>
        have hk := hLK h _ (show LK h _ from hk)
        by_cases hfr : L h = .free
        · rw [hfr] at hk; exact hk.elim
        · show LK0 L' h _
          unfold LK0
          rw [hL h rfl hfr]; exact hk
      | succ off => exact hk
    | _ => exact hk
  case binOp op t x y ty => simp only [opSem, W0] at hk ⊢; rw [← hs x (by simp [Op.operands]), ← hs y (by simp [Op.operands])]; exact hk
  case unOp op t x => simp only [opSem, W0] at hk ⊢; rw [← hs x (by simp [Op.operands])]; exact hk
  case nilCheck x => simp only [opSem, W0] at hk ⊢; rw [← hs x (by simp [Op.operands])]; exact hk
  case convert src dst x => simp only [opSem, W0] at hk ⊢; rw [← hs x (by simp [Op.operands])]; exact hk
  case makeFunc f fs cs =>
    cases f with
    | func f =>
      simp only [opSem] at hk ⊢
      rw [evalL_eq] at hk ⊢
      rw [evalL_eq] at hk ⊢
      have e1 : fs.toList.map (rho s) = fs.toList.map (rho s') := List.map_congr_left fun x hx => hs x (by simp only [Op.operands, Array.toList_append]; exact List.mem_append_left _ hx)
      have e2 : cs.toList.map (rho s) = cs.toList.map (rho s') := List.map_congr_left fun x hx => hs x (by simp only [Op.operands, Array.toList_append]; exact List.mem_append_right _ hx)
      rw [e1, e2] at hk
      exact hk
    | _ => exact hk
  case makeMap t r =>
    cases r with
    | none => exact hk
    | some r => simp only [quiet0] at hq; exact absurd hq (by decide)
  case lookup t x k ok =>
    simp only [opSem, W0] at hk ⊢
    rw [← hs x (by simp [Op.operands]), ← hs k (by simp [Op.operands])]
    exact lookupK_congr hLK (by rw [hs x (by simp [Op.operands])]; exact hL rfl x (by simp [Op.operands])) hk
  case mapUpdate t m k x =>
    simp only [opSem, W0] at hk ⊢
    rw [← hs m (by simp [Op.operands]), ← hs k (by simp [Op.operands]), ← hs x (by simp [Op.operands])]
    exact updateK_congr hLK (by rw [hs m (by simp [Op.operands])]; exact hL rfl m (by simp [Op.operands])) hk
  case insert t m k x =>
    simp only [opSem, W0] at hk ⊢
    rw [← hs m (by simp [Op.operands]), ← hs k (by simp [Op.operands]), ← hs x (by simp [Op.operands])]
    exact updateK_congr hLK (by rw [hs m (by simp [Op.operands])]; exact hL rfl m (by simp [Op.operands])) hk
  case makeSlice t l c => simp only [opSem, W0] at hk ⊢; rw [← hs l (by simp [Op.operands]), ← hs c (by simp [Op.operands])]; exact hk
  case slice t x lo hi mx =>
    have e := hs x (by simp [Op.operands])
    have e1 : ∀ d K, optK (W0 s) lo d K = optK (W0 s') lo d K := fun d K => optK_congr _ _ _ fun y hy => hs y (by subst hy; simp [Op.operands])
    have e2 : ∀ d K, optK (W0 s) hi d K = optK (W0 s') hi d K := fun d K => optK_congr _ _ _ fun y hy => hs y (by subst hy; simp [Op.operands])
    have e3 : ∀ d K, optK (W0 s) mx d K = optK (W0 s') mx d K := fun d K => optK_congr _ _ _ fun y hy => hs y (by subst hy; simp [Op.operands])
    simp only [opSem] at hk ⊢
    have hk : sliceK Γ (W0 s) t (rho s x) lo hi mx K := hk
    show sliceK Γ (W0 s') t (rho s' x) lo hi mx K
    rw [e] at hk
    unfold sliceK at hk ⊢
    simp only [e1, e2, e3] at hk
    exact hk
  case fieldAddr t x f => simp only [opSem, W0] at hk ⊢; rw [← hs x (by simp [Op.operands])]; exact hk
  case field t x f => simp only [opSem, W0] at hk ⊢; rw [← hs x (by simp [Op.operands])]; exact hk
  case indexAddr t x i => simp only [opSem, W0] at hk ⊢; rw [← hs x (by simp [Op.operands]), ← hs i (by simp [Op.operands])]; exact hk
  case index t x i => simp only [opSem, W0] at hk ⊢; rw [← hs x (by simp [Op.operands]), ← hs i (by simp [Op.operands])]; exact hk
  case extract x i => simp only [opSem, W0] at hk ⊢; rw [← hs x (by simp [Op.operands])]; exact hk
  case call c =>
    obtain ⟨f, xs, ts⟩ := c
    cases f with
    | builtin b =>
      have hmem : ∀ x ∈ xs.toList, x ∈ (Op.call ⟨.builtin b, xs, ts⟩).operands.toList := fun x hx => by simp only [Op.operands, Call.operands]; simpa using hx
      have e1 : xs.toList.map (rho s) = xs.toList.map (rho s') := List.map_congr_left fun x hx => hs x (hmem x hx)
      simp only [opSem] at hk ⊢
      rw [evalL_eq] at hk ⊢
      rw [e1] at hk
      generalize hvs : xs.toList.map (rho s') = vs at hk
      generalize ts.toList = tl at hk
      have hLv : looks (Op.call ⟨.builtin b, xs, ts⟩) = true → ∀ v ∈ vs, ∀ h, v.men h → L h ≠ .free → L' h = L h := fun hl v hv h hm hne => by
        obtain ⟨x, hx, e⟩ := List.mem_map.1 (hvs ▸ hv)
        exact hL hl x (hmem x hx) h (by rw [e]; exact hm) hne
      rcases vs with _ | ⟨x, _ | ⟨y, _ | ⟨z, vs⟩⟩⟩ <;> rcases tl with _ | ⟨t, _ | ⟨t', ts'⟩⟩ <;> cases b <;> first | (simp only [quiet0] at hq; exact absurd hq (by decide)) | exact hk | skip
      exact appendB_congr hLK (hLv rfl x (by simp)) (hLv rfl y (by simp)) hk
    | invoke r m => cases hq
    | value f =>
      have hf : f ∈ (Op.call ⟨.value f, xs, ts⟩).operands.toList := by simp [Op.operands, Call.operands]
      have hmem : ∀ x ∈ xs.toList, x ∈ (Op.call ⟨.value f, xs, ts⟩).operands.toList := fun x hx => by simp only [Op.operands, Call.operands]; simp at hx ⊢; exact .inr hx
      have e1 : xs.toList.map (rho s) = xs.toList.map (rho s') := List.map_congr_left fun x hx => hs x (hmem x hx)
      simp only [opSem, W0] at hk ⊢
      rw [hs f hf] at hk
      have hA := hA rfl
      have hLf := hA f hf
      cases hlen : Nat.beq ts.toList.length xs.toList.length with
      | false => rw [hlen] at hk; exact hk.elim
      | true =>
        rw [hlen] at hk
        simp only [cond_true] at hk ⊢
        have hvs : ∀ x ∈ ts.toList.zip (xs.toList.map (rho s')), ∀ h, Reach L x.2 h → L h ≠ .free → L' h = L h := fun x hx h hm hne => by
          have := (List.of_mem_zip hx).2
          obtain ⟨y, hy, e⟩ := List.mem_map.1 this
          exact hA y (hmem y hy) h (by rw [e]; exact hm) hne
        generalize rho s' f = vf at hk hLf
        cases vf with
        | fn fid fs cs =>
          simp only at hk ⊢
          rw [evalL_eq] at hk ⊢
          rw [e1] at hk
          refine lendL_congr hLK _ _ _ (fun x hx h hm hne => ?_) (fun l => SCall.congr) hk
          rcases List.mem_append.1 hx with hx | hx
          · obtain ⟨v, hv, rfl⟩ := List.mem_map.1 hx
            exact hLf h (hm.of fun h hm => by simp only [AV.men, AV.menL_iff]; exact .inl ⟨v, hv, hm⟩) hne
          · rcases List.mem_append.1 hx with hx | hx
            · exact hvs x hx h hm hne
            · obtain ⟨v, hv, rfl⟩ := List.mem_map.1 hx
              exact hLf h (hm.of fun h hm => by simp only [AV.men, AV.menL_iff]; exact .inr ⟨v, hv, hm⟩) hne
        | p v =>
          cases v with
          | fn fid cs =>
            simp only at hk ⊢
            rw [evalL_eq] at hk ⊢
            rw [e1] at hk
            refine lendL_congr hLK _ _ _ (fun x hx h hm hne => ?_) (fun l => SCall.congr) hk
            rcases List.mem_append.1 hx with hx | hx
            · exact hvs x hx h hm hne
            · obtain ⟨v, hv, rfl⟩ := List.mem_map.1 hx
              have no : ∀ k, ¬ (AV.p v).men k := fun k hk => by simp only [AV.men] at hk
              rcases hm with hm | ⟨k, h1, _⟩ | ⟨k, _, h1, _⟩
              · exact (no _ hm).elim
              · exact (no _ h1).elim
              · exact (no _ h1).elim
          | _ => exact hk.elim
        | _ => exact hk.elim
end
end
end Go.Proofs.Ytkaooejeljdbnaa
