/- FTWhole: what its proof needs, part 3. -/
import Derived.Test.YtnilcfiemgmfdaaGreatHTWhole2
set_option linter.unusedVariables false
set_option linter.unusedSimpArgs false
namespace Go.Proofs.YtnilcfiemgmfdaaGreat
open Go
set_option linter.unusedVariables false
set_option linter.unusedSimpArgs false
def foldD {σ : Type} (app : σ → Nat → σ) (D : Nat → Bool) (x : σ) : Nat → σ
  | 0 => x
  | k + 1 => bif D k then app (foldD app D x k) k else foldD app D x k
def addD (D : Nat → Bool) (k : Nat) : Nat → Bool := fun j => D j || Nat.beq j k
def allD : Nat → Bool := fun _ => true
theorem foldD_congr {σ : Type} {app : σ → Nat → σ} {D D' : Nat → Bool} {x : σ} : ∀ (n : Nat), (∀ j, j < n → D j = D' j) → foldD app D x n = foldD app D' x n := by
  intro n
  induction n with
  | zero => intro _; rfl
  | succ n ih =>
    intro h
    simp only [foldD]
    rw [ih fun j hj => h j (by omega), h n (by omega)]
theorem beq_ne {i j : Nat} (h : i ≠ j) : Nat.beq i j = false := by
  cases e : Nat.beq i j with
  | false => rfl
  | true => exact (h (Nat.eq_of_beq_eq_true e)).elim
theorem addD_ne {D : Nat → Bool} {k j : Nat} (h : j ≠ k) : addD D k j = D j := by simp [addD, beq_ne h]
theorem addD_same {D : Nat → Bool} {k : Nat} : addD D k k = true := by simp [addD]
theorem foldD_add {σ : Type} {app : σ → Nat → σ} {D : Nat → Bool} {x : σ} {k : Nat} (hk : D k = false) : ∀ n, k < n → (∀ j, k < j → j < n → D j = true → ∀ y, app (app y k) j = app (app y j) k) → foldD app (addD D k) x n = app (foldD app D x n) k := by
  intro n
  induction n with
  | zero => intro h; omega
  | succ n ih =>
    intro hn hc
    simp only [foldD]
    by_cases e : k = n
    · subst e
      rw [addD_same, hk, foldD_congr (D' := D) k fun j hj => addD_ne (by omega)]
      rfl
    · rw [addD_ne (by omega), ih (by omega) fun j h1 h2 => hc j h1 (by omega)]
      cases hd : D n with
      | false => rfl
      | true => exact hc n (by omega) (by omega) hd _
theorem foldD_shift {σ : Type} {app : σ → Nat → σ} {x : σ} : ∀ n, foldD app allD x (n + 1) = foldD (fun y k => app y (k + 1)) allD (app x 0) n := by
  intro n
  induction n with
  | zero => rfl
  | succ n ih =>
    rw [foldD, ih]
    rfl
def ClosedD (ops : List Oper) (D : Nat → Bool) : Prop := ∀ j o, D j = true → ops[j]? = some o → ∀ e ∈ o.after.toList, Region.binds .any e = true → D e.on = true
theorem maskOf_ok {ops : List Oper} {D : Nat → Bool} (hD : ClosedD ops D) {acc : List Nat} (hacc : ∀ j, j < acc.length → D j = true → ∀ i, (acc.getD j 0).testBit i = true → D i = true) : ∀ (es : List Edge), (∀ e ∈ es, Region.binds .any e = true → D e.on = true) → ∀ i, (maskOf acc es).testBit i = true → D i = true := by
  intro es
  induction es with
  | nil => intro _ i h; simp [maskOf] at h
  | cons e es ih =>
    intro hes i h
    simp only [maskOf] at h
    cases hb : Region.binds .any e with
    | false => rw [hb] at h; exact ih (fun e he => hes e (List.mem_cons_of_mem _ he)) i h
    | true =>
      rw [hb] at h
      have hon := hes e List.mem_cons_self hb
      have h : ((2 ^ e.on ||| acc.getD e.on 0) ||| maskOf acc es).testBit i = true := h
      rw [Nat.testBit_or, Nat.testBit_or, Bool.or_eq_true, Bool.or_eq_true] at h
      rcases h with (h | h) | h
      · rw [Nat.testBit_two_pow] at h
        have : e.on = i := by simpa using h
        rw [← this]; exact hon
      · rcases Nat.lt_or_ge e.on acc.length with hlt | hge
        · exact hacc _ hlt hon i h
        · rw [getD_ge _ _ hge] at h; simp at h
      · exact ih (fun e he => hes e (List.mem_cons_of_mem _ he)) i h
theorem masks_ok {ops : List Oper} {D : Nat → Bool} (hD : ClosedD ops D) : ∀ (rest : List Oper) (acc : List Nat), ops.drop acc.length = rest → (∀ j, j < acc.length → D j = true → ∀ i, (acc.getD j 0).testBit i = true → D i = true) →
    ∀ j, D j = true → ∀ i, ((masksGo rest acc).getD j 0).testBit i = true → D i = true := by
  intro rest
  induction rest with
  | nil =>
    intro acc _ hacc j hj i h
    simp only [masksGo] at h
    rcases Nat.lt_or_ge j acc.length with hlt | hge
    · exact hacc j hlt hj i h
    · rw [getD_ge _ _ hge] at h; simp at h
  | cons o rest ih =>
    intro acc hd hacc j hj i h
    simp only [masksGo] at h
    have ho : ops[acc.length]? = some o := by
      have := congrArg (fun l => l[0]?) hd
      simpa [List.getElem?_drop] using this
    refine ih (acc ++ [maskOf acc o.after.toList]) ?_ ?_ j hj i h
    · have := congrArg (List.drop 1) hd
      rw [List.drop_drop] at this
      simpa using this
    · intro j hlt hj i h
      by_cases e : j < acc.length
      · refine hacc j e hj i ?_
        simpa [List.getD, List.getElem?_append_left e] using h
      · have : j = acc.length := by simp at hlt; omega
        subst this
        have h : (maskOf acc o.after.toList).testBit i = true := by simpa [List.getD] using h
        exact maskOf_ok hD hacc _ (fun e he hb => hD _ o hj ho e he hb) i h
section
variable {P : Program} {Γ : Tab} {E : Env} {n : Nat}
theorem drawOK_dep {ops : Array Oper} (h : drawOK ops = true) {j : Nat} {o : Oper} (ho : ops[j]? = some o) : ∀ e ∈ o.after.toList, Region.binds .any e = true → e.on < j := by
  intro e he hb
  have hm : (o, j) ∈ ops.toList.zipIdx := by rw [List.mem_zipIdx_iff_getElem?]; simpa using ho
  have := List.all_eq_true.1 h _ hm
  rw [Bool.and_eq_true] at this
  have := List.all_eq_true.1 this.1 e he
  rw [hb] at this
  simpa using this
theorem drawOK_pair {ops : Array Oper} (h : drawOK ops = true) {i j : Nat} {x y : Oper} (hx : ops[i]? = some x) (hy : ops[j]? = some y) (hij : i < j) :
    (x.apart ops y = true ∧ quiet ops x.op = true ∧ quiet ops y.op = true) ∨ ∀ D, ClosedD ops.toList D → D j = true → D i = true := by
  have hmx : (x, i) ∈ ops.toList.zipIdx := by rw [List.mem_zipIdx_iff_getElem?]; simpa using hx
  have hmy : (y, j) ∈ ops.toList.zipIdx := by rw [List.mem_zipIdx_iff_getElem?]; simpa using hy
  have := List.all_eq_true.1 h _ hmy
  rw [Bool.and_eq_true] at this
  have := List.all_eq_true.1 this.2 _ hmx
  have hlt : Nat.blt i j = true := by simpa using hij
  simp only [hlt, Bool.not_true, Bool.false_or, Bool.or_eq_true, Bool.and_eq_true] at this
  rcases this with h1 | h2
  · exact .inl h1
  · exact .inr fun D hD hj => masks_ok hD _ [] rfl (fun j hj => absurd hj (Nat.not_lt_zero _)) j hj i h2
theorem drawOKX_dep {ops : Array Oper} (h : drawOKX ops = true) {j : Nat} {o : Oper} (ho : ops[j]? = some o) : ∀ e ∈ o.after.toList, Region.binds .any e = true → e.on < j := by
  intro e he hb
  have hm : (o, j) ∈ ops.toList.zipIdx := by rw [List.mem_zipIdx_iff_getElem?]; simpa using ho
  have := List.all_eq_true.1 h _ hm
  rw [Bool.and_eq_true] at this
  have := List.all_eq_true.1 this.1 e he
  rw [hb] at this
  simpa using this
theorem drawOKX_pair {ops : Array Oper} {acc : Acc} (h : drawOKX ops = true) (hdy : dynOK ops acc = true) {i j : Nat} {x y : Oper} (hx : ops[i]? = some x) (hy : ops[j]? = some y) (hij : i < j) :
    (x.apart ops y = true ∧ ((quiet ops x.op = true ∧ quiet ops y.op = true) ∨ (quiet0 x.op = true ∧ quiet0 y.op = true ∧ disjB (acc.getD i ([], [])) (acc.getD j ([], [])) = true))) ∨ ∀ D, ClosedD ops.toList D → D j = true → D i = true := by
  have hmx : (x, i) ∈ ops.toList.zipIdx := by rw [List.mem_zipIdx_iff_getElem?]; simpa using hx
  have hmy : (y, j) ∈ ops.toList.zipIdx := by rw [List.mem_zipIdx_iff_getElem?]; simpa using hy
  have := List.all_eq_true.1 h _ hmy
  rw [Bool.and_eq_true] at this
  have h1 := List.all_eq_true.1 this.2 _ hmx
  have h2 := List.all_eq_true.1 (List.all_eq_true.1 hdy _ hmy) _ hmx
  have hlt : Nat.blt i j = true := by simpa using hij
  simp only [hlt, Bool.not_true, Bool.false_or, Bool.or_eq_true, Bool.and_eq_true] at h1 h2
  have ord : ((masksGo ops.toList []).getD j 0).testBit i = true → ∀ D, ClosedD ops.toList D → D j = true → D i = true := fun h2 D hD hj => masks_ok hD _ [] rfl (fun j hj => absurd hj (Nat.not_lt_zero _)) j hj i h2
  rcases h1 with ⟨ha, hq⟩ | h1
  · rcases h2 with h2 | h2 | h2
    · exact .inl ⟨ha, .inl h2⟩
    · exact .inr (ord h2)
    · exact .inl ⟨ha, .inr ⟨hq.1, hq.2, h2⟩⟩
  · exact .inr (ord h1)
theorem AV.hands_ok : ∀ {c : AV} {h : Hd}, c.men h → h.key ∈ c.hands := by
  have key : ∀ (m : Nat) (c : AV), SizeOf.sizeOf c ≤ m → ∀ h, c.men h → h.key ∈ c.hands := by
    intro m
    induction m with
    | zero => intro c hc; cases c <;> simp at hc
    | succ m ih =>
      intro c hc h hm
      have list : ∀ cs : List AV, SizeOf.sizeOf cs ≤ m → AV.menL cs h → h.key ∈ AV.handsL cs := by
        intro cs
        induction cs with
        | nil => intro _ h; simp only [AV.menL] at h
        | cons d cs ih2 =>
          intro hs hj
          simp only [AV.menL] at hj
          simp at hs
          simp only [AV.handsL, List.mem_append]
          rcases hj with hj | hj
          · exact .inl (ih d (by omega) h hj)
          · exact .inr (ih2 (by omega) hj)
      cases c <;> simp only [AV.men] at hm <;> simp only [AV.hands]
      case bptr g o => subst hm; simp
      case eptr g _ _ _ => subst hm; simp
      case vec g _ _ _ => subst hm; simp
      case map g => subst hm; simp
      case agg cs => exact list cs (by simp at hc; omega) hm
      case tup cs => exact list cs (by simp at hc; omega) hm
      case fn f fs cs =>
        rw [List.mem_append]
        rcases hm with hm | hm
        · exact .inl (list fs (by simp at hc; omega) hm)
        · exact .inr (list cs (by simp at hc; omega) hm)
  exact fun {c h} => key _ c (Nat.le_refl _) h
theorem AV.handsL_ok {cs : List AV} {c : AV} {h : Hd} (hc : c ∈ cs) (hm : c.men h) : h.key ∈ AV.handsL cs := by
  induction cs with
  | nil => cases hc
  | cons d cs ih =>
    simp only [AV.handsL, List.mem_append]
    rcases List.mem_cons.1 hc with rfl | hc
    · exact .inl (AV.hands_ok hm)
    · exact .inr (ih hc)
abbrev W0 (s : Nat → AV) (x : Operand) (K : AV → Prop) : Prop := K (rho s x)
abbrev LK0 (L : Hd → Blk) (h : Hd) (K : Blk → Prop) : Prop := K (L h)
theorem getSK_iff {s : Sl} {t : Nat} {K : AV → Prop} : getSK s t K = K (getS s t) := by
  induction s with
  | nil => rfl
  | cons x s ih =>
    obtain ⟨i, v⟩ := x
    simp only [getSK, getS]
    cases e : Nat.beq i t
    · exact ih
    · rfl
theorem WK_eq (s : Sl) : WK s = W0 (getS s) := by
  funext x K
  cases x with
  | tmp t => exact getSK_iff
  | _ => rfl
section
variable {s s' : Nat → AV} {L L' : Hd → Blk} {base : Nat}
theorem evalL_congr : ∀ (xs : List Operand) (K : List AV → Prop), (∀ x ∈ xs, rho s x = rho s' x) → evalL (W0 s) xs K = evalL (W0 s') xs K := by
  intro xs
  induction xs with
  | nil => intro K _; rfl
  | cons x xs ih =>
    intro K h
    simp only [evalL, W0]
    rw [h x List.mem_cons_self, ih _ fun y hy => h y (List.mem_cons_of_mem _ hy)]
theorem evalL_eq : ∀ (xs : List Operand) (K : List AV → Prop), evalL (W0 s) xs K = K (xs.map (rho s)) := by
  intro xs
  induction xs with
  | nil => intro K; rfl
  | cons x xs ih => intro K; simp only [evalL, W0]; rw [ih]; rfl
theorem buildK_congr {place : Nat → Option (Nat × TypeId)} : ∀ (ps : List (Nat × Operand)) (cs : List AV) (K : List AV → Prop), (∀ x ∈ ps, rho s x.2 = rho s' x.2) → buildK Γ (W0 s) place ps cs K = buildK Γ (W0 s') place ps cs K := by
  intro ps
  induction ps with
  | nil => intro cs K _; rfl
  | cons x ps ih =>
    intro cs K h
    obtain ⟨i, x⟩ := x
    have e := h (i, x) List.mem_cons_self
    simp only [buildK, W0]
    simp only at e
    rw [e]
    have ih' : ∀ cs', buildK Γ (W0 s) place ps cs' K = buildK Γ (W0 s') place ps cs' K := fun cs' => ih cs' K fun y hy => h y (List.mem_cons_of_mem _ hy)
    simp only [ih']
theorem elemsK_congr {e : TypeId} {size : Nat} : ∀ (ps : List (Nat × Operand)) (m : Nat) (K : List PV → Prop), (∀ x ∈ ps, rho s x.2 = rho s' x.2) → elemsK Γ (W0 s) e size m ps K = elemsK Γ (W0 s') e size m ps K := by
  intro ps
  induction ps with
  | nil => intro m K _; rfl
  | cons x ps ih =>
    intro m K h
    obtain ⟨i, x⟩ := x
    have e := h (i, x) List.mem_cons_self
    simp only [elemsK, W0]
    simp only at e
    rw [e]
    have ih' : ∀ K', elemsK Γ (W0 s) _ size (m + 1) ps K' = elemsK Γ (W0 s') _ size (m + 1) ps K' := fun K' => ih (m + 1) K' fun y hy => h y (List.mem_cons_of_mem _ hy)
    simp only [ih']
theorem rowsK_congr {e : TypeId} : ∀ (ps : List (Nat × Operand)) (m : Nat) (K : List AV → Prop), (∀ x ∈ ps, rho s x.2 = rho s' x.2) → rowsK Γ (W0 s) e m ps K = rowsK Γ (W0 s') e m ps K := by
  intro ps
  induction ps with
  | nil => intro m K _; rfl
  | cons x ps ih =>
    intro m K h
    obtain ⟨i, x⟩ := x
    have e := h (i, x) List.mem_cons_self
    simp only [rowsK, W0]
    simp only at e
    rw [e]
    have ih' : ∀ K', rowsK Γ (W0 s) _ (m + 1) ps K' = rowsK Γ (W0 s') _ (m + 1) ps K' := fun K' => ih (m + 1) K' fun y hy => h y (List.mem_cons_of_mem _ hy)
    simp only [ih']
theorem optK_congr (x : Option Operand) (d : Int) (K : Int → Prop) (h : ∀ y, x = some y → rho s y = rho s' y) : optK (W0 s) x d K = optK (W0 s') x d K := by
  cases x with
  | none => rfl
  | some y => simp only [optK, W0]; rw [h y rfl]
/-- What a value names, and what the boxes and rows of rows name that it names. -/
def Reach (L : Hd → Blk) (v : AV) (h : Hd) : Prop := v.men h ∨ (∃ k, v.men k ∧ (L k).men h) ∨ ∃ k k', v.men k ∧ (L k).men k' ∧ (L k').men h
theorem LendR.congr {c : AV} {p : PV} (hL : ∀ h, c.men h → L h ≠ .free → L' h = L h) (h : LendR L c p) : LendR L' c p := by
  cases h with
  | p v ho => exact .p _ ho
  | vec hB hl => exact .vec ((hL _ rfl (by rw [hB]; exact fun e => by cases e)).trans hB) hl
theorem SLendR.congr {cs : List AV} {len : Nat} {K K' : List PV → Prop} (hL : ∀ h, AV.menL cs h → L h ≠ .free → L' h = L h) (hK : ∀ l, K l → K' l) (h : SLendR L cs len K) : SLendR L' cs len K' := by
  obtain ⟨ps, h1, h2, h3, h4⟩ := h
  exact ⟨ps, h1, h2, fun i c p e1 e2 => (h3 i c p e1 e2).congr fun h hm => hL h (AV.menL_mem (List.mem_of_getElem? e1) hm), hK _ h4⟩
theorem lend1_congr {LK : Hd → (Blk → Prop) → Prop} (hLK : ∀ h K, LK h K → K (L h)) {c : AV} {K K' : PV → Prop} (hL : ∀ h, c.men h ∨ (∃ k, c.men k ∧ (L k).men h) → L h ≠ .free → L' h = L h) (hK : ∀ v, K v → K' v) (hk : lend1 L LK c K) : lend1 L' (LK0 L') c K' := by
  unfold lend1 at hk ⊢
  split at hk
  · rename_i h W off len
    have e := hL h (.inl rfl)
    have hR := fun g hg => hL g (.inr ⟨h, rfl, hg⟩)
    simp only [LK0] at hk ⊢
    have hk := hLK _ _ hk
    cases hB : L h with
    | vec T W' es =>
      rw [e (by rw [hB]; exact fun e => by cases e), hB]
      rw [hB] at hk
      simp only at hk ⊢
      cases hw : Nat.beq W W' with
      | false => rw [hw] at hk; exact hk.elim
      | true =>
        rw [hw] at hk
        obtain ⟨es', h1, h2, h3⟩ := hk
        exact ⟨es', h1, h2, hK _ h3⟩
    | rows T cs =>
      rw [e (by rw [hB]; exact fun e => by cases e), hB]
      rw [hB] at hk hR
      simp only at hk ⊢
      cases hw : (Nat.beq W 1 && Nat.beq off 0) with
      | false => rw [hw] at hk; exact hk.elim
      | true => rw [hw] at hk; exact SLendR.congr hR (fun l => hK _) hk
    | _ => rw [hB] at hk; exact hk.elim
  · rename_i h
    have e := hL h (.inl rfl)
    simp only [LK0] at hk ⊢
    have hk := hLK _ _ hk
    cases hB : L h with
    | map es =>
      rw [e (by rw [hB]; exact fun e => by cases e), hB]
      rw [hB] at hk
      exact hK _ hk
    | _ => rw [hB] at hk; exact hk.elim
  · rename_i v
    cases ho : v.one with
    | true => rw [ho] at hk; exact hK _ hk
    | false => rw [ho] at hk; exact hk.elim
  · exact hK _ hk
  · exact hk.elim
theorem lendCells_congr {LK : Hd → (Blk → Prop) → Prop} (hLK : ∀ h K, LK h K → K (L h)) : ∀ (cs : List AV) (K K' : List PV → Prop), (∀ h, AV.menL cs h ∨ (∃ k, AV.menL cs k ∧ (L k).men h) → L h ≠ .free → L' h = L h) → (∀ l, K l → K' l) → lendCells L LK cs K → lendCells L' (LK0 L') cs K' := by
  intro cs
  induction cs with
  | nil => intro K K' _ hK h; exact hK _ h
  | cons c cs ih =>
    intro K K' hL hK h
    simp only [lendCells] at h ⊢
    refine lend1_congr hLK (fun h hm => hL h ?_) (fun v hv => ih _ _ (fun h hm => hL h ?_) (fun l => hK _) hv) h
    · rcases hm with hm | ⟨k, hm, h2⟩
      · exact .inl (.inl hm)
      · exact .inr ⟨k, .inl hm, h2⟩
    · rcases hm with hm | ⟨k, hm, h2⟩
      · exact .inl (.inr hm)
      · exact .inr ⟨k, .inr hm, h2⟩
theorem allP_mono : ∀ (cs : List AV) (A A' : List PV → Prop) (B B' : List AV → Prop), (∀ l, A l → A' l) → (∀ l, B l → B' l) → allP cs A B → allP cs A' B' := by
  intro cs
  induction cs with
  | nil => intro A A' B B' hA hB h; simp only [allP] at h ⊢; exact hA _ h
  | cons c cs ih =>
    intro A A' B B' hA hB h
    have reb : ∀ (cs : List AV) (B B' : List AV → Prop), (∀ l, B l → B' l) → allP.rebuild cs B → allP.rebuild cs B' := by
      intro cs
      induction cs with
      | nil => intro B B' hB h; exact hB _ h
      | cons c cs ih => intro B B' hB h; exact ih _ _ (fun l => hB _) h
    cases c <;> first
      | exact ih _ _ _ _ (fun l => hA _) (fun l => hB _) h
      | exact reb _ _ _ (fun l => hB _) h
/-- As above, and what is left over is the list itself. -/
theorem allP_monoJ : ∀ (cs : List AV) (A A' : List PV → Prop) (B B' : List AV → Prop), (∀ l, A l → A' l) → (B cs → B' cs) → allP cs A B → allP cs A' B' := by
  intro cs
  induction cs with
  | nil => intro A A' B B' hA hB h; simp only [allP] at h ⊢; exact hA _ h
  | cons c cs ih =>
    intro A A' B B' hA hB h
    have reb : ∀ (cs : List AV) (B B' : List AV → Prop), (B cs → B' cs) → allP.rebuild cs B → allP.rebuild cs B' := by
      intro cs
      induction cs with
      | nil => intro B B' hB h; exact hB h
      | cons c cs ih => intro B B' hB h; exact ih (fun l => B (c :: l)) (fun l => B' (c :: l)) hB h
    cases c with
    | p v => exact ih (fun l => A (v :: l)) (fun l => A' (v :: l)) (fun l => B (.p v :: l)) (fun l => B' (.p v :: l)) (fun l => hA _) hB h
    | tf b => exact ih (fun l => A (.bool b :: l)) (fun l => A' (.bool b :: l)) (fun l => B (.tf b :: l)) (fun l => B' (.tf b :: l)) (fun l => hA _) hB h
    | _ => exact reb cs (fun l => B (_ :: l)) (fun l => B' (_ :: l)) hB h
theorem lendA0_congr {LK : Hd → (Blk → Prop) → Prop} (hLK : ∀ h K, LK h K → K (L h)) {t : TypeId} {v : AV} {K K' : AV → Prop} (hL : ∀ h, Reach L v h → L h ≠ .free → L' h = L h) (hK : ∀ v, K v → K' v) (hk : lendA0 Γ L LK t v K) : lendA0 Γ L' (LK0 L') t v K' := by
  have mono : ∀ w : AV, asP Γ t w (fun v => K (.p v)) → asP Γ t w (fun v => K' (.p v)) := by
    intro w hw
    unfold asP at hw ⊢
    cases w <;> simp only at hw ⊢ <;> first
      | exact hK _ hw
      | exact hw.elim
      | (split at hw <;> first | (split at hw <;> first | exact hK _ hw | exact hw.elim) | exact hw.elim)
      | exact allP_mono _ _ _ _ _ (fun l => hK _) (fun l h => h) hw
      | skip
    case fn f fs cs =>
      cases fs with
      | nil => exact allP_mono _ _ _ _ _ (fun l => hK _) (fun l h => h) hw
      | cons _ _ => cases cs with
        | nil => exact allP_mono _ _ _ _ _ (fun l => hK _) (fun l h => h) hw
        | cons _ _ => exact hw.elim
  cases v with
  | vec h W off len =>
    simp only [lendA0, LK0] at hk ⊢
    have hk := hLK _ _ hk
    have e := hL h (.inl rfl)
    cases hB : L h with
    | vec T W' es =>
      rw [e (by rw [hB]; simp)]
      rw [hB] at hk ⊢
      simp only at hk ⊢
      cases hw : Nat.beq W W' with
      | false => rw [hw] at hk; exact hk.elim
      | true =>
        rw [hw] at hk
        obtain ⟨es', h1, h2, h3⟩ := hk
        exact ⟨es', h1, h2, hK _ h3⟩
    | _ => rw [hB] at hk; exact hk.elim
  | bptr h o =>
    cases o with
    | succ o => simp only [lendA0] at hk; exact (mono _ hk)
    | zero =>
      simp only [lendA0, LK0] at hk ⊢
      have hk := hLK _ _ hk
      have e := hL h (.inl rfl)
      cases hB : L h with
      | box T cs =>
        have hC : ∀ g, AV.menL cs g ∨ (∃ k, AV.menL cs k ∧ (L k).men g) → L g ≠ .free → L' g = L g := fun g hg => hL g (by
          have hbm : ∀ g, AV.menL cs g → (L h).men g := fun g hg => by rw [hB]; exact hg
          rcases hg with hg | ⟨k, hk, hg⟩
          · exact .inr (.inl ⟨h, rfl, hbm g hg⟩)
          · exact .inr (.inr ⟨h, k, rfl, hbm k hk, hg⟩))
        rw [e (by rw [hB]; simp)]
        rw [hB] at hk ⊢
        simp only at hk ⊢
        cases hΓ : Γ T with
        | none => rw [hΓ] at hk; exact hk.elim
        | some i =>
          rw [hΓ] at hk
          simp only at hk ⊢
          cases ha : i.d.agg with
          | true =>
            rw [ha] at hk
            exact allP_monoJ cs _ _ _ _ (fun l => hK _) (fun h => lendCells_congr hLK cs _ _ hC (fun l => hK _) h) hk
          | false =>
            rw [ha] at hk
            refine allP_mono _ _ _ _ _ (fun l hl => ?_) (fun l h => h) hk
            match l, hl with
            | [c], hl =>
              simp only at hl ⊢
              cases ho : c.one with
              | true => rw [ho] at hl; exact hK _ hl
              | false => rw [ho] at hl; exact hl.elim
            | [], hl => exact hl.elim
            | _ :: _ :: _, hl => exact hl.elim
      | _ => rw [hB] at hk; exact hk.elim
  | map h =>
    simp only [lendA0, LK0] at hk ⊢
    have hk := hLK _ _ hk
    have e := hL h (.inl rfl)
    cases hB : L h with
    | map es =>
      rw [e (by rw [hB]; simp)]
      rw [hB] at hk ⊢
      exact hK _ hk
    | _ => rw [hB] at hk; exact hk.elim
  | _ => simp only [lendA0] at hk ⊢; exact mono _ hk
theorem Reach.of {v w : AV} (hm : ∀ h, v.men h → w.men h) {h : Hd} (hr : Reach L v h) : Reach L w h := by
  rcases hr with hr | ⟨k, h1, h2⟩ | ⟨k, k', h1, h2, h3⟩
  · exact .inl (hm h hr)
  · exact .inr (.inl ⟨k, hm k h1, h2⟩)
  · exact .inr (.inr ⟨k, k', hm k h1, h2, h3⟩)
theorem lendCaps_congr {LK : Hd → (Blk → Prop) → Prop} (hLK : ∀ h K, LK h K → K (L h)) : ∀ (cs : List AV) (K K' : List PV → Prop), (∀ c ∈ cs, ∀ h, Reach L c h → L h ≠ .free → L' h = L h) → (∀ l, K l → K' l) → lendCaps Γ L LK cs K → lendCaps Γ L' (LK0 L') cs K' := by
  intro cs
  induction cs with
  | nil => intro K K' _ hK h; exact hK _ h
  | cons c cs ih =>
    intro K K' hL hK h
    simp only [lendCaps] at h ⊢
    refine lendA0_congr hLK (hL c (by simp)) (fun v hv => ?_) h
    cases v <;> first | exact ih _ _ (fun c hc => hL c (by simp [hc])) (fun l => hK _) hv | exact hv.elim
theorem lendA_congr {LK : Hd → (Blk → Prop) → Prop} (hLK : ∀ h K, LK h K → K (L h)) {t : TypeId} {v : AV} {K K' : AV → Prop} (hL : ∀ h, Reach L v h → L h ≠ .free → L' h = L h) (hK : ∀ v, K v → K' v) (hk : lendA Γ L LK t v K) : lendA Γ L' (LK0 L') t v K' := by
  cases v with
  | fn f fs cs =>
    cases fs with
    | nil => exact lendCaps_congr hLK cs _ _ (fun c hc h hr => hL h (hr.of fun h hm => by simp only [AV.men]; exact .inr (AV.menL_mem hc hm))) (fun l => hK _) hk
    | cons c0 fs =>
      cases cs with
      | nil =>
        have hk : lendCaps Γ L LK (c0 :: fs) (fun l => K (.p (.mfn f l))) := hk
        show lendCaps Γ L' (LK0 L') (c0 :: fs) (fun l => K' (.p (.mfn f l)))
        exact lendCaps_congr hLK (c0 :: fs) _ _ (fun c hc h hr => hL h (hr.of fun h hm => by simp only [AV.men]; exact .inl (AV.menL_mem hc hm))) (fun l => hK _) hk
      | cons _ _ => exact lendA0_congr (Γ := Γ) (t := t) hLK hL hK hk
  | agg cs =>
    refine lendCaps_congr hLK cs _ _ (fun c hc h hr => hL h (hr.of fun h hm => by simp only [AV.men]; exact AV.menL_mem hc hm)) (fun l hl => ?_) hk
    cases ho : l.all PV.one with
    | false => rw [ho] at hl; exact hl.elim
    | true => rw [ho] at hl; exact hK _ hl
  | vec h W o len =>
    by_cases hc : W = 1 ∧ o = 0
    · obtain ⟨rfl, rfl⟩ := hc
      simp only [lendA, LK0] at hk ⊢
      have hk := hLK _ _ hk
      have e := hL h (.inl rfl)
      have hR := fun g hg => hL g (.inr (.inl ⟨h, rfl, hg⟩))
      cases hB : L h with
      | vec T W' es =>
        rw [e (by rw [hB]; simp)]
        rw [hB] at hk ⊢
        simp only at hk ⊢
        cases hw : Nat.beq 1 W' with
        | false => rw [hw] at hk; exact hk.elim
        | true =>
          rw [hw] at hk
          obtain ⟨es', h1, h2, h3⟩ := hk
          exact ⟨es', h1, h2, hK _ h3⟩
      | rows T cs =>
        rw [e (by rw [hB]; simp)]
        rw [hB] at hk hR ⊢
        exact SLendR.congr hR (fun l => hK _) hk
      | _ => rw [hB] at hk; exact hk.elim
    · have e : ∀ (L : Hd → Blk) (M : Hd → (Blk → Prop) → Prop) (K : AV → Prop), lendA Γ L M t (.vec h W o len) K = lendA0 Γ L M t (.vec h W o len) K := by
        intro L M K
        match W, o, hc with
        | 0, _, _ => rfl
        | 1, 0, hc => exact absurd ⟨rfl, rfl⟩ hc
        | 1, _ + 1, _ => rfl
        | _ + 2, _, _ => rfl
      rw [e] at hk ⊢
      exact lendA0_congr (Γ := Γ) (t := t) hLK hL hK hk
  | _ => exact lendA0_congr (Γ := Γ) (t := t) hLK hL hK hk
theorem lendL_congr {LK : Hd → (Blk → Prop) → Prop} (hLK : ∀ h K, LK h K → K (L h)) : ∀ (l : List (TypeId × AV)) (K K' : List AV → Prop), (∀ x ∈ l, ∀ h, Reach L x.2 h → L h ≠ .free → L' h = L h) → (∀ l, K l → K' l) → lendL Γ L LK false l K → lendL Γ L' (LK0 L') false l K' := by
  intro l
  induction l with
  | nil => intro K K' _ hK h; exact hK _ h
  | cons x l ih =>
    intro K K' hL hK h
    simp only [lendL] at h ⊢
    exact lendA_congr hLK (hL x List.mem_cons_self) (fun v hv => ih _ _ (fun y hy => hL y (List.mem_cons_of_mem _ hy)) (fun l => hK _) hv) h
theorem SCall.congr {f : FuncId} {raw args : List AV} {K : AV → List (Hd × Blk) → Prop} (h : SCall P false f raw args L base K) : SCall P false f raw args L' base K := by
  cases h with
  | lent pvs r e hc hk => exact .lent pvs r e hc hk
  | mk hs args' r Hin Hout hw hn hb ha hin0 hin hl hm hlen' hfree' hargs hc hk =>
  have : hs = [] := hw rfl
  subst this
  have : Hin = [] := List.length_eq_zero_iff.1 hin0
  subst this
  exact .mk [] args' r [] Hout hw hn hb ha rfl (fun i h B e => by simp at e) (fun B hB => by simp at hB) (fun B hB => by simp at hB) hlen' hfree' hargs hc hk
theorem entriesK_congr {LK : Hd → (Blk → Prop) → Prop} (hLK : ∀ h K, LK h K → K (L h)) {v : AV} {K K' : List (PV × PV) → Prop} (hL : ∀ h, v.men h → L h ≠ .free → L' h = L h) (hK : ∀ es, K es → K' es) (hk : entriesK LK v K) : entriesK (LK0 L') v K' := by
  unfold entriesK at hk ⊢
  split at hk
  · rename_i h
    have e := hL h rfl
    simp only [LK0] at hk ⊢
    have hk := hLK _ _ hk
    cases hB : L h with
    | map es =>
      rw [e (by rw [hB]; exact fun e => by cases e), hB]
      rw [hB] at hk
      exact hK _ hk
    | _ => rw [hB] at hk; exact hk.elim
  · exact hK _ hk
  · exact hk.elim
theorem mapK_mono {t : TypeId} {K K' : TypeId → TI → TypeId → TI → Prop} (hK : ∀ a b c d, K a b c d → K' a b c d) (hk : mapK Γ t K) : mapK Γ t K' := by
  unfold mapK at hk ⊢
  split at hk
  · split at hk
    · split at hk
      · split at hk
        · exact hK _ _ _ _ hk
        · exact hk.elim
      · exact hk.elim
    · exact hk.elim
  · exact hk.elim
theorem asP_mono {t : TypeId} {w : AV} {K K' : PV → Prop} (hK : ∀ v, K v → K' v) (hw : asP Γ t w K) : asP Γ t w K' := by
  unfold asP at hw ⊢
  cases w <;> simp only at hw ⊢ <;> first
    | exact hK _ hw
    | exact hw.elim
    | (split at hw <;> first | (split at hw <;> first | exact hK _ hw | exact hw.elim) | exact hw.elim)
    | exact allP_mono _ _ _ _ _ (fun l => hK _) (fun l h => h) hw
    | skip
  case fn f fs cs =>
    cases fs with
    | nil => exact allP_mono _ _ _ _ _ (fun l => hK _) (fun l h => h) hw
    | cons _ _ => cases cs with
      | nil => exact allP_mono _ _ _ _ _ (fun l => hK _) (fun l h => h) hw
      | cons _ _ => exact hw.elim
theorem lookupK_congr {LK : Hd → (Blk → Prop) → Prop} (hLK : ∀ h K, LK h K → K (L h)) {t : TypeId} {x k : AV} {ok : Bool} {K : AV → List (Hd × Blk) → Prop} (hL : ∀ h, x.men h → L h ≠ .free → L' h = L h) (hk : lookupK Γ LK t x k ok K) : lookupK Γ (LK0 L') t x k ok K := by
  unfold lookupK at hk ⊢
  refine mapK_mono (fun kt ki et ei hk => asP_mono (fun key hk => ?_) hk) hk
  cases hb : ki.keyB key with
  | false => rw [hb] at hk; exact hk.elim
  | true => rw [hb] at hk; exact entriesK_congr hLK hL (fun _ h => h) hk
theorem updateK_congr {LK : Hd → (Blk → Prop) → Prop} (hLK : ∀ h K, LK h K → K (L h)) {t : TypeId} {m k x : AV} {K : AV → List (Hd × Blk) → Prop} (hL : ∀ h, m.men h → L h ≠ .free → L' h = L h) (hk : updateK Γ LK t m k x K) : updateK Γ (LK0 L') t m k x K := by
  unfold updateK at hk ⊢
  refine mapK_mono (fun kt ki et ei hk => asP_mono (fun key hk => asP_mono (fun val hk => ?_) hk) hk) hk
  cases hb : ki.keyB key with
  | false => rw [hb] at hk; exact hk.elim
  | true =>
    rw [hb] at hk
    simp only [cond_true] at hk ⊢
    split at hk
    · rename_i h _ _ _
      have e := hL h rfl
      simp only [LK0] at hk ⊢
      have hk := hLK _ _ hk
      cases hB : L h with
      | map es =>
        rw [e (by rw [hB]; exact fun e => by cases e), hB]
        rw [hB] at hk
        exact hk
      | _ => rw [hB] at hk; exact hk.elim
    · exact hk.elim
theorem addedK_congr {LK : Hd → (Blk → Prop) → Prop} (hLK : ∀ h K, LK h K → K (L h)) {v : AV} {K K' : Nat → List PV → Prop} (hL : ∀ h, v.men h → L h ≠ .free → L' h = L h) (hK : ∀ W es, K W es → K' W es) (hk : addedK LK v K) : addedK (LK0 L') v K' := by
  cases v with
  | vec h W off len =>
    simp only [addedK, LK0] at hk ⊢
    have hk := hLK _ _ hk
    have e := hL h rfl
    cases hB : L h with
    | vec T W' es =>
      rw [e (by rw [hB]; simp)]
      rw [hB] at hk ⊢
      simp only at hk ⊢
      cases hw : Nat.beq W W' with
      | false => rw [hw] at hk; exact hk.elim
      | true =>
        rw [hw] at hk
        obtain ⟨es', h1, h2, h3⟩ := hk
        exact ⟨es', h1, h2, hK _ _ h3⟩
    | _ => rw [hB] at hk; exact hk.elim
  | emp => exact hK _ _ hk
  | p v =>
    cases v with
    | sl m W es => exact hK _ _ hk
    | _ => exact hk.elim
  | _ => exact hk.elim
theorem addedS_congr {LK : Hd → (Blk → Prop) → Prop} (hLK : ∀ h K, LK h K → K (L h)) {size : Nat} {v : AV} {K K' : List PV → Prop} (hL : ∀ h, v.men h → L h ≠ .free → L' h = L h) (hK : ∀ es, K es → K' es) (hk : addedS LK size v K) : addedS (LK0 L') size v K' := by
  unfold addedS at hk ⊢
  refine addedK_congr hLK hL (fun W es h => ?_) hk
  have cc : cond (Nat.beq W size) (K es) False → cond (Nat.beq W size) (K' es) False := by
    cases Nat.beq W size with
    | true => exact hK _
    | false => exact id
  cases v with
  | emp => exact hK _ h
  | _ => exact cc h
theorem appendK_congr {LK : Hd → (Blk → Prop) → Prop} (hLK : ∀ h K, LK h K → K (L h)) {e0 : TypeId} {i : TI} {x y : AV} {K : AV → List (Hd × Blk) → Prop} (hx : ∀ h, x.men h → L h ≠ .free → L' h = L h) (hy : ∀ h, y.men h → L h ≠ .free → L' h = L h)
    (hk : appendK LK base e0 i x y K) : appendK (LK0 L') base e0 i x y K := by
  unfold appendK at hk ⊢
  cases h1 : Nat.ble 1 i.size with
  | false => rw [h1] at hk; exact hk.elim
  | true =>
    rw [h1] at hk
    simp only [cond_true] at hk ⊢
    cases x with
    | emp => exact addedS_congr hLK hy (fun _ => id) hk
    | vec h W o len =>
      cases o with
      | succ o => exact hk.elim
      | zero =>
        simp only at hk ⊢
        cases hc : (Nat.beq W i.size && notVec h y) with
        | false => rw [hc] at hk; exact hk.elim
        | true =>
          rw [hc] at hk
          simp only [cond_true, LK0] at hk ⊢
          have hk := hLK _ _ hk
          have e := hx h rfl
          cases hB : L h with
          | vec T W' es =>
            rw [e (by rw [hB]; simp)]
            rw [hB] at hk ⊢
            simp only at hk ⊢
            cases hw : (Nat.beq W W' && Nat.beq T e0) with
            | false => rw [hw] at hk; exact hk.elim
            | true =>
              rw [hw] at hk
              obtain ⟨h2, h3⟩ := hk
              exact ⟨h2, addedS_congr hLK hy (fun _ => id) h3⟩
          | _ => rw [hB] at hk; exact hk.elim
    | _ => exact hk.elim
theorem isRows_congr {LK : Hd → (Blk → Prop) → Prop} (hLK : ∀ h K, LK h K → K (L h)) {y : AV} {J J' : Option (List AV) → Prop} (hy : ∀ h, y.men h → L h ≠ .free → L' h = L h) (hJ : ∀ o, J o → J' o) (hk : isRows LK y J) : isRows (LK0 L') y J' := by
  unfold isRows at hk ⊢
  split at hk
  · rename_i h len
    have e := hy h rfl
    simp only [LK0] at hk ⊢
    have hk := hLK _ _ hk
    cases hB : L h with
    | vec T W' es =>
      rw [e (by rw [hB]; simp)]
      rw [hB] at hk ⊢
      exact hJ none hk
    | rows T cs =>
      rw [e (by rw [hB]; simp)]
      rw [hB] at hk ⊢
      simp only at hk ⊢
      cases hw : Nat.beq len cs.length with
      | false => rw [hw] at hk; exact hk.elim
      | true => rw [hw] at hk; exact hJ _ hk
    | _ => rw [hB] at hk; exact hk.elim
  · exact hJ none hk
theorem appendR_congr {LK : Hd → (Blk → Prop) → Prop} (hLK : ∀ h K, LK h K → K (L h)) {e0 : TypeId} {i : TI} {x y : AV} {xs : List AV} {K : AV → List (Hd × Blk) → Prop} (hx : ∀ h, x.men h → L h ≠ .free → L' h = L h)
    (hk : appendR LK base e0 i x y xs K) : appendR (LK0 L') base e0 i x y xs K := by
  unfold appendR at hk ⊢
  cases h1 : (Nat.beq i.size 1 && !xs.isEmpty) with
  | false => rw [h1] at hk; exact hk.elim
  | true =>
    rw [h1] at hk
    simp only [cond_true] at hk ⊢
    split at hk
    · exact hk
    · rename_i h len
      have e := hx h rfl
      simp only [LK0] at hk ⊢
      have hk := hLK _ _ hk
      cases hB : L h with
      | rows T cs =>
        rw [e (by rw [hB]; simp)]
        rw [hB] at hk ⊢
        exact hk
      | _ => rw [hB] at hk; exact hk.elim
    · exact hk.elim
theorem appendA_congr {LK : Hd → (Blk → Prop) → Prop} (hLK : ∀ h K, LK h K → K (L h)) {e0 : TypeId} {i : TI} {x y : AV} {K : AV → List (Hd × Blk) → Prop} (hx : ∀ h, x.men h → L h ≠ .free → L' h = L h) (hy : ∀ h, y.men h → L h ≠ .free → L' h = L h)
    (hk : appendA LK base e0 i x y K) : appendA (LK0 L') base e0 i x y K :=
  isRows_congr hLK hy (fun o hk => match o, hk with
    | none, hk => appendK_congr hLK hx hy hk
    | some _, hk => appendR_congr hLK hx hk) hk
theorem appendZ_congr {LK : Hd → (Blk → Prop) → Prop} (hLK : ∀ h K, LK h K → K (L h)) {e0 : TypeId} {i : TI} {x y : AV} {K : AV → List (Hd × Blk) → Prop} (hx : ∀ h, x.men h → L h ≠ .free → L' h = L h)
    (hk : appendZ LK base e0 i x y K) : appendZ (LK0 L') base e0 i x y K := by
  unfold appendZ at hk ⊢
  split at hk
  · split at hk
    · rename_i h W len
      have e := hx h rfl
      split at hk
      · cases h1 : (Nat.beq W 1 && (Nat.beq i.size 1 && !i.d.agg)) with
        | false => rw [h1] at hk; exact hk.elim
        | true =>
          rw [h1] at hk
          simp only [cond_true, LK0] at hk ⊢
          have hk := hLK _ _ hk
          cases hB : L h with
          | vec T W' es =>
            rw [e (by rw [hB]; simp)]
            rw [hB] at hk ⊢
            exact hk
          | _ => rw [hB] at hk; exact hk.elim
      · exact hk.elim
    · exact hk.elim
  · exact hk.elim
theorem appendB_congr {LK : Hd → (Blk → Prop) → Prop} (hLK : ∀ h K, LK h K → K (L h)) {t t' : TypeId} {ts' : List TypeId} {x y : AV} {K : AV → List (Hd × Blk) → Prop} (hx : ∀ h, x.men h → L h ≠ .free → L' h = L h) (hy : ∀ h, y.men h → L h ≠ .free → L' h = L h)
    (hk : builtinK Γ LK base .append (t :: t' :: ts') [x, y] K) : builtinK Γ (LK0 L') base .append (t :: t' :: ts') [x, y] K := by
  simp only [builtinK] at hk ⊢
  cases hc : (Nat.beq t t' && ts'.isEmpty) with
  | false =>
    rw [hc] at hk
    simp only [cond_false] at hk ⊢
    cases hd : (isIntT Γ t' && ts'.isEmpty) with
    | false => rw [hd] at hk; exact hk.elim
    | true =>
      rw [hd] at hk
      simp only [cond_true] at hk ⊢
      unfold elemK at hk ⊢
      split at hk
      · split at hk
        · split at hk
          · exact appendZ_congr hLK hx hk
          · exact hk.elim
        · exact hk.elim
      · exact hk.elim
  | true =>
    rw [hc] at hk
    simp only [cond_true] at hk ⊢
    unfold elemK at hk ⊢
    split at hk
    · rename_i i h1
      split at hk
      · rename_i e h2
        split at hk
        · exact appendA_congr hLK (fun h hm => hx h (AV.nilS_men hm)) hy hk
        · exact hk.elim
      · exact hk.elim
    · exact hk.elim
/-- What an operation looks at. -/
def Look (op : Op) (L : Hd → Blk) (v : AV) (h : Hd) : Prop := v.men h ∨ (deep op = true ∧ Reach L v h)
theorem opSem_congr {LK : Hd → (Blk → Prop) → Prop} (hLK : ∀ h K, LK h K → K (L h)) {op : Op} {K : AV → List (Hd × Blk) → Prop} (hq : quiet0 op = true) (hs : ∀ x ∈ op.operands.toList, rho s x = rho s' x) (hA : looks op = true → ∀ x ∈ op.operands.toList, ∀ h, Look op L (rho s' x) h → L h ≠ .free → L' h = L h)
    (hk : opSem Γ P (fun _ => false) (W0 s) LK L base op K) : opSem Γ P (fun _ => false) (W0 s') (LK0 L') L' base op K := by
  have hL : looks op = true → ∀ x ∈ op.operands.toList, ∀ h, (rho s' x).men h → L h ≠ .free → L' h = L h := fun hl x hx h hm => hA hl x hx h (.inl hm)
  cases op <;> first | (simp only [quiet0] at hq; exact absurd hq (by decide)) | skip
  case move x => simp only [opSem, W0] at hk ⊢; rw [← hs x (by simp [Op.operands])]; exact hk
  case assign x => simp only [opSem, W0] at hk ⊢; rw [← hs x (by simp [Op.operands])]; exact hk
  case pick c x y => simp only [opSem, W0] at hk ⊢; rw [← hs c (by simp [Op.operands]), ← hs x (by simp [Op.operands]), ← hs y (by simp [Op.operands])]; exact hk
  case alloc t => exact hk
  case box t x => simp only [opSem, W0] at hk ⊢; rw [← hs x (by simp [Op.operands])]; exact hk
  case build t ps =>
    have e : ∀ place cs K, buildK Γ (W0 s) place ps.toList cs K = buildK Γ (W0 s') place ps.toList cs K := fun place cs K => buildK_congr _ _ _ fun x hx => hs _ (by simp only [Op.operands]; exact List.mem_map_of_mem hx)
    simp only [opSem, e] at hk ⊢
    exact hk
  case buildSlice t m ps =>
    have e : ∀ ee size m K, elemsK Γ (W0 s) ee size m ps.toList K = elemsK Γ (W0 s') ee size m ps.toList K := fun ee size m K => elemsK_congr _ _ _ fun x hx => hs _ (by simp only [Op.operands]; exact List.mem_map_of_mem hx)
    have e2 : ∀ ee m K, rowsK Γ (W0 s) ee m ps.toList K = rowsK Γ (W0 s') ee m ps.toList K := fun ee m K => rowsK_congr _ _ _ fun x hx => hs _ (by simp only [Op.operands]; exact List.mem_map_of_mem hx)
    have e3 : ∀ K, evalL (W0 s) (ps.toList.map (·.2)) K = evalL (W0 s') (ps.toList.map (·.2)) K := fun K => evalL_congr _ _ fun x hx => hs _ (by simp only [Op.operands]; exact hx)
    simp only [opSem, e, e2, e3] at hk ⊢
    exact hk
  case load t x =>
    have e := hs x (by simp [Op.operands])
    have hL := hL rfl x (by simp [Op.operands])
    simp only [opSem, W0] at hk ⊢
    rw [e] at hk
    generalize rho s' x = v at hk hL
    cases v with
    | bptr h off =>
      have hk := hLK h _ (show LK h _ from hk)
      by_cases hfr : L h = .free
      · rw [hfr] at hk; exact hk.elim
      · show LK0 L' h _
        unfold LK0
        rw [hL h rfl hfr]; exact hk
    | eptr h W i off =>
      have hk := hLK h _ (show LK h _ from hk)
      by_cases hfr : L h = .free
      · rw [hfr] at hk; exact hk.elim
      · show LK0 L' h _
        unfold LK0
        rw [hL h rfl hfr]; exact hk
    | p v => cases v <;> exact hk
    | _ => exact hk
  case store t x y =>
    have e := hs x (by simp [Op.operands])
    have e2 := hs y (by simp [Op.operands])
    have hL := hL rfl x (by simp [Op.operands])
    simp only [opSem, W0] at hk ⊢
    rw [e, e2] at hk
    generalize rho s' x = v at hk hL
    cases v with
    | bptr h off =>
      have hk := hLK h _ (show LK h _ from hk)
      by_cases hfr : L h = .free
      · rw [hfr] at hk; exact hk.elim
      · show LK0 L' h _
        unfold LK0
        rw [hL h rfl hfr]; exact hk
    | eptr h W i off =>
      cases off with
      | zero =>
        have hk := hLK h _ (show LK h _ from hk)
        by_cases hfr : L h = .free
        · rw [hfr] at hk; exact hk.elim
        · show LK0 L' h _
          unfold LK0
          rw [hL h rfl hfr]; exact hk
      | succ off => exact hk
    | _ => exact hk
  case binOp op t x y ty => simp only [opSem, W0] at hk ⊢; rw [← hs x (by simp [Op.operands]), ← hs y (by simp [Op.operands])]; exact hk
  case unOp op t x => simp only [opSem, W0] at hk ⊢; rw [← hs x (by simp [Op.operands])]; exact hk
  case nilCheck x => simp only [opSem, W0] at hk ⊢; rw [← hs x (by simp [Op.operands])]; exact hk
  case convert src dst x => simp only [opSem, W0] at hk ⊢; rw [← hs x (by simp [Op.operands])]; exact hk
  case makeFunc f fs cs =>
    cases f with
    | func f =>
      simp only [opSem] at hk ⊢
      rw [evalL_eq] at hk ⊢
      rw [evalL_eq] at hk ⊢
      have e1 : fs.toList.map (rho s) = fs.toList.map (rho s') := List.map_congr_left fun x hx => hs x (by simp only [Op.operands, Array.toList_append]; exact List.mem_append_left _ hx)
      have e2 : cs.toList.map (rho s) = cs.toList.map (rho s') := List.map_congr_left fun x hx => hs x (by simp only [Op.operands, Array.toList_append]; exact List.mem_append_right _ hx)
      rw [e1, e2] at hk
      exact hk
    | _ => exact hk
  case makeMap t r =>
    cases r with
    | none => exact hk
    | some r => simp only [quiet0] at hq; exact absurd hq (by decide)
  case lookup t x k ok =>
    simp only [opSem, W0] at hk ⊢
    rw [← hs x (by simp [Op.operands]), ← hs k (by simp [Op.operands])]
    exact lookupK_congr hLK (by rw [hs x (by simp [Op.operands])]; exact hL rfl x (by simp [Op.operands])) hk
  case mapUpdate t m k x =>
    simp only [opSem, W0] at hk ⊢
    rw [← hs m (by simp [Op.operands]), ← hs k (by simp [Op.operands]), ← hs x (by simp [Op.operands])]
    exact updateK_congr hLK (by rw [hs m (by simp [Op.operands])]; exact hL rfl m (by simp [Op.operands])) hk
  case insert t m k x =>
    simp only [opSem, W0] at hk ⊢
    rw [← hs m (by simp [Op.operands]), ← hs k (by simp [Op.operands]), ← hs x (by simp [Op.operands])]
    exact updateK_congr hLK (by rw [hs m (by simp [Op.operands])]; exact hL rfl m (by simp [Op.operands])) hk
  case makeSlice t l c => simp only [opSem, W0] at hk ⊢; rw [← hs l (by simp [Op.operands]), ← hs c (by simp [Op.operands])]; exact hk
  case slice t x lo hi mx =>
    have e := hs x (by simp [Op.operands])
    have e1 : ∀ d K, optK (W0 s) lo d K = optK (W0 s') lo d K := fun d K => optK_congr _ _ _ fun y hy => hs y (by subst hy; simp [Op.operands])
    have e2 : ∀ d K, optK (W0 s) hi d K = optK (W0 s') hi d K := fun d K => optK_congr _ _ _ fun y hy => hs y (by subst hy; simp [Op.operands])
    have e3 : ∀ d K, optK (W0 s) mx d K = optK (W0 s') mx d K := fun d K => optK_congr _ _ _ fun y hy => hs y (by subst hy; simp [Op.operands])
    simp only [opSem] at hk ⊢
    have hk : sliceK Γ (W0 s) t (rho s x) lo hi mx K := hk
    show sliceK Γ (W0 s') t (rho s' x) lo hi mx K
    rw [e] at hk
    unfold sliceK at hk ⊢
    simp only [e1, e2, e3] at hk
    exact hk
  case fieldAddr t x f => simp only [opSem, W0] at hk ⊢; rw [← hs x (by simp [Op.operands])]; exact hk
  case field t x f => simp only [opSem, W0] at hk ⊢; rw [← hs x (by simp [Op.operands])]; exact hk
  case indexAddr t x i => simp only [opSem, W0] at hk ⊢; rw [← hs x (by simp [Op.operands]), ← hs i (by simp [Op.operands])]; exact hk
  case index t x i => simp only [opSem, W0] at hk ⊢; rw [← hs x (by simp [Op.operands]), ← hs i (by simp [Op.operands])]; exact hk
  case extract x i => simp only [opSem, W0] at hk ⊢; rw [← hs x (by simp [Op.operands])]; exact hk
  case call c =>
    obtain ⟨f, xs, ts⟩ := c
    cases f with
    | builtin b =>
      have hmem : ∀ x ∈ xs.toList, x ∈ (Op.call ⟨.builtin b, xs, ts⟩).operands.toList := fun x hx => by simp only [Op.operands, Call.operands]; simpa using hx
      have e1 : xs.toList.map (rho s) = xs.toList.map (rho s') := List.map_congr_left fun x hx => hs x (hmem x hx)
      simp only [opSem] at hk ⊢
      rw [evalL_eq] at hk ⊢
      rw [e1] at hk
      generalize hvs : xs.toList.map (rho s') = vs at hk
      generalize ts.toList = tl at hk
      have hLv : looks (Op.call ⟨.builtin b, xs, ts⟩) = true → ∀ v ∈ vs, ∀ h, v.men h → L h ≠ .free → L' h = L h := fun hl v hv h hm hne => by
        obtain ⟨x, hx, e⟩ := List.mem_map.1 (hvs ▸ hv)
        exact hL hl x (hmem x hx) h (by rw [e]; exact hm) hne
      rcases vs with _ | ⟨x, _ | ⟨y, _ | ⟨z, vs⟩⟩⟩ <;> rcases tl with _ | ⟨t, _ | ⟨t', ts'⟩⟩ <;> cases b <;> first | (simp only [quiet0] at hq; exact absurd hq (by decide)) | exact hk | skip
      exact appendB_congr hLK (hLv rfl x (by simp)) (hLv rfl y (by simp)) hk
    | invoke r m => cases hq
    | value f =>
      have hf : f ∈ (Op.call ⟨.value f, xs, ts⟩).operands.toList := by simp [Op.operands, Call.operands]
      have hmem : ∀ x ∈ xs.toList, x ∈ (Op.call ⟨.value f, xs, ts⟩).operands.toList := fun x hx => by simp only [Op.operands, Call.operands]; simp at hx ⊢; exact .inr hx
      have e1 : xs.toList.map (rho s) = xs.toList.map (rho s') := List.map_congr_left fun x hx => hs x (hmem x hx)
      simp only [opSem, W0] at hk ⊢
      rw [hs f hf] at hk
      have hA := fun x hx h hr => hA rfl x hx h (.inr ⟨rfl, hr⟩)
      have hLf := hA f hf
      cases hlen : Nat.beq ts.toList.length xs.toList.length with
      | false => rw [hlen] at hk; exact hk.elim
      | true =>
        rw [hlen] at hk
        simp only [cond_true] at hk ⊢
        have hvs : ∀ x ∈ ts.toList.zip (xs.toList.map (rho s')), ∀ h, Reach L x.2 h → L h ≠ .free → L' h = L h := fun x hx h hm hne => by
          have := (List.of_mem_zip hx).2
          obtain ⟨y, hy, e⟩ := List.mem_map.1 this
          exact hA y (hmem y hy) h (by rw [e]; exact hm) hne
        generalize rho s' f = vf at hk hLf
        cases vf with
        | fn fid fs cs =>
          simp only at hk ⊢
          rw [evalL_eq] at hk ⊢
          rw [e1] at hk
          refine lendL_congr hLK _ _ _ (fun x hx h hm hne => ?_) (fun l => SCall.congr) hk
          rcases List.mem_append.1 hx with hx | hx
          · obtain ⟨v, hv, rfl⟩ := List.mem_map.1 hx
            exact hLf h (hm.of fun h hm => by simp only [AV.men, AV.menL_iff]; exact .inl ⟨v, hv, hm⟩) hne
          · rcases List.mem_append.1 hx with hx | hx
            · exact hvs x hx h hm hne
            · obtain ⟨v, hv, rfl⟩ := List.mem_map.1 hx
              exact hLf h (hm.of fun h hm => by simp only [AV.men, AV.menL_iff]; exact .inr ⟨v, hv, hm⟩) hne
        | p v =>
          cases v with
          | fn fid cs =>
            simp only at hk ⊢
            rw [evalL_eq] at hk ⊢
            rw [e1] at hk
            refine lendL_congr hLK _ _ _ (fun x hx h hm hne => ?_) (fun l => SCall.congr) hk
            rcases List.mem_append.1 hx with hx | hx
            · exact hvs x hx h hm hne
            · obtain ⟨v, hv, rfl⟩ := List.mem_map.1 hx
              have no : ∀ k, ¬ (AV.p v).men k := fun k hk => by simp only [AV.men] at hk
              rcases hm with hm | ⟨k, h1, _⟩ | ⟨k, _, h1, _⟩
              · exact (no _ hm).elim
              · exact (no _ h1).elim
              · exact (no _ h1).elim
          | mfn fid cs =>
            simp only at hk ⊢
            rw [evalL_eq] at hk ⊢
            rw [e1] at hk
            refine lendL_congr hLK _ _ _ (fun x hx h hm hne => ?_) (fun l => SCall.congr) hk
            rcases List.mem_append.1 hx with hx | hx
            · obtain ⟨v, hv, rfl⟩ := List.mem_map.1 hx
              have no : ∀ k, ¬ (AV.p v).men k := fun k hk => by simp only [AV.men] at hk
              rcases hm with hm | ⟨k, h1, _⟩ | ⟨k, _, h1, _⟩
              · exact (no _ hm).elim
              · exact (no _ h1).elim
              · exact (no _ h1).elim
            · exact hvs x hx h hm hne
          | _ => exact hk.elim
        | _ => exact hk.elim
end
end
end Go.Proofs.YtnilcfiemgmfdaaGreat

namespace Go.Proofs.YtnilcfiemgmfdaaGreat
open Go
set_option linter.unusedVariables false
set_option linter.unusedSimpArgs false
abbrev Ups := List (Hd × Blk)
abbrev appS (dst : Nat → Option Tmp) (v : Nat → AV) : (Nat → AV) → Nat → (Nat → AV) := fun s k => putS s (dst k) (v k)
abbrev appU (ups : Nat → Ups) : (Hd → Blk) → Nat → (Hd → Blk) := fun L k => applyUps L (ups k)
theorem putS_other {s : Nat → AV} {d : Option Tmp} {v : AV} {t : Nat} (h : d ≠ some t) : putS s d v t = s t := by
  cases d with
  | none => rfl
  | some d => exact upd_other _ _ (fun e => h (by rw [e]))
theorem putS_same {s : Nat → AV} {v : AV} {t : Nat} : putS s (some t) v t = v := upd_same _ _ _
theorem putS_comm {s : Nat → AV} {d d' : Option Tmp} {v v' : AV} (h : ∀ t, d = some t → d' ≠ some t) : putS (putS s d v) d' v' = putS (putS s d' v') d v := by
  funext t
  by_cases e1 : d = some t
  · rw [putS_other (h t e1), e1, putS_same, putS_same]
  · by_cases e2 : d' = some t
    · rw [e2, putS_same, putS_other e1, putS_same]
    · rw [putS_other e2, putS_other e1, putS_other e1, putS_other e2]
theorem updB_off {L : Hd → Blk} {g h : Hd} {B : Blk} (hk : g.key ≠ h.key) : updB L g B h = L h := by
  cases g with
  | t n => exact updB_other (fun e => hk (by rw [e]; rfl))
  | r n k =>
    have ne : h ≠ .r n k := fun e => hk (by rw [e])
    cases B <;> exact upd_other _ _ ne
theorem updB_or (g h : Hd) (B : Blk) : (∀ L, updB L g B h = L h) ∨ ∀ L L', updB L g B h = updB L' g B h := by
  have up : ∀ B : Blk, (∀ L : Hd → Blk, upd L g B h = L h) ∨ ∀ L L' : Hd → Blk, upd L g B h = upd L' g B h := fun B => by
    by_cases e : h = g
    · subst e; exact .inr fun L L' => by rw [upd_same, upd_same]
    · exact .inl fun L => upd_other _ _ e
  cases B with
  | pool T W rows =>
    cases g with
    | r n k => exact up _
    | t n =>
      cases h with
      | t m =>
        by_cases e : m = n
        · exact .inr fun L L' => by simp [updB, updPool, e]
        · exact .inl fun L => by simp [updB, updPool, e]
      | r m k =>
        by_cases e : m = n
        · exact .inr fun L L' => by simp [updB, updPool, e]
        · exact .inl fun L => by simp [updB, updPool, e]
  | _ => exact up _
theorem applyUps_other {L : Hd → Blk} {ups : Ups} {h : Hd} : (∀ x ∈ ups, x.1.key ≠ h.key) → applyUps L ups h = L h := by
  induction ups generalizing L with
  | nil => intro _; rfl
  | cons x ups ih =>
    intro hh
    show applyUps (updB L x.1 x.2) ups h = _
    rw [ih fun y hy => hh y (List.mem_cons_of_mem _ hy)]
    exact updB_off (hh x List.mem_cons_self)
theorem applyUps_same {L L' : Hd → Blk} {ups : Ups} {h : Hd} : L h = L' h → applyUps L ups h = applyUps L' ups h := by
  induction ups generalizing L L' with
  | nil => exact id
  | cons x ups ih =>
    intro hh
    show applyUps (updB L x.1 x.2) ups h = applyUps (updB L' x.1 x.2) ups h
    refine ih ?_
    rcases updB_or x.1 h x.2 with e | e
    · rw [e, e]; exact hh
    · exact e _ _
/-- What was there doesn't matter where it is written. -/
theorem applyUps_or (ups : Ups) (h : Hd) : (∀ L, applyUps L ups h = L h) ∨ ∀ L L', applyUps L ups h = applyUps L' ups h := by
  induction ups with
  | nil => exact .inl fun L => rfl
  | cons x ups ih =>
    rcases ih with ih | ih
    · rcases updB_or x.1 h x.2 with e | e
      · exact .inl fun L => (ih _).trans (e L)
      · exact .inr fun L L' => by
          show applyUps (updB L x.1 x.2) ups h = applyUps (updB L' x.1 x.2) ups h
          rw [ih, ih]; exact e _ _
    · exact .inr fun L L' => ih _ _
theorem applyUps_comm {L : Hd → Blk} {u u' : Ups} (h : ∀ x ∈ u, ∀ y ∈ u', x.1.key ≠ y.1.key) : applyUps (applyUps L u) u' = applyUps (applyUps L u') u := by
  funext k
  by_cases e1 : ∃ x ∈ u, x.1.key = k.key
  · have e2 : ∀ y ∈ u', y.1.key ≠ k.key := fun y hy e => by obtain ⟨x, hx, e'⟩ := e1; exact h x hx y hy (e'.trans e.symm)
    rw [applyUps_other e2]
    exact applyUps_same (applyUps_other e2).symm
  · have e1' : ∀ x ∈ u, x.1.key ≠ k.key := fun x hx e => e1 ⟨x, hx, e⟩
    rw [applyUps_other (L := applyUps L u') e1']
    exact applyUps_same (applyUps_other e1')
theorem upsK_len {ups : Ups} {H : Hp} {K : Hp → Prop} (hk : upsK ups H K) : ∃ H', K H' ∧ look H' = applyUps (look H) ups ∧ H.length ≤ H'.length ∧ ∀ x ∈ ups, x.1.key < H'.length := by
  induction ups generalizing H with
  | nil => exact ⟨H, hk, rfl, Nat.le_refl _, by simp⟩
  | cons x ups ih =>
    obtain ⟨h, B⟩ := x
    obtain ⟨H1, hk, e1, l1, m1⟩ := putB_ok hk
    obtain ⟨H2, hk, e2, l2, m2⟩ := ih hk
    refine ⟨H2, hk, by rw [e2, e1]; rfl, by omega, fun y hy => ?_⟩
    rcases List.mem_cons.1 hy with rfl | hy
    · exact Nat.lt_of_lt_of_le m1 l2
    · exact m2 y hy
section
variable {P : Program} {Γ : Tab} {E : Env} {n : Nat}
/-- What the text's order says of operation k. -/
structure Stp (P : Program) (Γ : Tab) (all : Array Oper) (o : Oper) (s : Nat → AV) (L : Hd → Blk) (base base' : Nat) (v : AV) (ups : Ups) (run : Bool) : Prop where
  guard : match o.guard with
    | none => run = true
    | some (j, want) => ∃ t, (all[j]?).bind (·.dst) = some t ∧ ((∃ b, (s t = .tf b ∨ s t = .p (.bool b)) ∧ run = (b == want)) ∨ (s t = .undef ∧ run = false))
  ran : run = true → (∃ LK : Hd → (Blk → Prop) → Prop, (∀ h K, LK h K → K (L h)) ∧ opSem Γ P (fun _ => false) (W0 s) LK L base o.op (fun v' ups' => v' = v ∧ ups' = ups)) ∧ (quiet all o.op = true → ∀ x ∈ ups, base ≤ x.1.key)
  not : run = false → v = .undef ∧ ups = []
  le : base ≤ base'
  lt : ∀ x ∈ ups, x.1.key < base'
  free : ∀ h, base ≤ h.key → L h = .free
theorem vcDraw_trace (all : Array Oper) : ∀ (rest : List Oper) (K : Sl → Hp → Prop) (s : Sl) (H : Hp), vcDraw Γ P all rest K s H →
    ∃ (v : Nat → AV) (ups : Nat → Ups) (base : Nat → Nat) (run : Nat → Bool), (∀ k o, rest[k]? = some o → Stp P Γ all o (foldD (appS (fun k => (rest[k]?).bind (·.dst)) v) allD (getS s) k) (foldD (appU ups) allD (look H) k) (base k) (base (k + 1)) (v k) (ups k) (run k)) ∧
      ∃ s' H', K s' H' ∧ getS s' = foldD (appS (fun k => (rest[k]?).bind (·.dst)) v) allD (getS s) rest.length ∧ look H' = foldD (appU ups) allD (look H) rest.length ∧ base 0 = H.length := by
  intro rest
  induction rest with
  | nil => intro K s H hk; exact ⟨fun _ => .undef, fun _ => [], fun _ => H.length, fun _ => true, by simp, s, H, hk, rfl, rfl, rfl⟩
  | cons o rest ih =>
    intro K s H hk
    -- one step put ahead of the others
    have step : ∀ (v0 : AV) (u0 : Ups) (r0 : Bool) (H1 : Hp), look H1 = applyUps (look H) u0 → Stp P Γ all o (getS s) (look H) H.length H1.length v0 u0 r0 → vcDraw Γ P all rest K (putL o.dst v0 s) H1 →
        ∃ (v : Nat → AV) (ups : Nat → Ups) (base : Nat → Nat) (run : Nat → Bool), (∀ k o', (o :: rest)[k]? = some o' → Stp P Γ all o' (foldD (appS (fun k => ((o :: rest)[k]?).bind (·.dst)) v) allD (getS s) k) (foldD (appU ups) allD (look H) k) (base k) (base (k + 1)) (v k) (ups k) (run k)) ∧
          ∃ s' H', K s' H' ∧ getS s' = foldD (appS (fun k => ((o :: rest)[k]?).bind (·.dst)) v) allD (getS s) (o :: rest).length ∧ look H' = foldD (appU ups) allD (look H) (o :: rest).length ∧ base 0 = H.length := by
      intro v0 u0 r0 H1 eL hstp hk
      obtain ⟨v, ups, base, run, h1, s', H', hK, e1, e2, hb0⟩ := ih K _ H1 hk
      refine ⟨fun k => match k with | 0 => v0 | k + 1 => v k, fun k => match k with | 0 => u0 | k + 1 => ups k, fun k => match k with | 0 => H.length | k + 1 => base k, fun k => match k with | 0 => r0 | k + 1 => run k, ?_, s', H', hK, ?_, ?_, rfl⟩
      · intro k o' ho'
        cases k with
        | zero =>
          simp only [List.getElem?_cons_zero, Option.some.injEq] at ho'
          subst ho'
          show Stp P Γ all o (getS s) (look H) H.length (base 0) v0 u0 r0
          rw [hb0]; exact hstp
        | succ k =>
          have := h1 k o' (by simpa using ho')
          rw [foldD_shift, foldD_shift]
          have e : putS (getS s) o.dst v0 = getS (putL o.dst v0 s) := (getS_putL _ _ _).symm
          show Stp P Γ all o' (foldD _ allD (putS (getS s) o.dst v0) k) (foldD _ allD (applyUps (look H) u0) k) (base k) (base (k + 1)) (v k) (ups k) (run k)
          rw [e, ← eL]
          exact this
      · rw [List.length_cons, foldD_shift]
        have e : putS (getS s) o.dst v0 = getS (putL o.dst v0 s) := (getS_putL _ _ _).symm
        show getS s' = foldD _ allD (putS (getS s) o.dst v0) rest.length
        rw [e]; exact e1
      · rw [List.length_cons, foldD_shift]
        show look H' = foldD _ allD (applyUps (look H) u0) rest.length
        rw [← eL]; exact e2
    have run : (lenK' H 0 fun base => SOp (fun K' => opSem Γ P (fun _ => false) (WK s) (lookK H) (look H) base o.op K') (quiet all o.op) base fun v ups => upsK ups H fun H' => vcDraw Γ P all rest K (putL o.dst v s) H') →
        ∃ v0 u0 H1, look H1 = applyUps (look H) u0 ∧ H.length ≤ H1.length ∧ (∀ x ∈ u0, x.1.key < H1.length) ∧ ((∃ LK : Hd → (Blk → Prop) → Prop, (∀ h K, LK h K → K (look H h)) ∧ opSem Γ P (fun _ => false) (W0 (getS s)) LK (look H) H.length o.op (fun v' ups' => v' = v0 ∧ ups' = u0)) ∧ (quiet all o.op = true → ∀ x ∈ u0, H.length ≤ x.1.key)) ∧ vcDraw Γ P all rest K (putL o.dst v0 s) H1 := by
      intro hk
      have hk := lenK'_ok hk
      rw [Nat.zero_add] at hk
      obtain ⟨v0, u0, h1, hb, hk⟩ := hk
      obtain ⟨H1, hk, e1, l1, m1⟩ := upsK_len hk
      refine ⟨v0, u0, H1, e1, l1, m1, ⟨?_, fun hq x hx => ?_⟩, hk⟩
      · rw [WK_eq] at h1; exact ⟨_, fun h K hk => lookK_ok H h K hk, h1⟩
      · rw [hq] at hb
        have hb : (u0.all fun x => Hd.from H.length x.1) = true := hb
        have := List.all_eq_true.1 hb x hx
        cases hx1 : x.1 <;> rw [hx1] at this <;> first | exact Nat.le_of_ble_eq_true this | cases this
    have hk : vcDrawStep Γ P all o (vcDraw Γ P all rest) K s H := hk
    simp only [vcDrawStep] at hk
    cases hg : o.guard with
    | none =>
      rw [hg] at hk
      obtain ⟨v0, u0, H1, e1, l1, m1, hr, hk⟩ := run hk
      exact step v0 u0 true H1 e1 ⟨by rw [hg], fun _ => hr, (fun h => by cases h), l1, m1, fun h hh => look_ge hh⟩ hk
    | some jw =>
      obtain ⟨j, want⟩ := jw
      rw [hg] at hk
      simp only at hk
      cases ht : (all[j]?).bind (·.dst) with
      | none => rw [ht] at hk; exact hk.elim
      | some t =>
        rw [ht] at hk
        simp only at hk
        rw [getSK_iff] at hk
        have skip : (∃ b, (getS s t = .tf b ∨ getS s t = .p (.bool b)) ∧ false = (b == want)) ∨ (getS s t = .undef ∧ false = false) → vcDraw Γ P all rest K (putL o.dst .undef s) H → _ := fun hc hk =>
          step .undef [] false H rfl ⟨by rw [hg]; exact ⟨t, ht, hc⟩, (fun h => by cases h), fun _ => ⟨rfl, rfl⟩, Nat.le_refl _, by simp, fun h hh => look_ge hh⟩ hk
        cases hv : getS s t with
        | tf b =>
          rw [hv] at hk
          simp only at hk
          cases hbw : (b == want) with
          | true =>
            rw [hbw] at hk
            obtain ⟨v0, u0, H1, e1, l1, m1, hr, hk⟩ := run hk
            exact step v0 u0 true H1 e1 ⟨by rw [hg]; exact ⟨t, ht, .inl ⟨b, .inl hv, hbw.symm⟩⟩, fun _ => hr, (fun h => by cases h), l1, m1, fun h hh => look_ge hh⟩ hk
          | false => rw [hbw] at hk; exact skip (.inl ⟨b, .inl hv, hbw.symm⟩) hk
        | undef => rw [hv] at hk; exact skip (.inr ⟨hv, rfl⟩) hk
        | p pv =>
          rw [hv] at hk
          cases pv with
          | bool b =>
            simp only at hk
            cases hbw : (b == want) with
            | true =>
              rw [hbw] at hk
              obtain ⟨v0, u0, H1, e1, l1, m1, hr, hk⟩ := run hk
              exact step v0 u0 true H1 e1 ⟨by rw [hg]; exact ⟨t, ht, .inl ⟨b, .inr hv, hbw.symm⟩⟩, fun _ => hr, (fun h => by cases h), l1, m1, fun h hh => look_ge hh⟩ hk
            | false => rw [hbw] at hk; exact skip (.inl ⟨b, .inr hv, hbw.symm⟩) hk
          | _ => exact hk.elim
        | _ => rw [hv] at hk; exact hk.elim
/-- What an operation looks at. -/
def MenOf (o : Oper) (s : Nat → AV) (L : Hd → Blk) (h : Hd) : Prop := looks o.op = true ∧ ∃ z ∈ o.op.operands.toList, Look o.op L (rho s z) h
theorem handsStep_ok {H : Hp} {l : List Nat} {k h : Hd} (hk : k.key ∈ l) (hm : (look H k).men h) : h.key ∈ handsStep H l := by
  unfold handsStep
  rw [List.mem_append, List.mem_flatMap]
  cases k with
  | r n j => exact (Blk.row_nomen _ _ _ hm).elim
  | t n =>
    refine .inr ⟨n, hk, ?_⟩
    have hm : (H.getD n .free).top.men h := hm
    generalize H.getD n .free = B at hm
    cases B <;> first | exact hm.elim | skip
    · obtain ⟨c, hc, hm⟩ := menL_ex hm
      exact AV.handsL_ok hc hm
    · obtain ⟨c, hc, hm⟩ := menL_ex hm
      exact AV.handsL_ok hc hm
theorem handsStep_sub {H : Hp} {l : List Nat} {n : Nat} (h : n ∈ l) : n ∈ handsStep H l := by unfold handsStep; exact List.mem_append_left _ h
theorem handsH_ok {o : Oper} {s : Sl} {H : Hp} {h : Hd} (hm : MenOf o (getS s) (look H) h) : h.key ∈ readsH o.op H (AV.handsL (o.op.operands.toList.map (rho (getS s)))) := by
  obtain ⟨hlk, z, hz, hm⟩ := hm
  unfold readsH
  rw [hlk, cond_true]
  have b : ∀ k : Hd, (rho (getS s) z).men k → k.key ∈ AV.handsL (o.op.operands.toList.map (rho (getS s))) := fun k hk => AV.handsL_ok (List.mem_map_of_mem hz) hk
  rcases hm with hm | ⟨hd, hm⟩
  · cases deep o.op with
    | false => exact b h hm
    | true => rw [cond_true]; unfold handsH; exact handsStep_sub (handsStep_sub (b h hm))
  rw [hd, cond_true]
  unfold handsH
  rcases hm with hm | ⟨k, h1, h2⟩ | ⟨k, k', h1, h2, h3⟩
  · exact handsStep_sub (handsStep_sub (b h hm))
  · exact handsStep_sub (handsStep_ok (b k h1) h2)
  · exact handsStep_ok (handsStep_ok (b k h1) h2) h3
theorem vcDrawX_trace (all : Array Oper) : ∀ (rest : List Oper) (K : Acc → Sl → Hp → Prop) (acc : Acc) (s : Sl) (H : Hp), vcDrawX Γ P all rest K acc s H →
    ∃ (v : Nat → AV) (ups : Nat → Ups) (base : Nat → Nat) (run : Nat → Bool), (∀ k o, rest[k]? = some o → Stp P Γ all o (foldD (appS (fun k => (rest[k]?).bind (·.dst)) v) allD (getS s) k) (foldD (appU ups) allD (look H) k) (base k) (base (k + 1)) (v k) (ups k) (run k)) ∧
      ∃ s' H', (∃ acc2 : Acc, acc2.length = rest.length ∧ K (acc ++ acc2) s' H' ∧ ∀ k o, rest[k]? = some o → ∃ rd, acc2[k]? = some (rd, (ups k).map fun x => x.1.key) ∧ (run k = true → ∀ h, MenOf o (foldD (appS (fun k => (rest[k]?).bind (·.dst)) v) allD (getS s) k) (foldD (appU ups) allD (look H) k) h → h.key ∈ rd)) ∧ getS s' = foldD (appS (fun k => (rest[k]?).bind (·.dst)) v) allD (getS s) rest.length ∧ look H' = foldD (appU ups) allD (look H) rest.length ∧ base 0 = H.length := by
  intro rest
  induction rest with
  | nil => intro K acc s H hk; exact ⟨fun _ => .undef, fun _ => [], fun _ => H.length, fun _ => true, by simp, s, H, ⟨[], rfl, by rw [List.append_nil]; exact hk, by simp⟩, rfl, rfl, rfl⟩
  | cons o rest ih =>
    intro K acc s H hk
    -- one step put ahead of the others
    have step : ∀ (v0 : AV) (u0 : Ups) (r0 : Bool) (H1 : Hp) (rd : List Nat), (r0 = true → ∀ h, MenOf o (getS s) (look H) h → h.key ∈ rd) → look H1 = applyUps (look H) u0 → Stp P Γ all o (getS s) (look H) H.length H1.length v0 u0 r0 → vcDrawX Γ P all rest K (acc ++ [(rd, u0.map fun x => x.1.key)]) (putL o.dst v0 s) H1 →
        ∃ (v : Nat → AV) (ups : Nat → Ups) (base : Nat → Nat) (run : Nat → Bool), (∀ k o', (o :: rest)[k]? = some o' → Stp P Γ all o' (foldD (appS (fun k => ((o :: rest)[k]?).bind (·.dst)) v) allD (getS s) k) (foldD (appU ups) allD (look H) k) (base k) (base (k + 1)) (v k) (ups k) (run k)) ∧
          ∃ s' H', (∃ acc2 : Acc, acc2.length = (o :: rest).length ∧ K (acc ++ acc2) s' H' ∧ ∀ k o', (o :: rest)[k]? = some o' → ∃ rd, acc2[k]? = some (rd, (ups k).map fun x => x.1.key) ∧ (run k = true → ∀ h, MenOf o' (foldD (appS (fun k => ((o :: rest)[k]?).bind (·.dst)) v) allD (getS s) k) (foldD (appU ups) allD (look H) k) h → h.key ∈ rd)) ∧ getS s' = foldD (appS (fun k => ((o :: rest)[k]?).bind (·.dst)) v) allD (getS s) (o :: rest).length ∧ look H' = foldD (appU ups) allD (look H) (o :: rest).length ∧ base 0 = H.length := by
      intro v0 u0 r0 H1 rd hrd eL hstp hk
      obtain ⟨v, ups, base, run, h1, s', H', ⟨acc2, hlen, hK, hacc⟩, e1, e2, hb0⟩ := ih K _ _ H1 hk
      refine ⟨fun k => match k with | 0 => v0 | k + 1 => v k, fun k => match k with | 0 => u0 | k + 1 => ups k, fun k => match k with | 0 => H.length | k + 1 => base k, fun k => match k with | 0 => r0 | k + 1 => run k, ?_, s', H', ⟨(rd, u0.map fun x => x.1.key) :: acc2, by simp [hlen], by rw [List.append_assoc] at hK; exact hK, fun k o' ho' => ?_⟩, ?_, ?_, rfl⟩
      · intro k o' ho'
        cases k with
        | zero =>
          simp only [List.getElem?_cons_zero, Option.some.injEq] at ho'
          subst ho'
          show Stp P Γ all o (getS s) (look H) H.length (base 0) v0 u0 r0
          rw [hb0]; exact hstp
        | succ k =>
          have := h1 k o' (by simpa using ho')
          rw [foldD_shift, foldD_shift]
          have e : putS (getS s) o.dst v0 = getS (putL o.dst v0 s) := (getS_putL _ _ _).symm
          show Stp P Γ all o' (foldD _ allD (putS (getS s) o.dst v0) k) (foldD _ allD (applyUps (look H) u0) k) (base k) (base (k + 1)) (v k) (ups k) (run k)
          rw [e, ← eL]
          exact this
      · cases k with
        | zero =>
          simp only [List.getElem?_cons_zero, Option.some.injEq] at ho'
          subst ho'
          exact ⟨rd, rfl, hrd⟩
        | succ k =>
          obtain ⟨rd', h3, h4⟩ := hacc k o' (by simpa using ho')
          refine ⟨rd', by simpa using h3, fun hr => ?_⟩
          rw [foldD_shift, foldD_shift]
          have e : putS (getS s) o.dst v0 = getS (putL o.dst v0 s) := (getS_putL _ _ _).symm
          show ∀ h, MenOf o' (foldD _ allD (putS (getS s) o.dst v0) k) (foldD _ allD (applyUps (look H) u0) k) h → h.key ∈ rd'
          rw [e, ← eL]
          exact h4 hr
      · rw [List.length_cons, foldD_shift]
        have e : putS (getS s) o.dst v0 = getS (putL o.dst v0 s) := (getS_putL _ _ _).symm
        show getS s' = foldD _ allD (putS (getS s) o.dst v0) rest.length
        rw [e]; exact e1
      · rw [List.length_cons, foldD_shift]
        show look H' = foldD _ allD (applyUps (look H) u0) rest.length
        rw [← eL]; exact e2
    have run : (evalL (WK s) o.op.operands.toList fun vs => lenK' H 0 fun base => SOp (fun K' => opSem Γ P (fun _ => false) (WK s) (lookK H) (look H) base o.op K') (quiet all o.op) base fun v ups => upsK ups H fun H' => vcDrawX Γ P all rest K (acc ++ [(readsH o.op H (AV.handsL vs), ups.map fun x => x.1.key)]) (putL o.dst v s) H') →
        ∃ v0 u0 H1 rd, (∀ h, MenOf o (getS s) (look H) h → h.key ∈ rd) ∧ look H1 = applyUps (look H) u0 ∧ H.length ≤ H1.length ∧ (∀ x ∈ u0, x.1.key < H1.length) ∧ ((∃ LK : Hd → (Blk → Prop) → Prop, (∀ h K, LK h K → K (look H h)) ∧ opSem Γ P (fun _ => false) (W0 (getS s)) LK (look H) H.length o.op (fun v' ups' => v' = v0 ∧ ups' = u0)) ∧ (quiet all o.op = true → ∀ x ∈ u0, H.length ≤ x.1.key)) ∧ vcDrawX Γ P all rest K (acc ++ [(rd, u0.map fun x => x.1.key)]) (putL o.dst v0 s) H1 := by
      intro hk
      rw [WK_eq, evalL_eq, ← WK_eq] at hk
      have hk := lenK'_ok hk
      rw [Nat.zero_add] at hk
      obtain ⟨v0, u0, h1, hb, hk⟩ := hk
      obtain ⟨H1, hk, e1, l1, m1⟩ := upsK_len hk
      refine ⟨v0, u0, H1, readsH o.op H (AV.handsL (o.op.operands.toList.map (rho (getS s)))), fun h hm => handsH_ok hm, e1, l1, m1, ⟨?_, fun hq x hx => ?_⟩, hk⟩
      · rw [WK_eq] at h1; exact ⟨_, fun h K hk => lookK_ok H h K hk, h1⟩
      · rw [hq] at hb
        have hb : (u0.all fun x => Hd.from H.length x.1) = true := hb
        have := List.all_eq_true.1 hb x hx
        cases hx1 : x.1 <;> rw [hx1] at this <;> first | exact Nat.le_of_ble_eq_true this | cases this
    have hk : vcDrawXStep Γ P all o (vcDrawX Γ P all rest) K acc s H := hk
    simp only [vcDrawXStep] at hk
    cases hg : o.guard with
    | none =>
      rw [hg] at hk
      obtain ⟨v0, u0, H1, rd, hrd, e1, l1, m1, hr, hk⟩ := run hk
      exact step v0 u0 true H1 rd (fun _ => hrd) e1 ⟨by rw [hg], fun _ => hr, (fun h => by cases h), l1, m1, fun h hh => look_ge hh⟩ hk
    | some jw =>
      obtain ⟨j, want⟩ := jw
      rw [hg] at hk
      simp only at hk
      cases ht : (all[j]?).bind (·.dst) with
      | none => rw [ht] at hk; exact hk.elim
      | some t =>
        rw [ht] at hk
        simp only at hk
        rw [getSK_iff] at hk
        have skip : (∃ b, (getS s t = .tf b ∨ getS s t = .p (.bool b)) ∧ false = (b == want)) ∨ (getS s t = .undef ∧ false = false) → vcDrawX Γ P all rest K (acc ++ [([], [])]) (putL o.dst .undef s) H → _ := fun hc hk =>
          step .undef [] false H [] (fun h => by cases h) rfl ⟨by rw [hg]; exact ⟨t, ht, hc⟩, (fun h => by cases h), fun _ => ⟨rfl, rfl⟩, Nat.le_refl _, by simp, fun h hh => look_ge hh⟩ hk
        cases hv : getS s t with
        | tf b =>
          rw [hv] at hk
          simp only at hk
          cases hbw : (b == want) with
          | true =>
            rw [hbw] at hk
            obtain ⟨v0, u0, H1, rd, hrd, e1, l1, m1, hr, hk⟩ := run hk
            exact step v0 u0 true H1 rd (fun _ => hrd) e1 ⟨by rw [hg]; exact ⟨t, ht, .inl ⟨b, .inl hv, hbw.symm⟩⟩, fun _ => hr, (fun h => by cases h), l1, m1, fun h hh => look_ge hh⟩ hk
          | false => rw [hbw] at hk; exact skip (.inl ⟨b, .inl hv, hbw.symm⟩) hk
        | undef => rw [hv] at hk; exact skip (.inr ⟨hv, rfl⟩) hk
        | p pv =>
          rw [hv] at hk
          cases pv with
          | bool b =>
            simp only at hk
            cases hbw : (b == want) with
            | true =>
              rw [hbw] at hk
              obtain ⟨v0, u0, H1, rd, hrd, e1, l1, m1, hr, hk⟩ := run hk
              exact step v0 u0 true H1 rd (fun _ => hrd) e1 ⟨by rw [hg]; exact ⟨t, ht, .inl ⟨b, .inr hv, hbw.symm⟩⟩, fun _ => hr, (fun h => by cases h), l1, m1, fun h hh => look_ge hh⟩ hk
            | false => rw [hbw] at hk; exact skip (.inl ⟨b, .inr hv, hbw.symm⟩) hk
          | _ => exact hk.elim
        | _ => rw [hv] at hk; exact hk.elim
/-- What two operations write and look at is apart. -/
def Dis (u1 : Ups) (r1 : Bool) (m1 : Hd → Prop) (u2 : Ups) (r2 : Bool) (m2 : Hd → Prop) : Prop := (∀ p ∈ u1, ∀ q ∈ u2, p.1.key ≠ q.1.key) ∧ (r2 = true → ∀ p ∈ u1, ∀ h, m2 h → p.1.key ≠ h.key) ∧ (r1 = true → ∀ q ∈ u2, ∀ h, m1 h → q.1.key ≠ h.key)
def Fine (ops : Array Oper) (x : Oper) (sx : Nat → AV) (Lx : Hd → Blk) (ux : Ups) (rx : Bool) (y : Oper) (sy : Nat → AV) (Ly : Hd → Blk) (uy : Ups) (ry : Bool) : Prop :=
  (quiet ops x.op = true ∧ quiet ops y.op = true) ∨ (quiet0 x.op = true ∧ quiet0 y.op = true ∧ Dis ux rx (MenOf x sx Lx) uy ry (MenOf y sy Ly))
theorem Fine.q0 {ops : Array Oper} {x : Oper} {sx : Nat → AV} {Lx : Hd → Blk} {ux : Ups} {rx : Bool} {y : Oper} {sy : Nat → AV} {Ly : Hd → Blk} {uy : Ups} {ry : Bool} (h : Fine ops x sx Lx ux rx y sy Ly uy ry) : quiet0 x.op = true ∧ quiet0 y.op = true := by
  rcases h with ⟨h1, h2⟩ | ⟨h1, h2, _⟩
  · exact ⟨(Bool.and_eq_true .. ▸ h1).1, (Bool.and_eq_true .. ▸ h2).1⟩
  · exact ⟨h1, h2⟩
theorem St.drawn {s : Nat → AV} {L : Hd → Blk} {a : Act} {w : World} (h : St E n s L a w) : St E n s L a { w with drawn := w.drawn + 1 } := by
  obtain ⟨F, β, h⟩ := h
  exact ⟨F, β, h.still rfl rfl rfl rfl⟩
theorem draw_core (hΓ : GOK P Γ) (ops : Array Oper) (hfit : opsFit n ops.toList = true) (hdepF : ∀ {j : Nat} {o : Oper}, ops[j]? = some o → ∀ e ∈ o.after.toList, Region.binds .any e = true → e.on < j) (Q : Exit → Act → World → Prop)
    (s : Sl) (H : Hp) (a : Act) (w : World) (v : Nat → AV) (ups : Nat → Ups) (base : Nat → Nat) (run : Nat → Bool)
    (hstp : ∀ k o, ops.toList[k]? = some o → Stp P Γ ops o (foldD (appS (fun k => (ops.toList[k]?).bind (·.dst)) v) allD (getS s) k) (foldD (appU ups) allD (look H) k) (base k) (base (k + 1)) (v k) (ups k) (run k))
    (s' : Sl) (H' : Hp) (hQ' : ∀ a w, St E n (getS s') (look H') a w → Q .normal a w) (e1 : getS s' = foldD (appS (fun k => (ops.toList[k]?).bind (·.dst)) v) allD (getS s) ops.toList.length) (e2 : look H' = foldD (appU ups) allD (look H) ops.toList.length) (hb0 : base 0 = H.length)
    (hpair : ∀ {i j : Nat} {x y : Oper}, ops[i]? = some x → ops[j]? = some y → i < j → (x.apart ops y = true ∧ Fine ops x (foldD (appS (fun k => (ops.toList[k]?).bind (·.dst)) v) allD (getS s) i) (foldD (appU ups) allD (look H) i) (ups i) (run i) y (foldD (appS (fun k => (ops.toList[k]?).bind (·.dst)) v) allD (getS s) j) (foldD (appU ups) allD (look H) j) (ups j) (run j)) ∨ ∀ D, ClosedD ops.toList D → D j = true → D i = true)
    (hst : St E n (getS s) (look H) a w) : wpAny P .any ops Q ops.size (Array.replicate ops.size false) a w := by
  rw [Array.length_toList] at e1 e2
  generalize hdst : (fun (k : Nat) => (ops.toList[k]?).bind (fun (o : Oper) => o.dst)) = dst at hstp e1 hpair
  have hdst' : ∀ {k : Nat} {o : Oper}, ops[k]? = some o → dst k = o.dst := fun {k o} h => by rw [← hdst]; simp [h]
  have hstp : ∀ {k : Nat} {o : Oper}, ops[k]? = some o → Stp P Γ ops o (foldD (appS dst v) allD (getS s) k) (foldD (appU ups) allD (look H) k) (base k) (base (k + 1)) (v k) (ups k) (run k) := fun {k o} h => hstp k o (by simpa using h)
  have hget : ∀ k, k < ops.size → ∃ o, ops[k]? = some o := fun k hk => ⟨ops[k], by simp [hk]⟩
  have hmono : ∀ j, j ≤ ops.size → ∀ i, i ≤ j → base i ≤ base j := by
    intro j
    induction j with
    | zero => intro _ i hi; rw [Nat.le_zero.1 hi]; exact Nat.le_refl _
    | succ j ih =>
      intro hj i hi
      by_cases e : i = j + 1
      · rw [e]; exact Nat.le_refl _
      · obtain ⟨o, ho⟩ := hget j (by omega)
        exact Nat.le_trans (ih (by omega) i (by omega)) (hstp ho).le
  have hupslt : ∀ {k : Nat}, k < ops.size → ∀ x ∈ ups k, x.1.key < base (k + 1) := fun {k} hk => by
    obtain ⟨o, ho⟩ := hget k hk; exact (hstp ho).lt
  have hupsge : ∀ {k : Nat} {o : Oper}, ops[k]? = some o → quiet ops o.op = true → ∀ x ∈ ups k, base k ≤ x.1.key := fun {k o} ho hq x hx => by
    cases hr : run k with
    | true => exact ((hstp ho).ran hr).2 hq x hx
    | false => rw [((hstp ho).not hr).2] at hx; simp at hx
  -- all is done when nothing is ready
  have done : ∀ (D : Nat → Bool) (a : Act) (w : World), (∀ i, i < ops.size → D i = true) → St E n (foldD (appS dst v) D (getS s) ops.size) (foldD (appU ups) D (look H) ops.size) a w → Q .normal a w := by
    intro D a w hD hst
    rw [foldD_congr (D' := allD) ops.size fun j hj => hD j hj, foldD_congr (D' := allD) ops.size fun j hj => hD j hj, ← e1, ← e2] at hst
    exact hQ' a w hst
  have key : ∀ (fuel : Nat) (listed : Array Bool) (a : Act) (w : World), listed.size = ops.size → ClosedD ops.toList (fun j => listed.getD j false) → ((List.range ops.size).filter fun i => !listed.getD i false).length ≤ fuel →
      St E n (foldD (appS dst v) (fun j => listed.getD j false) (getS s) ops.size) (foldD (appU ups) (fun j => listed.getD j false) (look H) ops.size) a w → wpAny P .any ops Q fuel listed a w := by
    intro fuel
    induction fuel with
    | zero =>
      intro listed a w hsz hcl hcnt hst
      have hall : ∀ i, i < ops.size → listed.getD i false = true := fun i hi => by
        have := List.eq_nil_of_length_eq_zero (Nat.le_zero.1 hcnt)
        rw [List.filter_eq_nil_iff] at this
        simpa using this i (List.mem_range.2 hi)
      refine ⟨?_, done _ a w hall hst⟩
      unfold Region.ready
      rw [List.filter_eq_nil_iff]
      intro i hi
      have hi := List.mem_range.1 hi
      have := hall i hi
      have e : listed.getD i true = true := by simpa [Array.getD, hsz, hi] using this
      simp [e]
    | succ fuel ih =>
      intro listed a w hsz hcl hcnt hst
      refine ⟨fun hnil => ?_, fun i hi => ?_⟩
      · refine done _ a w (fun i => ?_) hst
        induction i using Nat.strongRecOn with
        | _ i ihs =>
          intro hi
          cases hd : listed.getD i false with
          | true => rfl
          | false =>
            exfalso
            obtain ⟨o, ho⟩ := hget i hi
            have : i ∈ Region.ready .any ops listed := by
              unfold Region.ready
              rw [List.mem_filter]
              refine ⟨List.mem_range.2 hi, ?_⟩
              have e : listed.getD i true = false := by simpa [Array.getD, hsz, hi] using hd
              rw [e, ho]
              simp only [Bool.not_false, Option.map_some, Option.getD_some, Bool.true_and]
              rw [← Array.all_toList, List.all_eq_true]
              intro e he
              cases hb : Region.binds .any e with
              | false => rfl
              | true =>
                have hlt := hdepF ho e he hb
                have hd := ihs e.on hlt (by omega)
                rw [hd]; rfl
            rw [hnil] at this
            simp at this
      · -- operation i is taken
        unfold Region.ready at hi
        rw [List.mem_filter] at hi
        obtain ⟨hlt, hi⟩ := hi
        have hlt := List.mem_range.1 hlt
        obtain ⟨o, ho⟩ := hget i hlt
        rw [ho] at hi
        simp only [Option.map_some, Option.getD_some, Bool.and_eq_true] at hi
        obtain ⟨hi1, hi2⟩ := hi
        generalize hD : (fun j => listed.getD j false) = D at hcl hst
        have hDi : D i = false := by
          rw [← hD]
          have : listed.getD i true = false := by simpa using hi1
          simpa [Array.getD, hsz, hlt] using this
        have hdep : ∀ e ∈ o.after.toList, Region.binds .any e = true → D e.on = true := fun e he hb => by
          rw [← Array.all_toList, List.all_eq_true] at hi2
          have := hi2 e he
          rw [hb] at this
          rw [← hD]; simpa using this
        have hD' : (fun j => (listed.setIfInBounds i true).getD j false) = addD D i := by
          funext j
          rw [← hD]
          by_cases e : j = i
          · subst e; rw [addD_same]; simp [Array.getD, hsz, hlt]
          · rw [addD_ne e]
            simp only [Array.getD_eq_getD_getElem?, Array.getElem?_setIfInBounds_ne (fun h => e h.symm)]
        have hcl' : ClosedD ops.toList (addD D i) := by
          intro j oj hj hoj e he hb
          by_cases hji : j = i
          · subst hji
            have : oj = o := by
              have h1 : ops[j]? = some oj := by simpa using hoj
              rw [ho] at h1; cases h1; rfl
            subst this
            simp [addD, hdep e he hb]
          · rw [addD_ne hji] at hj
            simp [addD, hcl j oj hj hoj e he hb]
        -- the pairs
        have lo : ∀ {j : Nat} {x : Oper}, ops[j]? = some x → j < i → (x.apart ops o = true ∧ Fine ops x (foldD (appS dst v) allD (getS s) j) (foldD (appU ups) allD (look H) j) (ups j) (run j) o (foldD (appS dst v) allD (getS s) i) (foldD (appU ups) allD (look H) i) (ups i) (run i)) ∨ D j = true := fun {j x} hx hji => by
          rcases hpair hx ho hji with h | h
          · exact .inl h
          · have := h _ hcl' addD_same
            rw [addD_ne (by omega)] at this
            exact .inr this
        have hi' : ∀ {j : Nat} {x : Oper}, ops[j]? = some x → i < j → D j = true → o.apart ops x = true ∧ Fine ops o (foldD (appS dst v) allD (getS s) i) (foldD (appU ups) allD (look H) i) (ups i) (run i) x (foldD (appS dst v) allD (getS s) j) (foldD (appU ups) allD (look H) j) (ups j) (run j) := fun {j x} hx hij hj => by
          rcases hpair ho hx hij with h | h
          · exact h
          · rw [h _ hcl hj] at hDi; cases hDi
        have hDlt : ∀ {j : Nat}, D j = true → j < ops.size := fun {j} hj => by
          rw [← hD] at hj
          by_cases h : j < listed.size
          · rwa [hsz] at h
          · simp [Array.getD, h] at hj
        have slot : ∀ t, t ∈ o.looksAt ops → foldD (appS dst v) D (getS s) ops.size t = foldD (appS dst v) allD (getS s) i t := by
          intro t ht
          have low : ∀ m, m ≤ i → foldD (appS dst v) D (getS s) m t = foldD (appS dst v) allD (getS s) m t := by
            intro m
            induction m with
            | zero => intro _; rfl
            | succ m ihm =>
              intro hm
              have ihm := ihm (by omega)
              simp only [foldD, allD, cond_true]
              cases hdm : D m with
              | true =>
                simp only [cond_true]
                by_cases e : dst m = some t
                · simp only [appS, e, putS_same]
                · simp only [appS]; rw [putS_other e, putS_other e]; exact ihm
              | false =>
                simp only [cond_false]
                have : dst m ≠ some t := fun e => by
                  obtain ⟨x, hx⟩ := hget m (by omega)
                  rw [hdst' hx] at e
                  rcases lo hx (by omega) with ⟨h, _⟩ | h
                  · exact (Oper.apart_spec h).1 t e ht
                  · rw [hdm] at h; cases h
                simp only [appS]
                rw [putS_other this]; exact ihm
          have high : ∀ m, m ≤ ops.size → i ≤ m → foldD (appS dst v) D (getS s) m t = foldD (appS dst v) D (getS s) i t := by
            intro m
            induction m with
            | zero => intro _ hm; rw [Nat.le_zero.1 hm]
            | succ m ihm =>
              intro hmn hm
              by_cases e : i = m + 1
              · rw [e]
              · have ihm := ihm (by omega) (by omega)
                simp only [foldD]
                cases hdm : D m with
                | false => exact ihm
                | true =>
                  simp only [cond_true, appS]
                  have hne : i ≠ m := fun e => by rw [e, hdm] at hDi; cases hDi
                  obtain ⟨x, hx⟩ := hget m (by omega)
                  rw [putS_other fun e => by
                    rw [hdst' hx] at e
                    exact (Oper.apart_spec (hi' hx (by omega) hdm).1).2.2 t e ht]
                  exact ihm
          rw [high ops.size (Nat.le_refl _) (by omega), low i (Nat.le_refl _)]
        have loud : quiet0 o.op = false → ∀ {σ : Type} (app : σ → Nat → σ) (x : σ), foldD app D x ops.size = foldD app allD x i := by
          intro hq σ app x
          have high : ∀ m, m ≤ ops.size → i ≤ m → foldD app D x m = foldD app D x i := by
            intro m
            induction m with
            | zero => intro _ hm; rw [Nat.le_zero.1 hm]
            | succ m ihm =>
              intro hmn hm
              by_cases e : i = m + 1
              · rw [e]
              · have ihm := ihm (by omega) (by omega)
                simp only [foldD]
                cases hdm : D m with
                | false => exact ihm
                | true =>
                  have hne : i ≠ m := fun e => by rw [e, hdm] at hDi; cases hDi
                  obtain ⟨y, hy⟩ := hget m (by omega)
                  have := (hi' hy (by omega) hdm).2.q0.1
                  rw [hq] at this; cases this
          rw [high ops.size (Nat.le_refl _) (by omega)]
          exact foldD_congr i fun j hj => by
            obtain ⟨y, hy⟩ := hget j (by omega)
            rcases lo hy hj with ⟨_, h⟩ | h
            · have h := h.q0.2
              rw [hq] at h; cases h
            · exact h
        -- the state behind it
        have next : ∀ a' w', St E n (putS (foldD (appS dst v) D (getS s) ops.size) o.dst (v i)) (applyUps (foldD (appU ups) D (look H) ops.size) (ups i)) a' w' → wpAny P .any ops Q fuel (listed.setIfInBounds i true) a' w' := by
          intro a' w' hst'
          refine ih _ a' w' (by simpa using hsz) (by rw [hD']; exact hcl') ?_ ?_
          · have hsub : ((List.range ops.size).filter fun j => !(listed.setIfInBounds i true).getD j false).length < ((List.range ops.size).filter fun j => !listed.getD j false).length := by
              have e1 : (fun j => !(listed.setIfInBounds i true).getD j false) = fun j => (!listed.getD j false) && !(Nat.beq j i) := by
                funext j
                have this : (listed.setIfInBounds i true).getD j false = addD D i j := congrFun hD' j
                rw [this, ← hD]
                simp [addD]
              rw [e1, ← List.countP_eq_length_filter, ← List.countP_eq_length_filter]
              have strict : ∀ (l : List Nat), i ∈ l → List.countP (fun j => (!listed.getD j false) && !(Nat.beq j i)) l < List.countP (fun j => !listed.getD j false) l := by
                have weak : ∀ (l : List Nat), List.countP (fun j => (!listed.getD j false) && !(Nat.beq j i)) l ≤ List.countP (fun j => !listed.getD j false) l := fun l =>
                  List.countP_mono_left fun x _ h => by simp only [Bool.and_eq_true] at h; exact h.1
                have hno : listed.getD i false = false := (congrFun hD i).trans hDi
                intro l
                induction l with
                | nil => intro h; simp at h
                | cons x l ihl =>
                  intro h
                  rw [List.countP_cons, List.countP_cons]
                  by_cases e : x = i
                  · subst e
                    have := weak l
                    have hb : Nat.beq x x = true := by simp
                    rw [hno, hb]
                    simp only [Bool.not_false, Bool.not_true, Bool.and_false, if_true, Bool.false_eq_true, if_false]
                    omega
                  · have := ihl (by rcases List.mem_cons.1 h with h | h; exact (e h.symm).elim; exact h)
                    rw [beq_ne e]
                    simp only [Bool.not_false, Bool.and_true]
                    split <;> omega
              exact strict _ (List.mem_range.2 hlt)
            omega
          · rw [hD', foldD_add hDi ops.size hlt, foldD_add hDi ops.size hlt]
            · simp only [appS, appU]
              rw [hdst' ho]
              exact hst'
            · intro j hij hjn hj y
              obtain ⟨x, hx⟩ := hget j hjn
              have hq := hi' hx hij hj
              simp only [appU]
              refine applyUps_comm fun p hp q hq' => ?_
              rcases hq.2 with ⟨_, hqx⟩ | ⟨_, _, hdis⟩
              · have h1 := hupslt hlt p hp
                have h2 := hupsge hx hqx q hq'
                have h3 := hmono j (by omega) (i + 1) (by omega)
                omega
              · have := hdis.1 p hp q hq'
                omega
            · intro j hij hjn hj y
              obtain ⟨x, hx⟩ := hget j hjn
              simp only [appS]
              refine putS_comm fun t ht => ?_
              rw [hdst' hx]
              rw [hdst' ho] at ht
              exact (Oper.apart_spec (hi' hx hij hj).1).2.1 t ht
        have hdn : ∀ t, o.dst = some t → t < n := fun t ht => by
          have hm : o ∈ ops.toList := List.mem_of_getElem? (by simpa using ho : ops.toList[i]? = some o)
          have := List.all_eq_true.1 hfit o hm
          rw [ht] at this
          simpa using this
        have hS := hstp ho
        -- is it wanted?
        have hwant : Region.wanted o (yielded ops a.tmps) = run i := by
          have hg := hS.guard
          cases hog : o.guard with
          | none => rw [hog] at hg; simp only at hg; rw [hg]; simp [Region.wanted, hog]
          | some jw =>
            obtain ⟨j, want⟩ := jw
            rw [hog] at hg
            simp only at hg
            obtain ⟨t, ht, hg⟩ := hg
            have htl : t ∈ o.looksAt ops := by
              unfold Oper.looksAt
              rw [hog]
              simp [ht]
            rw [← slot t htl] at hg
            obtain ⟨F, β, hst'⟩ := id hst
            have hv := hst'.slots t
            have hlt' : t < a.tmps.size := by
              rw [hst'.len]
              cases hj : ops[j]? with
              | none => rw [hj] at ht; cases ht
              | some oj =>
                rw [hj] at ht
                have hm : oj ∈ ops.toList := List.mem_of_getElem? (by simpa using hj : ops.toList[j]? = some oj)
                have := List.all_eq_true.1 hfit oj hm
                have ht' : oj.dst = some t := ht
                rw [ht'] at this
                simpa using this
            have hgt : a.tmps[t]? = some (a.tmps.getD t Go.undef) := by simp [Array.getD, hlt']
            have hy : ∀ x, a.tmps.getD t Go.undef = x → yielded ops a.tmps j = (match x with | .bool b => some b | _ => none) := by
              intro x e
              unfold yielded
              rw [ht]
              simp only [Option.bind_some, hgt, e]
              cases x <;> rfl
            rcases hg with ⟨b, hb, hr⟩ | ⟨hb, hr⟩
            · have he : a.tmps.getD t Go.undef = .bool b := by
                generalize a.tmps.getD t Go.undef = x at hv
                rcases hb with hb | hb
                · rw [hb] at hv; cases hv; rfl
                · rw [hb] at hv; cases hv with | p hp => cases hp; rfl
              rw [hr]
              simp only [Region.wanted, hog, hy _ he]
              cases b <;> cases want <;> rfl
            · rw [hb] at hv
              have he : a.tmps.getD t Go.undef = .tuple #[] := by generalize a.tmps.getD t Go.undef = x at hv; cases hv; rfl
              rw [hr]
              simp only [Region.wanted, hog, hy _ he]
              rfl
        unfold wpOp
        rw [ho]
        simp only
        rw [hwant]
        cases hr : run i with
        | false =>
          rw [if_neg (by simp)]
          refine next _ w ?_
          obtain ⟨hv, hu⟩ := hS.not hr
          rw [hv, hu]
          cases hd : o.dst with
          | none => exact hst
          | some t =>
            obtain ⟨F, β, h⟩ := hst
            exact ⟨F, β, h.put (hdn t hd) .undef fun k hk => by simp only [AV.men] at hk⟩
        | true =>
          rw [if_pos rfl]
          refine .inl ?_
          obtain ⟨⟨LKi, hLKi, hsem⟩, _⟩ := hS.ran hr
          have hfreeL : ∀ z ∈ ups i, base i ≤ z.1.key → FreeAt (foldD (appU ups) D (look H) ops.size) z.1.key := by
            intro z hz hh1
            have hh2 := hupslt hlt z hz
            have all : ∀ h : Hd, h.key = z.1.key → foldD (appU ups) D (look H) ops.size h = .free := by
              intro h hzh
              rw [← hzh] at hh1 hh2
              have : ∀ m, m ≤ ops.size → foldD (appU ups) D (look H) m h = .free := by
                intro m
                induction m with
                | zero =>
                  intro _
                  exact look_ge (by rw [← hb0]; exact Nat.le_trans (hmono i (by omega) 0 (Nat.zero_le _)) hh1)
                | succ m ihm =>
                  intro hm
                  have ihm := ihm (by omega)
                  simp only [foldD]
                  cases hdm : D m with
                  | false => exact ihm
                  | true =>
                    simp only [cond_true, appU]
                    have hne : m ≠ i := fun e => by rw [e, hDi] at hdm; cases hdm
                    rw [applyUps_other fun x hx e => ?_]
                    · exact ihm
                    · obtain ⟨y, hy⟩ := hget m (by omega)
                      rcases Nat.lt_or_gt_of_ne hne with hmi | hmi
                      · have h1 := hupslt (by omega) x hx
                        have h2 := hmono i (by omega) (m + 1) (by omega)
                        omega
                      · rcases (hi' hy hmi hdm).2 with ⟨_, hqy⟩ | ⟨_, _, hdis⟩
                        · have h1 := hupsge hy hqy x hx
                          have h2 := hmono m (by omega) (i + 1) (by omega)
                          omega
                        · have := hdis.1 z hz x hx
                          omega
              exact this _ (Nat.le_refl _)
            exact ⟨all (.t z.1.key) rfl, fun k => all (.r z.1.key k) rfl⟩
          obtain ⟨LK', hLK', hsem'⟩ : ∃ LK' : Hd → (Blk → Prop) → Prop, (∀ h K, LK' h K → K (foldD (appU ups) D (look H) ops.size h)) ∧ opSem Γ P (fun _ => false) (W0 (foldD (appS dst v) D (getS s) ops.size)) LK' (foldD (appU ups) D (look H) ops.size) (base i) o.op (fun v' ups' => v' = v i ∧ ups' = ups i) := by
            cases hq : quiet0 o.op with
            | false => rw [loud hq, loud hq]; exact ⟨LKi, hLKi, hsem⟩
            | true =>
              refine ⟨LK0 _, fun h K hk => hk, ?_⟩
              have hslot : ∀ x ∈ o.op.operands.toList, rho (foldD (appS dst v) allD (getS s) i) x = rho (foldD (appS dst v) D (getS s) ops.size) x := fun x hx => by
                cases x with
                | tmp t =>
                  exact (slot t (by
                    unfold Oper.looksAt
                    refine List.mem_append_left _ ?_
                    rw [List.mem_filterMap]
                    exact ⟨_, hx, rfl⟩)).symm
                | _ => rfl
              have core : ∀ h, MenOf o (foldD (appS dst v) allD (getS s) i) (foldD (appU ups) allD (look H) i) h → foldD (appU ups) D (look H) ops.size h ≠ .free → foldD (appU ups) allD (look H) i h ≠ .free → foldD (appU ups) D (look H) ops.size h = foldD (appU ups) allD (look H) i h := by
                intro h hRD hne' hne
                have hlth : h.key < base i := by
                  rcases Nat.lt_or_ge h.key (base i) with h' | h'
                  · exact h'
                  · exact (hne (hS.free h h')).elim
                have high : ∀ m, m ≤ ops.size → i ≤ m → foldD (appU ups) D (look H) m h = foldD (appU ups) D (look H) i h := by
                  intro m
                  induction m with
                  | zero => intro _ hm; rw [Nat.le_zero.1 hm]
                  | succ m ihm =>
                    intro hmn hm
                    by_cases e : i = m + 1
                    · rw [e]
                    · have ihm := ihm (by omega) (by omega)
                      simp only [foldD]
                      cases hdm : D m with
                      | false => exact ihm
                      | true =>
                        simp only [cond_true, appU]
                        have hne : i ≠ m := fun e => by rw [e, hdm] at hDi; cases hDi
                        obtain ⟨y, hy⟩ := hget m (by omega)
                        rw [applyUps_other fun x hx e => ?_]
                        · exact ihm
                        · rcases (hi' hy (by omega) hdm).2 with ⟨_, hqy⟩ | ⟨_, _, hdis⟩
                          · have h1 := hupsge hy hqy x hx
                            have h2 := hmono m (by omega) i (by omega)
                            omega
                          · exact hdis.2.2 hr x hx h hRD e
                have low : ∀ m, m ≤ i → foldD (appU ups) D (look H) m h = foldD (appU ups) allD (look H) m h ∨ foldD (appU ups) D (look H) m h = .free := by
                  intro m
                  induction m with
                  | zero => intro _; exact .inl rfl
                  | succ m ihm =>
                    intro hm
                    have ihm := ihm (by omega)
                    obtain ⟨y, hy⟩ := hget m (by omega)
                    simp only [foldD, allD, cond_true, appU]
                    cases hdm : D m with
                    | true =>
                      simp only [cond_true]
                      rcases applyUps_or (ups m) h with e | e
                      · rw [e, e]; exact ihm
                      · exact .inl (e _ _)
                    | false =>
                      simp only [cond_false]
                      rcases lo hy (by omega) with ⟨_, hf⟩ | h'
                      · rcases hf with ⟨hqm, _⟩ | ⟨_, _, hdis⟩
                        · by_cases hex : ∃ x ∈ ups m, x.1.key = h.key
                          · obtain ⟨x, hx, e⟩ := hex
                            have := hupsge hy hqm x hx
                            have hfr := (hstp hy).free h (by omega)
                            rcases ihm with ihm | ihm
                            · exact .inr (ihm.trans hfr)
                            · exact .inr ihm
                          · have hex' : ∀ x ∈ ups m, x.1.key ≠ h.key := fun x hx e => hex ⟨x, hx, e⟩
                            rw [applyUps_other hex']
                            exact ihm
                        · have hex' : ∀ x ∈ ups m, x.1.key ≠ h.key := fun x hx e => hdis.2.1 hr x hx h hRD e
                          rw [applyUps_other hex']
                          exact ihm
                      · rw [hdm] at h'; cases h'
                rw [high ops.size (Nat.le_refl _) (by omega)] at hne' ⊢
                rcases low i (Nat.le_refl _) with h | h
                · exact h
                · exact (hne' h).elim
              obtain ⟨F, β, hst'⟩ := id hst
              refine opSem_congr hLKi hq hslot (fun hlk x hx h hm hne => ?_) hsem
              have zero : ∀ k, (rho (foldD (appS dst v) D (getS s) ops.size) x).men k → foldD (appU ups) allD (look H) i k ≠ .free → foldD (appU ups) D (look H) ops.size k = foldD (appU ups) allD (look H) i k := fun k hk hne => by
                refine core k ⟨hlk, x, hx, .inl (by rw [hslot x hx]; exact hk)⟩ ?_ hne
                cases x with
                | tmp t => exact hst'.ms t k hk
                | const c => exact (cval_men c k hk).elim
                | global g => simp only [rho, AV.men] at hk
                | func f => simp [rho, AV.men, AV.menL] at hk
              have nfr : ∀ k j, (foldD (appU ups) allD (look H) i k).men j → foldD (appU ups) allD (look H) i k ≠ .free := fun k j hj e => by rw [e] at hj; exact hj.elim
              rcases hm with hm | ⟨hdeep, hm⟩
              · exact zero h hm hne
              have one : ∀ k j, (rho (foldD (appS dst v) D (getS s) ops.size) x).men k → (foldD (appU ups) allD (look H) i k).men j → foldD (appU ups) allD (look H) i j ≠ .free → foldD (appU ups) D (look H) ops.size j = foldD (appU ups) allD (look H) i j := fun k j hk hj hne => by
                refine core j ⟨hlk, x, hx, .inr ⟨hdeep, .inr (.inl ⟨k, by rw [hslot x hx]; exact hk, hj⟩)⟩⟩ ?_ hne
                exact hst'.mb k j (by rw [zero k hk (nfr k j hj)]; exact hj)
              rcases hm with hm | ⟨k, h1, h2⟩ | ⟨k, k', h1, h2, h3⟩
              · exact zero h hm hne
              · exact one k h h1 h2 hne
              · refine core h ⟨hlk, x, hx, .inr ⟨hdeep, .inr (.inr ⟨k, k', by rw [hslot x hx]; exact h1, h2, h3⟩)⟩⟩ ?_ hne
                exact hst'.mb k' h (by rw [one k k' h1 h2 (nfr k' h h3)]; exact h3)
          refine Oper.wp_mono ?_ (op_ok (E := E) (n := n) (wr := fun _ => false) (W := W0 _) (LK := LK') (base := base i) hΓ (fun x K h => h) hLK' hst (fun v' u' hvu x hx hge => ?_) o hdn Q hsem')
          · intro a' w' hafter
            obtain ⟨v', u', ⟨rfl, rfl⟩, hst'⟩ := hafter
            exact next a' w' hst'
          · obtain ⟨_, rfl⟩ := hvu
            exact hfreeL x hx hge
  refine key ops.size _ a w (by simp) (fun j o hj => ?_) ?_ ?_
  · simp [Array.getD_eq_getD_getElem?, Array.getElem?_replicate] at hj
    split at hj <;> simp at hj
  · exact Nat.le_trans (List.length_filter_le _ _) (by simp)
  · have e : (fun j => (Array.replicate ops.size false).getD j false) = fun _ => false := by
      funext j
      simp [Array.getD_eq_getD_getElem?, Array.getElem?_replicate]
      split <;> rfl
    have z : ∀ {σ : Type} (app : σ → Nat → σ) (x : σ) (m : Nat), foldD app (fun _ => false) x m = x := by
      intro σ app x m
      induction m with
      | zero => rfl
      | succ m ih => exact ih
    rw [e, z, z]
    exact hst
theorem draw_ok (hΓ : GOK P Γ) (ops : Array Oper) (hfit : opsFit n ops.toList = true) (hok : drawOK ops = true) (Q : Exit → Act → World → Prop) (K : Sl → Hp → Prop) (hQ : ∀ s H a w, K s H → St E n (getS s) (look H) a w → Q .normal a w)
    (s : Sl) (H : Hp) (a : Act) (w : World) (hk : vcDraw Γ P ops ops.toList K s H) (hst : St E n (getS s) (look H) a w) : wpAny P .any ops Q ops.size (Array.replicate ops.size false) a w := by
  obtain ⟨v, ups, base, run, hstp, s', H', hK, e1, e2, hb0⟩ := vcDraw_trace ops ops.toList K s H hk
  refine draw_core hΓ ops hfit (fun ho => drawOK_dep hok ho) Q s H a w v ups base run hstp s' H' (fun a w h => hQ s' H' a w hK h) e1 e2 hb0 (fun {i j x y} hx hy hij => ?_) hst
  rcases drawOK_pair hok hx hy hij with ⟨h1, h2⟩ | h
  · exact .inl ⟨h1, .inl h2⟩
  · exact .inr h
end
end Go.Proofs.YtnilcfiemgmfdaaGreat

namespace Go.Proofs.YtnilcfiemgmfdaaGreat
open Go
set_option linter.unusedVariables false
set_option linter.unusedSimpArgs false
section
variable {Γ : Tab}
theorem mapK_ex {t : TypeId} {F : TypeId → TI → TypeId → TI → Prop} (h : mapK Γ t F) : ∃ kt ki et ei, F kt ki et ei ∧ ∀ G : TypeId → TI → TypeId → TI → Prop, G kt ki et ei → mapK Γ t G := by
  unfold mapK at h ⊢
  split at h
  · rename_i i hi
    split at h
    · rename_i k e hd
      split at h
      · rename_i ki hki
        split at h
        · rename_i ei hei
          exact ⟨_, _, _, _, h, fun G hG => hG⟩
        · exact h.elim
      · exact h.elim
    · exact h.elim
  · exact h.elim
theorem mapK_one {t : TypeId} {F G : TypeId → TI → TypeId → TI → Prop} (h : mapK Γ t F) (g : mapK Γ t G) : mapK Γ t fun a b c d => F a b c d ∧ G a b c d := by
  unfold mapK at h g ⊢
  cases h1 : Γ t with
  | none => rw [h1] at h; exact h.elim
  | some i =>
    rw [h1] at h g
    simp only at h g ⊢
    cases h2 : i.d with
    | map k e =>
      rw [h2] at h g
      simp only at h g ⊢
      cases h3 : Γ k with
      | none => rw [h3] at h; exact h.elim
      | some ki =>
        rw [h3] at h g
        simp only at h g ⊢
        cases h4 : Γ e with
        | none => rw [h4] at h; exact h.elim
        | some ei => rw [h4] at h g; exact ⟨h, g⟩
    | _ => rw [h2] at h; exact h.elim
theorem allP_ex {cs : List AV} {F : List PV → Prop} {G0 : List AV → Prop} (hG0 : ∀ l, ¬ G0 l) (h : allP cs F G0) : ∃ l, F l ∧ ∀ G : List PV → Prop, G l → allP cs G G0 := by
  induction cs generalizing F G0 with
  | nil => exact ⟨[], h, fun G hG => hG⟩
  | cons c cs ih =>
    have other : (allP.rebuild cs fun l => G0 (c :: l)) → ∃ l, F l ∧ ∀ G : List PV → Prop, G l → allP (c :: cs) G G0 := fun h => (hG0 _ (rebuild_ok (K := fun l => G0 (c :: l)) h)).elim
    cases c with
    | p v =>
      obtain ⟨l, h1, h2⟩ := ih (F := fun l => F (v :: l)) (G0 := fun l => G0 (.p v :: l)) (fun l => hG0 _) h
      exact ⟨v :: l, h1, fun G hG => h2 (fun l => G (v :: l)) hG⟩
    | tf b =>
      obtain ⟨l, h1, h2⟩ := ih (F := fun l => F (.bool b :: l)) (G0 := fun l => G0 (.tf b :: l)) (fun l => hG0 _) h
      exact ⟨.bool b :: l, h1, fun G hG => h2 (fun l => G (.bool b :: l)) hG⟩
    | _ => exact other h
theorem asP_ex {t : TypeId} {v : AV} {F : PV → Prop} (h : asP Γ t v F) : ∃ p, F p ∧ ∀ G : PV → Prop, G p → asP Γ t v G := by
  unfold asP at h ⊢
  split at h
  · exact ⟨_, h, fun G hG => hG⟩
  · exact ⟨_, h, fun G hG => hG⟩
  · split at h
    · split at h
      · exact ⟨_, h, fun G hG => hG⟩
      · exact h.elim
    · exact h.elim
  · obtain ⟨l, hl, hg⟩ := allP_ex (fun _ h => h) h
    exact ⟨_, hl, fun G hG => hg _ hG⟩
  · obtain ⟨l, hl, hg⟩ := allP_ex (fun _ h => h) h
    exact ⟨_, hl, fun G hG => hg _ hG⟩
  · obtain ⟨l, hl, hg⟩ := allP_ex (fun _ h => h) h
    exact ⟨_, hl, fun G hG => hg _ hG⟩
  · exact h.elim
/-- A map's key of its shape. -/
def KB (Γ : Tab) (t : TypeId) (p : PV) : Prop := mapK Γ t fun _ ki _ _ => ki.keyB p = true
theorem keq_ff {p q : PV} (h : PV.keq p q = false) : PV.keq q p = false := by
  cases e : PV.keq q p with
  | false => rfl
  | true => have := keq_eq e; subst this; rw [e] at h; cases h
/-- An entry that is laid: what the text's order says, and what any other may. -/
theorem updateK_lit {L : Hd → Blk} {LK : Hd → (Blk → Prop) → Prop} (hLK : ∀ h K, LK h K → K (L h)) {t : TypeId} {h : Hd} {vk vx v : AV} {u : List (Hd × Blk)} (hk : updateK Γ LK t (.map h) vk vx fun v' u' => v' = v ∧ u' = u) :
    ∃ (key val : PV) (es1 : List (PV × PV)), L h = .map es1 ∧ v = .undef ∧ ((u = [(h, .map (es1 ++ [(key, val)]))] ∧ ∀ e ∈ es1, PV.keq key e.1 = false) ∨ ∃ es', u = [(h, .map es')] ∧ es'.length = es1.length) ∧ KB Γ t key ∧
      ∀ (L' : Hd → Blk) (es2 : List (PV × PV)), L' h = .map es2 → (∀ e ∈ es2, KB Γ t e.1 ∧ PV.keq key e.1 = false) → updateK Γ (LK0 L') t (.map h) vk vx fun v' u' => v' = .undef ∧ u' = [(h, .map (es2 ++ [(key, val)]))] := by
  unfold updateK at hk
  obtain ⟨kt, ki, et, ei, hk, hm⟩ := mapK_ex hk
  obtain ⟨key, hk, hkey⟩ := asP_ex hk
  obtain ⟨val, hk, hval⟩ := asP_ex hk
  cases hb : ki.keyB key with
  | false => rw [hb] at hk; exact hk.elim
  | true =>
    rw [hb] at hk
    simp only [cond_true] at hk
    have hk := hLK _ _ hk
    cases hB : L h with
    | map es =>
      rw [hB] at hk
      obtain ⟨hks, hk⟩ := hk
      have regen : ∀ (L' : Hd → Blk) (es2 : List (PV × PV)), L' h = .map es2 → (∀ e ∈ es2, KB Γ t e.1 ∧ PV.keq key e.1 = false) → updateK Γ (LK0 L') t (.map h) vk vx fun v' u' => v' = .undef ∧ u' = [(h, .map (es2 ++ [(key, val)]))] := by
        intro L' es2 hL' he
        unfold updateK
        refine hm _ (hkey _ (hval _ ?_))
        rw [hb]
        simp only [cond_true, LK0, hL']
        refine ⟨fun e hm' => ?_, .new _ (fun e hm' => (he e hm').2) rfl (by simp)⟩
        have := (he e hm').1
        have := mapK_one (hm (fun _ ki' _ _ => ki' = ki) rfl) this
        obtain ⟨_, ki', _, _, ⟨e1, e2⟩, _⟩ := mapK_ex this
        rw [← e1]; exact e2
      refine ⟨key, val, es, rfl, ?_, ?_, hm _ hb, regen⟩
      · cases hk with
        | old i e es' h1 h2 h3 h4 hk => exact hk.1.symm
        | new es' h1 h2 hk => exact hk.1.symm
      · cases hk with
        | old i e es' h1 h2 h3 h4 hk => exact .inr ⟨es', hk.2.symm, by rw [← h4, List.length_set]⟩
        | new es' h1 h2 hk => exact .inl ⟨by rw [h2]; exact hk.2.symm, h1⟩
    | _ => rw [hB] at hk; exact hk.elim
end
theorem drawOKX_pair0 {ops : Array Oper} (h : drawOKX ops = true) {i j : Nat} {x y : Oper} (hx : ops[i]? = some x) (hy : ops[j]? = some y) (hij : i < j) : x.apart ops y = true ∨ ∀ D, ClosedD ops.toList D → D j = true → D i = true := by
  have hmx : (x, i) ∈ ops.toList.zipIdx := by rw [List.mem_zipIdx_iff_getElem?]; simpa using hx
  have hmy : (y, j) ∈ ops.toList.zipIdx := by rw [List.mem_zipIdx_iff_getElem?]; simpa using hy
  have := List.all_eq_true.1 h _ hmy
  rw [Bool.and_eq_true] at this
  have h1 := List.all_eq_true.1 this.2 _ hmx
  have hlt : Nat.blt i j = true := by simpa using hij
  simp only [hlt, Bool.not_true, Bool.false_or, Bool.or_eq_true, Bool.and_eq_true] at h1
  rcases h1 with ⟨ha, _⟩ | h1
  · exact .inl ha
  · exact .inr fun D hD hj => masks_ok hD _ [] rfl (fun j hj => absurd hj (Nat.not_lt_zero _)) j hj i h1
theorem insD_succ {ops : Array Oper} {D : Nat → Bool} {m : Nat} : insD ops D (m + 1) = insD ops D m ++ (if (D m && isI ops m) = true then [m] else []) := by
  unfold insD
  rw [List.range_succ, List.filter_append]
  congr 1
  by_cases h : (D m && isI ops m) = true
  · simp [h]
  · simp [h]
theorem insD_congr {ops : Array Oper} {D D' : Nat → Bool} : ∀ {m : Nat}, (∀ k, k < m → isI ops k = true → D k = D' k) → insD ops D m = insD ops D' m := by
  intro m
  induction m with
  | zero => intro _; rfl
  | succ m ih =>
    intro h
    rw [insD_succ, insD_succ, ih fun k hk => h k (by omega)]
    congr 1
    cases e : isI ops m with
    | true => rw [h m (by omega) e]
    | false => simp
theorem insD_mem {ops : Array Oper} {D : Nat → Bool} {m k : Nat} : k ∈ insD ops D m ↔ k < m ∧ D k = true ∧ isI ops k = true := by
  unfold insD; rw [List.mem_filter, List.mem_range]; simp
theorem insD_add {ops : Array Oper} {D : Nat → Bool} {i : Nat} (hD : D i = false) (hI : isI ops i = true) : ∀ m, i < m → (insD ops (addD D i) m).Perm (insD ops D m ++ [i]) := by
  intro m
  induction m with
  | zero => intro h; omega
  | succ m ih =>
    intro hm
    rw [insD_succ, insD_succ]
    by_cases e : i = m
    · subst e
      rw [show addD D i i = true by simp [addD], hI, hD]
      rw [insD_congr (D' := D) fun k hk _ => by simp [addD]; omega]
      simp
    · have e2 : addD D i m = D m := by simp [addD]; omega
      rw [e2]
      refine ((ih (by omega)).append_right _).trans ?_
      rw [List.append_assoc, List.append_assoc]
      exact List.Perm.append_left _ List.perm_append_comm
section
variable {P : Program} {Γ : Tab} {E : Env} {n : Nat}
theorem lit_core (hΓ : GOK P Γ) (ops : Array Oper) (hfit : opsFit n ops.toList = true) (hox : drawOKX ops = true) (Q : Exit → Act → World → Prop)
    (s : Sl) (H : Hp) (a : Act) (w : World) (v : Nat → AV) (ups : Nat → Ups) (base : Nat → Nat) (run : Nat → Bool)
    (hstp : ∀ k o, ops.toList[k]? = some o → Stp P Γ ops o (foldD (appS (fun k => (ops.toList[k]?).bind (·.dst)) v) allD (getS s) k) (foldD (appU ups) allD (look H) k) (base k) (base (k + 1)) (v k) (ups k) (run k))
    (s' : Sl) (H' : Hp) (e1 : getS s' = foldD (appS (fun k => (ops.toList[k]?).bind (·.dst)) v) allD (getS s) ops.toList.length) (e2 : look H' = foldD (appU ups) allD (look H) ops.toList.length) (hb0 : base 0 = H.length)
    (t0 : TypeId) (h0 : ∃ o, ops[0]? = some o ∧ o.op = .makeMap t0 none)
    (hop : ∀ k o, ops[k]? = some o → o.guard = none ∧ (k = 0 ∨ (∃ m x y, o.op = .insert t0 m x y ∧ (ups k).map (fun x => x.1.key) = [H.length] ∧ o.dst = none) ∨ (isIns o.op = false ∧ quiet0 o.op = true ∧ looks o.op = false ∧ ups k = [])))
    (esf : List (PV × PV)) (hes : look H' (.t H.length) = .map esf) (hn : esf.length = (insD ops allD ops.size).length)
    (hQ' : ∀ es', es'.Perm esf → ∀ a w, St E n (getS s') (upd (look H') (.t H.length) (.map es')) a w → Q .normal a w)
    (hst : St E n (getS s) (look H) a w) : wpAny P .any ops Q ops.size (Array.replicate ops.size false) a w := by
  rw [Array.length_toList] at e1 e2
  generalize hdst : (fun (k : Nat) => (ops.toList[k]?).bind (fun (o : Oper) => o.dst)) = dst at hstp e1
  have hdst' : ∀ {k : Nat} {o : Oper}, ops[k]? = some o → dst k = o.dst := fun {k o} h => by rw [← hdst]; simp [h]
  have hstp : ∀ {k : Nat} {o : Oper}, ops[k]? = some o → Stp P Γ ops o (foldD (appS dst v) allD (getS s) k) (foldD (appU ups) allD (look H) k) (base k) (base (k + 1)) (v k) (ups k) (run k) := fun {k o} h => hstp k o (by simpa using h)
  have hget : ∀ k, k < ops.size → ∃ o, ops[k]? = some o := fun k hk => ⟨ops[k], by simp [hk]⟩
  have hdepF : ∀ {j : Nat} {o : Oper}, ops[j]? = some o → ∀ e ∈ o.after.toList, Region.binds .any e = true → e.on < j := fun ho => drawOKX_dep hox ho
  have hmono : ∀ j, j ≤ ops.size → ∀ i, i ≤ j → base i ≤ base j := by
    intro j
    induction j with
    | zero => intro _ i hi; rw [Nat.le_zero.1 hi]; exact Nat.le_refl _
    | succ j ih =>
      intro hj i hi
      by_cases e : i = j + 1
      · rw [e]; exact Nat.le_refl _
      · obtain ⟨o, ho⟩ := hget j (by omega)
        exact Nat.le_trans (ih (by omega) i (by omega)) (hstp ho).le
  have hrun : ∀ {k : Nat} {o : Oper}, ops[k]? = some o → run k = true := fun {k o} ho => by
    have := (hstp ho).guard
    rw [(hop k o ho).1] at this
    exact this
  obtain ⟨o0, ho0, hm0⟩ := h0
  have hsz0 : 0 < ops.size := (Array.getElem?_eq_some_iff.1 ho0).1
  have bfree : ∀ h : Hd, h.key = H.length → look H h = .free := fun h e => look_ge (by omega)
  have hU0 : ups 0 = [(.t H.length, .map [])] := by
    obtain ⟨LKi, _, hsem⟩ := ((hstp ho0).ran (hrun ho0)).1
    rw [hm0, hb0] at hsem
    simp only [opSem] at hsem
    obtain ⟨_, _, _, _, hsem, _⟩ := mapK_ex hsem
    exact hsem.2.symm
  have hI0 : isI ops 0 = false := by unfold isI; rw [ho0]; simp only [hm0]; rfl
  have hb1 : H.length < base 1 := by
    have := (hstp ho0).lt (.t H.length, .map []) (by rw [hU0]; simp)
    exact this
  -- the text's order
  have upd2 : ∀ es es' : List (PV × PV), applyUps (upd (look H) (.t H.length) (.map es)) [(.t H.length, .map es')] = upd (look H) (.t H.length) (.map es') := by
    intro es es'
    show upd (upd (look H) (.t H.length) (.map es)) (.t H.length) (.map es') = _
    funext h
    by_cases e : h = .t H.length
    · rw [e, upd_same, upd_same]
    · rw [upd_other _ _ e, upd_other _ _ e, upd_other _ _ e]
  have upd1 : applyUps (look H) [(.t H.length, .map [])] = upd (look H) (.t H.length) (.map []) := rfl
  -- what the text says of an insert
  have ins : ∀ {k : Nat} {o : Oper} {es : List (PV × PV)}, ops[k]? = some o → k ≠ 0 → isIns o.op = true → foldD (appU ups) allD (look H) k = upd (look H) (.t H.length) (.map es) →
      ∃ (m x y : Operand) (e : PV × PV), o.op = .insert t0 m x y ∧ o.dst = none ∧ rho (foldD (appS dst v) allD (getS s) k) m = .map (.t H.length) ∧ v k = .undef ∧ KB Γ t0 e.1 ∧
        ((ups k = [(.t H.length, .map (es ++ [e]))] ∧ ∀ z ∈ es, PV.keq e.1 z.1 = false) ∨ ∃ es', ups k = [(.t H.length, .map es')] ∧ es'.length = es.length) ∧
        ∀ (L' : Hd → Blk) (es2 : List (PV × PV)), L' (.t H.length) = .map es2 → (∀ z ∈ es2, KB Γ t0 z.1 ∧ PV.keq e.1 z.1 = false) →
          updateK Γ (LK0 L') t0 (.map (.t H.length)) (rho (foldD (appS dst v) allD (getS s) k) x) (rho (foldD (appS dst v) allD (getS s) k) y) fun v' u' => v' = .undef ∧ u' = [(.t H.length, .map (es2 ++ [e]))] := by
    intro k o es ho hk0 hI hL
    obtain ⟨m, x, y, hox', hkeys, hd⟩ : ∃ m x y, o.op = .insert t0 m x y ∧ (ups k).map (fun x => x.1.key) = [H.length] ∧ o.dst = none := by
      rcases (hop k o ho).2 with h | h | h
      · exact (hk0 h).elim
      · exact h
      · rw [hI] at h; cases h.1
    obtain ⟨LKi, hLKi, hsem⟩ := ((hstp ho).ran (hrun ho)).1
    rw [hox'] at hsem
    simp only [opSem, W0] at hsem
    generalize hvmr : rho (foldD (appS dst v) allD (getS s) k) m = vm at hsem
    have hvm : ∃ h, vm = .map h := by
      have hs2 := hsem
      unfold updateK at hs2
      obtain ⟨_, ki, _, _, hs2, _⟩ := mapK_ex hs2
      obtain ⟨key, hs2, _⟩ := asP_ex hs2
      obtain ⟨val, hs2, _⟩ := asP_ex hs2
      cases hb : ki.keyB key with
      | false => rw [hb] at hs2; exact hs2.elim
      | true =>
        rw [hb] at hs2
        simp only [cond_true] at hs2
        split at hs2
        · exact ⟨_, rfl⟩
        · exact hs2.elim
    obtain ⟨h, rfl⟩ := hvm
    obtain ⟨key, val, es1, hL1, hv, hu, hkb, hre⟩ := updateK_lit hLKi hsem
    have hh : h = .t H.length := by
      have hkey : h.key = H.length := by
        rcases hu with ⟨hu, _⟩ | ⟨_, hu, _⟩ <;> rw [hu] at hkeys <;> simpa using hkeys
      by_cases e : h = .t H.length
      · exact e
      · rw [hL, upd_other _ _ e, bfree h hkey] at hL1; cases hL1
    subst hh
    have he1 : es1 = es := by rw [hL, upd_same] at hL1; cases hL1; rfl
    subst he1
    exact ⟨m, x, y, (key, val), hox', hd, hvmr, hv, hkb, hu, hre⟩
  have stay : ∀ {k : Nat} {o : Oper}, ops[k]? = some o → k ≠ 0 → isIns o.op = false → ups k = [] := fun {k o} ho hk0 hI => by
    rcases (hop k o ho).2 with h | ⟨_, _, _, h, _⟩ | h
    · exact (hk0 h).elim
    · rw [h] at hI; cases hI
    · exact h.2.2.2
  have isI_of : ∀ {k : Nat} {o : Oper}, ops[k]? = some o → isI ops k = isIns o.op := fun {k o} ho => by unfold isI; rw [ho]
  have stepU : ∀ {k : Nat}, foldD (appU ups) allD (look H) (k + 1) = applyUps (foldD (appU ups) allD (look H) k) (ups k) := rfl
  -- the text's order
  have T1 : ∀ m, 1 ≤ m → m ≤ ops.size → ∃ es, foldD (appU ups) allD (look H) m = upd (look H) (.t H.length) (.map es) := by
    intro m
    induction m with
    | zero => intro h; omega
    | succ m ih =>
      intro _ hm
      by_cases hm0' : m = 0
      · subst hm0'
        exact ⟨[], by rw [stepU, hU0]; exact upd1⟩
      · obtain ⟨es, hes⟩ := ih (by omega) (by omega)
        obtain ⟨o, ho⟩ := hget m (by omega)
        rw [stepU]
        cases hI : isIns o.op with
        | false => rw [stay ho hm0' hI]; exact ⟨es, hes⟩
        | true =>
          obtain ⟨_, _, _, e, _, _, _, _, _, hu, _⟩ := ins ho hm0' hI hes
          rcases hu with ⟨hu, _⟩ | ⟨es', hu, _⟩
          · exact ⟨es ++ [e], by rw [hu, hes]; exact upd2 _ _⟩
          · exact ⟨es', by rw [hu, hes]; exact upd2 _ _⟩
  -- the entries of the text, so far
  obtain ⟨esT, hesT⟩ : ∃ esT : Nat → List (PV × PV), ∀ m, 1 ≤ m → m ≤ ops.size → foldD (appU ups) allD (look H) m = upd (look H) (.t H.length) (.map (esT m)) := by
    refine ⟨fun m => match foldD (appU ups) allD (look H) m (.t H.length) with | .map es => es | _ => [], fun m h1 h2 => ?_⟩
    obtain ⟨es, hes⟩ := T1 m h1 h2
    simp only [hes, upd_same]
  have esT_det : ∀ {m : Nat} {es : List (PV × PV)}, 1 ≤ m → m ≤ ops.size → foldD (appU ups) allD (look H) m = upd (look H) (.t H.length) (.map es) → esT m = es := fun {m es} h1 h2 h => by
    have := hesT m h1 h2
    rw [h] at this
    have := congrFun this (.t H.length)
    rw [upd_same, upd_same] at this
    cases this; rfl
  have esT1 : esT 1 = [] := esT_det (Nat.le_refl _) hsz0 (by rw [stepU, hU0]; exact upd1)
  have esTf : esT ops.size = esf := esT_det hsz0 (Nat.le_refl _) (by
    have := hesT ops.size hsz0 (Nat.le_refl _)
    rw [e2] at hes
    rw [this, upd_same] at hes
    cases hes; exact this)
  have T3 : ∀ k, k ≠ 0 → k < ops.size → isI ops k = false → esT (k + 1) = esT k := fun k hk0 hk hI => by
    obtain ⟨o, ho⟩ := hget k hk
    rw [isI_of ho] at hI
    exact esT_det (by omega) (by omega) (by rw [stepU, stay ho hk0 hI]; exact hesT k (by omega) (by omega))
  have T2 : ∀ k, k ≠ 0 → k < ops.size → isI ops k = true → ∃ e : PV × PV, ((esT (k + 1) = esT k ++ [e] ∧ ∀ z ∈ esT k, PV.keq e.1 z.1 = false) ∨ (esT (k + 1)).length = (esT k).length) ∧ KB Γ t0 e.1 ∧
      ∃ (o : Oper) (m x y : Operand), ops[k]? = some o ∧ o.op = .insert t0 m x y ∧ o.dst = none ∧ rho (foldD (appS dst v) allD (getS s) k) m = .map (.t H.length) ∧ v k = .undef ∧
        ∀ (L' : Hd → Blk) (es2 : List (PV × PV)), L' (.t H.length) = .map es2 → (∀ z ∈ es2, KB Γ t0 z.1 ∧ PV.keq e.1 z.1 = false) →
          updateK Γ (LK0 L') t0 (.map (.t H.length)) (rho (foldD (appS dst v) allD (getS s) k) x) (rho (foldD (appS dst v) allD (getS s) k) y) fun v' u' => v' = .undef ∧ u' = [(.t H.length, .map (es2 ++ [e]))] := fun k hk0 hk hI => by
    obtain ⟨o, ho⟩ := hget k hk
    rw [isI_of ho] at hI
    obtain ⟨m, x, y, e, h1, h2, h3, h4, h5, hu, h6⟩ := ins ho hk0 hI (hesT k (by omega) (by omega))
    refine ⟨e, ?_, h5, o, m, x, y, ho, h1, h2, h3, h4, h6⟩
    rcases hu with ⟨hu, hne⟩ | ⟨es', hu, hl⟩
    · exact .inl ⟨esT_det (by omega) (by omega) (by rw [stepU, hu, hesT k (by omega) (by omega)]; exact upd2 _ _), hne⟩
    · refine .inr ?_
      rw [esT_det (m := k + 1) (es := es') (by omega) (by omega) (by rw [stepU, hu, hesT k (by omega) (by omega)]; exact upd2 _ _)]
      exact hl
  have lenS : ∀ k, k ≠ 0 → k < ops.size → (esT (k + 1)).length ≤ (esT k).length + (if isI ops k = true then 1 else 0) := fun k hk0 hk => by
    cases hI : isI ops k with
    | false => rw [T3 k hk0 hk hI]; simp
    | true =>
      obtain ⟨e, h, _⟩ := T2 k hk0 hk hI
      rcases h with ⟨h, _⟩ | h
      · rw [h]; simp
      · rw [h]; simp
  have cntS : ∀ k, (insD ops allD (k + 1)).length = (insD ops allD k).length + (if isI ops k = true then 1 else 0) := fun k => by
    rw [insD_succ, List.length_append]
    cases hI : isI ops k <;> simp [allD]
  have lenA : ∀ m, 1 ≤ m → m ≤ ops.size → (esT m).length ≤ (insD ops allD m).length := by
    intro m
    induction m with
    | zero => intro h; omega
    | succ m ih =>
      intro _ hm
      by_cases hm0' : m = 0
      · subst hm0'; rw [esT1]; exact Nat.zero_le _
      · have := lenS m hm0' (by omega)
        have := ih (by omega) (by omega)
        have := cntS m
        omega
  have lenB : ∀ d m, 1 ≤ m → m + d = ops.size → (insD ops allD ops.size).length ≤ (esT m).length + ((insD ops allD ops.size).length - (insD ops allD m).length) := by
    intro d
    induction d with
    | zero => intro m h1 h; obtain rfl : m = ops.size := by omega
              rw [esTf, hn]; omega
    | succ d ih =>
      intro m h1 h
      have h3 := ih (m + 1) (by omega) (by omega)
      have h4 := lenS m (by omega) (by omega)
      have h5 := cntS m
      have h6 : (insD ops allD (m + 1)).length ≤ (insD ops allD ops.size).length := by
        have : ∀ j, m + 1 ≤ j → (insD ops allD (m + 1)).length ≤ (insD ops allD j).length := by
          intro j
          induction j with
          | zero => intro h; omega
          | succ j ihj =>
            intro h
            by_cases e : m + 1 = j + 1
            · rw [e]; exact Nat.le_refl _
            · have := ihj (by omega)
              have := cntS j
              omega
        exact this _ (by omega)
      omega
  have allNew : ∀ k, k ≠ 0 → k < ops.size → isI ops k = true → (esT (k + 1)).length ≠ (esT k).length := fun k hk0 hk hI e => by
    have h1 := lenA k (by omega) (by omega)
    have h2 := lenB (ops.size - (k + 1)) (k + 1) (by omega) (by omega)
    have h3 := cntS k
    rw [hI, if_pos rfl] at h3
    have h6 : (insD ops allD (k + 1)).length ≤ (insD ops allD ops.size).length := by
      have : ∀ j, k + 1 ≤ j → (insD ops allD (k + 1)).length ≤ (insD ops allD j).length := by
        intro j
        induction j with
        | zero => intro h; omega
        | succ j ihj =>
          intro h
          by_cases e : k + 1 = j + 1
          · rw [e]; exact Nat.le_refl _
          · have := ihj (by omega)
            have := cntS j
            omega
      exact this _ (by omega)
    omega
  have hI00 : ∀ k, isI ops k = true → k ≠ 0 := fun k h e => by rw [e, hI0] at h; cases h
  obtain ⟨en, hen⟩ : ∃ en : Nat → PV × PV, ∀ k, k < ops.size → isI ops k = true → (esT (k + 1) = esT k ++ [en k] ∧ ∀ z ∈ esT k, PV.keq (en k).1 z.1 = false) ∧ KB Γ t0 (en k).1 ∧
      ∃ (o : Oper) (m x y : Operand), ops[k]? = some o ∧ o.op = .insert t0 m x y ∧ o.dst = none ∧ rho (foldD (appS dst v) allD (getS s) k) m = .map (.t H.length) ∧ v k = .undef ∧
        ∀ (L' : Hd → Blk) (es2 : List (PV × PV)), L' (.t H.length) = .map es2 → (∀ z ∈ es2, KB Γ t0 z.1 ∧ PV.keq (en k).1 z.1 = false) →
          updateK Γ (LK0 L') t0 (.map (.t H.length)) (rho (foldD (appS dst v) allD (getS s) k) x) (rho (foldD (appS dst v) allD (getS s) k) y) fun v' u' => v' = .undef ∧ u' = [(.t H.length, .map (es2 ++ [en k]))] := by
    classical
    refine ⟨fun k => if h : k < ops.size ∧ isI ops k = true then (T2 k (hI00 k h.2) h.1 h.2).choose else (.bool false, .bool false), fun k hk hI => ?_⟩
    simp only [dif_pos (And.intro hk hI)]
    have hs := (T2 k (hI00 k hI) hk hI).choose_spec
    exact ⟨hs.1.resolve_right (allNew k (hI00 k hI) hk hI), hs.2⟩
  have T4 : ∀ m, 1 ≤ m → m ≤ ops.size → esT m = (insD ops allD m).map en := by
    intro m
    induction m with
    | zero => intro h; omega
    | succ m ih =>
      intro _ hm
      rw [insD_succ, List.map_append]
      by_cases hm0' : m = 0
      · subst hm0'; rw [esT1, hI0]; rfl
      · rw [← ih (by omega) (by omega)]
        cases hI : isI ops m with
        | false => rw [T3 m hm0' (by omega) hI]; simp
        | true => rw [(hen m (by omega) hI).1.1]; simp [allD]
  have apart : ∀ j k, j < k → k < ops.size → isI ops j = true → isI ops k = true → PV.keq (en k).1 (en j).1 = false := fun j k hjk hk hj hkI => by
    refine (hen k hk hkI).1.2 _ ?_
    rw [T4 k (by omega) (by omega)]
    exact List.mem_map.2 ⟨j, insD_mem.2 ⟨hjk, rfl, hj⟩, rfl⟩
  have apart2 : ∀ j k, j ≠ k → j < ops.size → k < ops.size → isI ops j = true → isI ops k = true → PV.keq (en k).1 (en j).1 = false := fun j k hne hj hk hjI hkI => by
    rcases Nat.lt_or_gt_of_ne hne with h | h
    · exact apart j k h hk hjI hkI
    · exact keq_ff (apart k j h hj hkI hjI)
  let Inv : (Nat → Bool) → Act → World → Prop := fun D a w => ∃ es : List (PV × PV), es.Perm ((insD ops D ops.size).map en) ∧ (D 0 = false → es = []) ∧ St E n (foldD (appS dst v) D (getS s) ops.size) (bif D 0 then upd (look H) (.t H.length) (.map es) else look H) a w
  have done : ∀ (D : Nat → Bool) (a : Act) (w : World), (∀ i, i < ops.size → D i = true) → Inv D a w → Q .normal a w := by
    intro D a w hD ⟨es, hp, _, hst⟩
    rw [hD 0 hsz0, cond_true, foldD_congr (D' := allD) ops.size fun j hj => hD j hj, ← e1] at hst
    rw [insD_congr (D' := allD) fun k hk _ => hD k hk, ← T4 ops.size hsz0 (Nat.le_refl _), esTf] at hp
    refine hQ' es hp a w ?_
    rw [e2, hesT ops.size hsz0 (Nat.le_refl _)]
    have : upd (upd (look H) (.t H.length) (.map (esT ops.size))) (.t H.length) (.map es) = upd (look H) (.t H.length) (.map es) := upd2 _ _
    rw [this]; exact hst
  have key : ∀ (fuel : Nat) (listed : Array Bool) (a : Act) (w : World), listed.size = ops.size → ClosedD ops.toList (fun j => listed.getD j false) → ((List.range ops.size).filter fun i => !listed.getD i false).length ≤ fuel →
      Inv (fun j => listed.getD j false) a w → wpAny P .any ops Q fuel listed a w := by
    intro fuel
    induction fuel with
    | zero =>
      intro listed a w hsz hcl hcnt hst
      have hall : ∀ i, i < ops.size → listed.getD i false = true := fun i hi => by
        have := List.eq_nil_of_length_eq_zero (Nat.le_zero.1 hcnt)
        rw [List.filter_eq_nil_iff] at this
        simpa using this i (List.mem_range.2 hi)
      refine ⟨?_, done _ a w hall hst⟩
      unfold Region.ready
      rw [List.filter_eq_nil_iff]
      intro i hi
      have hi := List.mem_range.1 hi
      have := hall i hi
      have e : listed.getD i true = true := by simpa [Array.getD, hsz, hi] using this
      simp [e]
    | succ fuel ih =>
      intro listed a w hsz hcl hcnt hst
      refine ⟨fun hnil => ?_, fun i hi => ?_⟩
      · refine done _ a w (fun i => ?_) hst
        induction i using Nat.strongRecOn with
        | _ i ihs =>
          intro hi
          cases hd : listed.getD i false with
          | true => rfl
          | false =>
            exfalso
            obtain ⟨o, ho⟩ := hget i hi
            have : i ∈ Region.ready .any ops listed := by
              unfold Region.ready
              rw [List.mem_filter]
              refine ⟨List.mem_range.2 hi, ?_⟩
              have e : listed.getD i true = false := by simpa [Array.getD, hsz, hi] using hd
              rw [e, ho]
              simp only [Bool.not_false, Option.map_some, Option.getD_some, Bool.true_and]
              rw [← Array.all_toList, List.all_eq_true]
              intro e he
              cases hb : Region.binds .any e with
              | false => rfl
              | true =>
                have hlt := hdepF ho e he hb
                have hd := ihs e.on hlt (by omega)
                rw [hd]; rfl
            rw [hnil] at this
            simp at this
      · -- operation i is taken
        unfold Region.ready at hi
        rw [List.mem_filter] at hi
        obtain ⟨hlt, hi⟩ := hi
        have hlt := List.mem_range.1 hlt
        obtain ⟨o, ho⟩ := hget i hlt
        rw [ho] at hi
        simp only [Option.map_some, Option.getD_some, Bool.and_eq_true] at hi
        obtain ⟨hi1, hi2⟩ := hi
        generalize hD : (fun j => listed.getD j false) = D at hcl hst
        have hDi : D i = false := by
          rw [← hD]
          have : listed.getD i true = false := by simpa using hi1
          simpa [Array.getD, hsz, hlt] using this
        have hdep : ∀ e ∈ o.after.toList, Region.binds .any e = true → D e.on = true := fun e he hb => by
          rw [← Array.all_toList, List.all_eq_true] at hi2
          have := hi2 e he
          rw [hb] at this
          rw [← hD]; simpa using this
        have hD' : (fun j => (listed.setIfInBounds i true).getD j false) = addD D i := by
          funext j
          rw [← hD]
          by_cases e : j = i
          · subst e; rw [addD_same]; simp [Array.getD, hsz, hlt]
          · rw [addD_ne e]
            simp only [Array.getD_eq_getD_getElem?, Array.getElem?_setIfInBounds_ne (fun h => e h.symm)]
        have hcl' : ClosedD ops.toList (addD D i) := by
          intro j oj hj hoj e he hb
          by_cases hji : j = i
          · subst hji
            have : oj = o := by
              have h1 : ops[j]? = some oj := by simpa using hoj
              rw [ho] at h1; cases h1; rfl
            subst this
            simp [addD, hdep e he hb]
          · rw [addD_ne hji] at hj
            simp [addD, hcl j oj hj hoj e he hb]
        have lo : ∀ {j : Nat} {x : Oper}, ops[j]? = some x → j < i → x.apart ops o = true ∨ D j = true := fun {j x} hx hji => by
          rcases drawOKX_pair0 hox hx ho hji with h | h
          · exact .inl h
          · have := h _ hcl' addD_same
            rw [addD_ne (by omega)] at this
            exact .inr this
        have hi' : ∀ {j : Nat} {x : Oper}, ops[j]? = some x → i < j → D j = true → o.apart ops x = true := fun {j x} hx hij hj => by
          rcases drawOKX_pair0 hox ho hx hij with h | h
          · exact h
          · rw [h _ hcl hj] at hDi; cases hDi
        have slot : ∀ t, t ∈ o.looksAt ops → foldD (appS dst v) D (getS s) ops.size t = foldD (appS dst v) allD (getS s) i t := by
          intro t ht
          have low : ∀ m, m ≤ i → foldD (appS dst v) D (getS s) m t = foldD (appS dst v) allD (getS s) m t := by
            intro m
            induction m with
            | zero => intro _; rfl
            | succ m ihm =>
              intro hm
              have ihm := ihm (by omega)
              simp only [foldD, allD, cond_true]
              cases hdm : D m with
              | true =>
                simp only [cond_true]
                by_cases e : dst m = some t
                · simp only [appS, e, putS_same]
                · simp only [appS]; rw [putS_other e, putS_other e]; exact ihm
              | false =>
                simp only [cond_false]
                have : dst m ≠ some t := fun e => by
                  obtain ⟨x, hx⟩ := hget m (by omega)
                  rw [hdst' hx] at e
                  rcases lo hx (by omega) with h | h
                  · exact (Oper.apart_spec h).1 t e ht
                  · rw [hdm] at h; cases h
                simp only [appS]
                rw [putS_other this]; exact ihm
          have high : ∀ m, m ≤ ops.size → i ≤ m → foldD (appS dst v) D (getS s) m t = foldD (appS dst v) D (getS s) i t := by
            intro m
            induction m with
            | zero => intro _ hm; rw [Nat.le_zero.1 hm]
            | succ m ihm =>
              intro hmn hm
              by_cases e : i = m + 1
              · rw [e]
              · have ihm := ihm (by omega) (by omega)
                simp only [foldD]
                cases hdm : D m with
                | false => exact ihm
                | true =>
                  simp only [cond_true, appS]
                  have hne : i ≠ m := fun e => by rw [e, hdm] at hDi; cases hDi
                  obtain ⟨x, hx⟩ := hget m (by omega)
                  rw [putS_other fun e => by
                    rw [hdst' hx] at e
                    exact (Oper.apart_spec (hi' hx (by omega) hdm)).2.2 t e ht]
                  exact ihm
          rw [high ops.size (Nat.le_refl _) (by omega), low i (Nat.le_refl _)]
        have next : ∀ a' w' (es' : List (PV × PV)), es'.Perm ((insD ops (addD D i) ops.size).map en) → (addD D i 0 = false → es' = []) → St E n (putS (foldD (appS dst v) D (getS s) ops.size) o.dst (v i)) (bif addD D i 0 then upd (look H) (.t H.length) (.map es') else look H) a' w' → wpAny P .any ops Q fuel (listed.setIfInBounds i true) a' w' := by
          intro a' w' es' hp' h0' hst'
          refine ih _ a' w' (by simpa using hsz) (by rw [hD']; exact hcl') ?_ ?_
          · have hsub : ((List.range ops.size).filter fun j => !(listed.setIfInBounds i true).getD j false).length < ((List.range ops.size).filter fun j => !listed.getD j false).length := by
              have e1 : (fun j => !(listed.setIfInBounds i true).getD j false) = fun j => (!listed.getD j false) && !(Nat.beq j i) := by
                funext j
                have this : (listed.setIfInBounds i true).getD j false = addD D i j := congrFun hD' j
                rw [this, ← hD]
                simp [addD]
              rw [e1, ← List.countP_eq_length_filter, ← List.countP_eq_length_filter]
              have strict : ∀ (l : List Nat), i ∈ l → List.countP (fun j => (!listed.getD j false) && !(Nat.beq j i)) l < List.countP (fun j => !listed.getD j false) l := by
                have weak : ∀ (l : List Nat), List.countP (fun j => (!listed.getD j false) && !(Nat.beq j i)) l ≤ List.countP (fun j => !listed.getD j false) l := fun l =>
                  List.countP_mono_left fun x _ h => by simp only [Bool.and_eq_true] at h; exact h.1
                have hno : listed.getD i false = false := (congrFun hD i).trans hDi
                intro l
                induction l with
                | nil => intro h; simp at h
                | cons x l ihl =>
                  intro h
                  rw [List.countP_cons, List.countP_cons]
                  by_cases e : x = i
                  · subst e
                    have := weak l
                    have hb : Nat.beq x x = true := by simp
                    rw [hno, hb]
                    simp only [Bool.not_false, Bool.not_true, Bool.and_false, if_true, Bool.false_eq_true, if_false]
                    omega
                  · have := ihl (by rcases List.mem_cons.1 h with h | h; exact (e h.symm).elim; exact h)
                    rw [beq_ne e]
                    simp only [Bool.not_false, Bool.and_true]
                    split <;> omega
              exact strict _ (List.mem_range.2 hlt)
            omega
          · rw [hD']
            refine ⟨es', hp', h0', ?_⟩
            rw [foldD_add hDi ops.size hlt]
            · simp only [appS]
              rw [hdst' ho]
              exact hst'
            · intro j hij hjn hj y
              obtain ⟨x, hx⟩ := hget j hjn
              simp only [appS]
              refine putS_comm fun t ht => ?_
              rw [hdst' hx]
              rw [hdst' ho] at ht
              exact (Oper.apart_spec (hi' hx hij hj)).2.1 t ht
        have hdn : ∀ t, o.dst = some t → t < n := fun t ht => by
          have hm : o ∈ ops.toList := List.mem_of_getElem? (by simpa using ho : ops.toList[i]? = some o)
          have := List.all_eq_true.1 hfit o hm
          rw [ht] at this
          simpa using this
        have hwant : Region.wanted o (yielded ops a.tmps) = true := by simp [Region.wanted, (hop i o ho).1]
        unfold wpOp
        rw [ho]
        simp only
        rw [hwant, if_pos rfl]
        refine .inl ?_
        obtain ⟨⟨LKi, hLKi, hsem⟩, _⟩ := ((hstp ho).ran (hrun ho))
        have hslot : ∀ x ∈ o.op.operands.toList, rho (foldD (appS dst v) allD (getS s) i) x = rho (foldD (appS dst v) D (getS s) ops.size) x := fun x hx => by
          cases x with
          | tmp t =>
            exact (slot t (by
              unfold Oper.looksAt
              refine List.mem_append_left _ ?_
              rw [List.mem_filterMap]
              exact ⟨_, hx, rfl⟩)).symm
          | _ => rfl
        obtain ⟨es, hp, hes0, hstD⟩ := hst
        by_cases hi0 : i = 0
        · -- the map is made
          subst hi0
          obtain rfl : o = o0 := by rw [ho] at ho0; cases ho0; rfl
          rw [hDi, cond_false] at hstD
          have hes0 := hes0 hDi
          have hsem' : opSem Γ P (fun _ => false) (W0 (foldD (appS dst v) D (getS s) ops.size)) (LK0 (look H)) (look H) (base 0) o.op (fun v' ups' => v' = v 0 ∧ ups' = ups 0) := by
            rw [hm0] at hsem ⊢
            simp only [opSem] at hsem ⊢
            exact hsem
          refine Oper.wp_mono ?_ (op_ok (E := E) (n := n) (wr := fun _ => false) (W := W0 _) (LK := LK0 _) (base := base 0) hΓ (fun x K h => h) (fun h K hk => hk) hstD (fun v' u' hvu x hx hge => ?_) o hdn Q hsem')
          · intro a' w' hafter
            obtain ⟨v', u', ⟨rfl, rfl⟩, hst'⟩ := hafter
            refine next a' w' [] ?_ (fun _ => rfl) ?_
            · rw [insD_congr (D' := D) fun k hk hkI => by
                have := hI00 k hkI
                simp [addD]; omega]
              rw [hes0] at hp; exact hp
            · rw [show addD D 0 0 = true by simp [addD], cond_true]
              rw [hU0] at hst'
              exact hst'
          · obtain ⟨_, rfl⟩ := hvu
            rw [hU0] at hx
            obtain rfl : x = (.t H.length, .map []) := by simpa using hx
            exact ⟨bfree _ rfl, fun k => bfree _ rfl⟩
        · have h00 : addD D i 0 = D 0 := by simp [addD]; omega
          cases hI : isI ops i with
          | true =>
            obtain ⟨⟨hnew, hne⟩, hkb, o', m, x, y, ho', hox', hd', hmr, hv, hre⟩ := hen i hlt hI
            obtain rfl : o' = o := by rw [ho] at ho'; cases ho'; rfl
            have hmD : rho (foldD (appS dst v) D (getS s) ops.size) m = .map (.t H.length) := by rw [← hslot m (by rw [hox']; simp [Op.operands])]; exact hmr
            have hD0 : D 0 = true := by
              cases h : D 0 with
              | true => rfl
              | false =>
                rw [h, cond_false] at hstD
                obtain ⟨F, β, hst'⟩ := hstD
                have := hst'.evm m (.t H.length) (by rw [hmD]; rfl)
                exact (this (bfree _ rfl)).elim
            rw [hD0, cond_true] at hstD
            have hsem' : opSem Γ P (fun _ => false) (W0 (foldD (appS dst v) D (getS s) ops.size)) (LK0 (upd (look H) (.t H.length) (.map es))) (upd (look H) (.t H.length) (.map es)) (base i) o'.op (fun v' ups' => v' = .undef ∧ ups' = [(.t H.length, .map (es ++ [en i]))]) := by
              rw [hox']
              simp only [opSem, W0]
              rw [hmD, ← hslot x (by rw [hox']; simp [Op.operands]), ← hslot y (by rw [hox']; simp [Op.operands])]
              refine hre _ es (upd_same _ _ _) fun z hz => ?_
              have hz := hp.mem_iff.1 hz
              obtain ⟨k, hk, rfl⟩ := List.mem_map.1 hz
              obtain ⟨hk1, hk2, hk3⟩ := insD_mem.1 hk
              exact ⟨(hen k hk1 hk3).2.1, apart2 k i (fun e => by rw [e, hDi] at hk2; cases hk2) hk1 hlt hk3 hI⟩
            refine Oper.wp_mono ?_ (op_ok (E := E) (n := n) (wr := fun _ => false) (W := W0 _) (LK := LK0 _) (base := base i) hΓ (fun x K h => h) (fun h K hk => hk) hstD (fun v' u' hvu x hx hge => ?_) o' hdn Q hsem')
            · intro a' w' hafter
              obtain ⟨v', u', ⟨rfl, rfl⟩, hst'⟩ := hafter
              refine next a' w' (es ++ [en i]) ?_ (fun h => by rw [h00, hD0] at h; cases h) ?_
              · refine (hp.append_right _).trans ?_
                refine List.Perm.symm ?_
                have := (insD_add hDi hI ops.size hlt).map en
                rw [List.map_append] at this
                exact this
              · rw [h00, hD0, cond_true, hv]
                rw [upd2] at hst'
                exact hst'
            · obtain ⟨_, rfl⟩ := hvu
              obtain rfl : x = (.t H.length, .map (es ++ [en i])) := by simpa using hx
              have := hmono i (by omega) 1 (by omega)
              have hge : base i ≤ H.length := hge
              omega
          | false =>
            have hIo : isIns o.op = false := by rw [← isI_of ho]; exact hI
            obtain ⟨hq, hlk, hu⟩ : quiet0 o.op = true ∧ looks o.op = false ∧ ups i = [] := by
              rcases (hop i o ho).2 with h | ⟨_, _, _, h, _⟩ | h
              · exact (hi0 h).elim
              · rw [h] at hIo; cases hIo
              · exact h.2
            have hsem' := opSem_congr (L' := bif D 0 then upd (look H) (.t H.length) (.map es) else look H) hLKi hq hslot (fun h => by rw [hlk] at h; cases h) hsem
            refine Oper.wp_mono ?_ (op_ok (E := E) (n := n) (wr := fun _ => false) (W := W0 _) (LK := LK0 _) (base := base i) hΓ (fun x K h => h) (fun h K hk => hk) hstD (fun v' u' hvu x hx hge => ?_) o hdn Q hsem')
            · intro a' w' hafter
              obtain ⟨v', u', ⟨rfl, rfl⟩, hst'⟩ := hafter
              rw [hu] at hst'
              refine next a' w' es ?_ (fun h => hes0 (by rw [← h00]; exact h)) ?_
              · rw [insD_congr (D' := D) fun k hk hkI => by
                  have : k ≠ i := fun e => by rw [e, hI] at hkI; cases hkI
                  simp [addD]; omega]
                exact hp
              · rw [h00]; exact hst'
            · obtain ⟨_, rfl⟩ := hvu
              rw [hu] at hx; simp at hx
  refine key ops.size _ a w (by simp) (fun j o hj => ?_) ?_ ?_
  · simp [Array.getD_eq_getD_getElem?, Array.getElem?_replicate] at hj
    split at hj <;> simp at hj
  · exact Nat.le_trans (List.length_filter_le _ _) (by simp)
  · have e : (fun j => (Array.replicate ops.size false).getD j false) = fun _ => false := by
      funext j
      simp [Array.getD_eq_getD_getElem?, Array.getElem?_replicate]
      split <;> rfl
    have z : ∀ {σ : Type} (app : σ → Nat → σ) (x : σ) (m : Nat), foldD app (fun _ => false) x m = x := by
      intro σ app x m
      induction m with
      | zero => rfl
      | succ m ih => exact ih
    rw [e]
    refine ⟨[], ?_, fun _ => rfl, ?_⟩
    · rw [show insD ops (fun _ => false) ops.size = [] from List.filter_eq_nil_iff.2 fun k _ => by simp]; exact List.Perm.refl _
    · rw [z]; exact hst
theorem litX_ok (hΓ : GOK P Γ) (ops : Array Oper) (hfit : opsFit n ops.toList = true) (Q : Exit → Act → World → Prop) (K : Sl → Hp → Prop) (hQ : ∀ s H a w, K s H → St E n (getS s) (look H) a w → Q .normal a w)
    (s : Sl) (H : Hp) (a : Act) (w : World) (v : Nat → AV) (ups : Nat → Ups) (base : Nat → Nat) (run : Nat → Bool)
    (hstp : ∀ k o, ops.toList[k]? = some o → Stp P Γ ops o (foldD (appS (fun k => (ops.toList[k]?).bind (·.dst)) v) allD (getS s) k) (foldD (appU ups) allD (look H) k) (base k) (base (k + 1)) (v k) (ups k) (run k))
    (s' : Sl) (H' : Hp) (acc : Acc) (hlen : acc.length = ops.toList.length) (hlit : litOK ops acc = true) (hK : litK ops acc H' fun H => K s' H) (hacc : ∀ k o, ops.toList[k]? = some o → ∃ rd, acc[k]? = some (rd, (ups k).map fun x => x.1.key))
    (e1 : getS s' = foldD (appS (fun k => (ops.toList[k]?).bind (·.dst)) v) allD (getS s) ops.toList.length) (e2 : look H' = foldD (appU ups) allD (look H) ops.toList.length) (hb0 : base 0 = H.length)
    (hst : St E n (getS s) (look H) a w) : wpAny P .any ops Q ops.size (Array.replicate ops.size false) a w := by
  unfold litOK at hlit
  rw [Bool.and_eq_true, Bool.and_eq_true] at hlit
  obtain ⟨hox, _, hlit⟩ := hlit
  unfold litK at hK
  cases hops : ops.toList with
  | nil => rw [hops] at hlit; cases hlit
  | cons o os =>
  rw [hops] at hlit
  cases acc with
  | nil => cases hlit
  | cons ac bs =>
  obtain ⟨rd, kb⟩ := ac
  cases kb with
  | nil => cases hlit
  | cons b kb =>
  cases kb with
  | cons c kb => cases hlit
  | nil =>
    simp only [Bool.and_eq_true] at hlit
    obtain ⟨hg0, hlit⟩ := hlit
    split at hlit
    · rename_i t0 hm0
      have ho0 : ops[0]? = some o := by
        have : ops.toList[0]? = some o := by rw [hops]; rfl
        simpa using this
      -- the first one's block
      have hU0 : ups 0 = [(.t H.length, .map [])] := by
        have hs0 := hstp 0 o (by rw [hops]; rfl)
        have hr : run 0 = true := by
          have := hs0.guard
          rw [Option.isNone_iff_eq_none.1 hg0] at this
          exact this
        obtain ⟨LKi, _, hsem⟩ := (hs0.ran hr).1
        rw [hm0, hb0] at hsem
        simp only [opSem] at hsem
        obtain ⟨_, _, _, _, hsem, _⟩ := mapK_ex hsem
        exact hsem.2.symm
      have hb : b = H.length := by
        obtain ⟨rd', h1⟩ := hacc 0 o (by rw [hops]; rfl)
        rw [hU0] at h1
        show b = (Hd.t H.length).key
        simpa using (congrArg (fun x => x.map Prod.snd) h1)
      subst hb
      simp only at hK
      have hK := lookN_ok H' _ _ hK
      obtain ⟨esf, hB, hn, hk⟩ := hK
      refine lit_core hΓ ops hfit hox Q s H a w v ups base run hstp s' H' e1 e2 hb0 t0 ⟨o, ho0, hm0⟩ (fun k o' ho' => ?_) esf (by show (H'.getD _ .free).top = _; rw [hB]; rfl) hn (fun es' hp a w hst => ?_) hst
      · have ho'' : ops.toList[k]? = some o' := by simpa using ho'
        cases k with
        | zero =>
          rw [ho0] at ho'; cases ho'
          exact ⟨Option.isNone_iff_eq_none.1 hg0, .inl rfl⟩
        | succ k =>
          obtain ⟨rd', h1⟩ := hacc (k + 1) o' ho''
          rw [hops] at ho''
          have h2 : (o', (rd', (ups (k + 1)).map fun x => x.1.key)) ∈ os.zip bs := by
            refine List.mem_iff_getElem?.2 ⟨k, ?_⟩
            rw [List.getElem?_zip_eq_some]
            exact ⟨by simpa using ho'', by simpa using h1⟩
          have := List.all_eq_true.1 hlit _ h2
          simp only [litOp, Bool.and_eq_true] at this
          obtain ⟨hg, hop⟩ := this
          refine ⟨Option.isNone_iff_eq_none.1 hg, .inr ?_⟩
          split at hop
          · rename_i t m x y hop'
            simp only [Bool.and_eq_true] at hop
            obtain ⟨ht, hd, hkk⟩ := hop
            have ht := Nat.eq_of_beq_eq_true ht
            subst ht
            refine .inl ⟨m, x, y, hop', ?_, Option.isNone_iff_eq_none.1 hd⟩
            split at hkk
            · rename_i c hc
              rw [hc, Nat.eq_of_beq_eq_true hkk]
            · cases hkk
          all_goals first
            | cases hop
            | (rename_i hop'
               have : ups (k + 1) = [] := by simpa using hop
               exact .inr ⟨by rw [hop']; rfl, by rw [hop']; rfl, by rw [hop']; rfl, this⟩)
      · have h1 := hk es' hp
        obtain ⟨H2, h2, h3⟩ := upsK_ok h1
        refine hQ s' H2 a w h2 ?_
        rw [h3]
        exact hst
    · cases hlit
theorem drawX_ok (hΓ : GOK P Γ) (ops : Array Oper) (hfit : opsFit n ops.toList = true) (hok : drawOKX ops = true) (Q : Exit → Act → World → Prop) (K : Sl → Hp → Prop) (hQ : ∀ s H a w, K s H → St E n (getS s) (look H) a w → Q .normal a w)
    (s : Sl) (H : Hp) (a : Act) (w : World) (hk : vcDrawX Γ P ops ops.toList (fun acc s H => SFin (dynOK ops acc) (K s H) (litOK ops acc) (litK ops acc H fun H => K s H)) [] s H) (hst : St E n (getS s) (look H) a w) : wpAny P .any ops Q ops.size (Array.replicate ops.size false) a w := by
  obtain ⟨v, ups, base, run, hstp, s', H', ⟨acc, hlen, hfin, hacc⟩, e1, e2, hb0⟩ := vcDrawX_trace ops ops.toList (fun acc s H => SFin (dynOK ops acc) (K s H) (litOK ops acc) (litK ops acc H fun H => K s H)) [] s H hk
  cases hfin with
  | mkL hlit hK =>
    rw [List.nil_append] at hlit hK
    exact litX_ok hΓ ops hfit Q K hQ s H a w v ups base run hstp s' H' acc hlen hlit hK (fun k o h => by obtain ⟨rd, h1, _⟩ := hacc k o h; exact ⟨rd, h1⟩) e1 e2 hb0 hst
  | mk hdy hK =>
    refine draw_core hΓ ops hfit (fun ho => drawOKX_dep hok ho) Q s H a w v ups base run hstp s' H' (fun a w h => hQ s' H' a w hK h) e1 e2 hb0 (fun {i j x y} hx hy hij => ?_) hst
    rw [List.nil_append] at hdy
    rcases drawOKX_pair hok hdy hx hy hij with ⟨h1, h2⟩ | h
    · refine .inl ⟨h1, ?_⟩
      rcases h2 with h2 | ⟨q1, q2, hd⟩
      · exact .inl h2
      · obtain ⟨rx, ax, mx⟩ := hacc i x (by simpa using hx)
        obtain ⟨ry, ay, my⟩ := hacc j y (by simpa using hy)
        have ex : acc.getD i ([], []) = (rx, (ups i).map fun x => x.1.key) := by simp [List.getD, ax]
        have ey : acc.getD j ([], []) = (ry, (ups j).map fun x => x.1.key) := by simp [List.getD, ay]
        rw [ex, ey] at hd
        simp only [disjB, Bool.and_eq_true, List.all_eq_true] at hd
        obtain ⟨d1, d2, d3⟩ := hd
        have ne : ∀ {g h : Nat}, (!(Nat.beq g h)) = true → g ≠ h := fun {g h} hb e => by subst e; simp at hb
        have mem : ∀ {u : Ups} {p : Hd × Blk}, p ∈ u → p.1.key ∈ u.map fun x => x.1.key := fun {u p} hp => List.mem_map.2 ⟨p, hp, rfl⟩
        refine .inr ⟨q1, q2, fun p hp q hq => ne (d1 _ (mem hp) _ (mem hq)), fun hr p hp h hm => ?_, fun hr q hq h hm => ?_⟩
        · exact ne (d2 _ (mem hp) _ (my hr _ hm))
        · exact ne (d3 _ (mem hq) _ (mx hr _ hm))
    · exact .inr h
end
end Go.Proofs.YtnilcfiemgmfdaaGreat

namespace Go.Proofs.YtnilcfiemgmfdaaGreat
open Go
set_option linter.unusedVariables false
set_option linter.unusedSimpArgs false
section
variable {P : Program} {Γ : Tab} {E : Env} {n : Nat} {wr : FuncId → Bool}
/-- One operation over an abstract state. -/
theorem op_step (hΓ : GOK P Γ) {s : Sl} {H : Hp} {a : Act} {w : World} (h : St E n (getS s) (look H) a w) (o : Oper) (hd : ∀ t, o.dst = some t → t < n) (K : Sl → Hp → Prop) (Q : Exit → Act → World → Prop)
    (hk : lenK' H 0 fun base => opSem Γ P wr (WK s) (lookK H) (look H) base o.op fun v ups => upsK ups H fun H' => K (putL o.dst v s) H') :
    o.wp P a w (fun a' w' => ∃ s' H', K s' H' ∧ St E n (getS s') (look H') a' w') Q := by
  have hk := lenK'_ok hk
  rw [Nat.zero_add] at hk
  have h1 := op_ok hΓ (fun x K => WK_ok s x K) (fun h K => lookK_ok H h K) h (fun v ups _ x _ hx => ⟨look_ge hx, fun k => look_ge hx⟩) o hd Q hk
  unfold Oper.wp at h1 ⊢
  -- the same with another continuation
  have mono : ∀ r : Result Next, o.upon P a (After E n (getS s) (look H) o.dst fun v ups => upsK ups H fun H' => K (putL o.dst v s) H') Q r → o.upon P a (fun a' w' => ∃ s' H', K s' H' ∧ St E n (getS s') (look H') a' w') Q r := by
    have go : ∀ a' w', After E n (getS s) (look H) o.dst (fun v ups => upsK ups H fun H' => K (putL o.dst v s) H') a' w' → ∃ s' H', K s' H' ∧ St E n (getS s') (look H') a' w' := by
      rintro a' w' ⟨v, ups, hk, hst⟩
      obtain ⟨H', hk, e⟩ := upsK_ok hk
      exact ⟨_, H', hk, by rw [getS_putL, e]; exact hst⟩
    intro r hr
    cases r with
    | halt x w' => cases x <;> first | exact hr | exact hr.elim
    | ok nx w' =>
      cases nx <;> first | exact go _ _ hr | exact hr.elim | skip
      case enter f args =>
        exact Calls.mono hr fun e w'' he => by
          cases e with
          | returned v => exact go _ _ he
          | panicked c => exact he
          | outgrown => exact he
      case row r args => exact Rows.mono hr fun v w'' he => go _ _ he
  exact mono _ h1
theorem put_undef {s : Sl} {H : Hp} {a : Act} {w : World} (h : St E n (getS s) (look H) a w) (d : Option Tmp) (hd : ∀ t, d = some t → t < n) : St E n (getS (putL d .undef s)) (look H) (a.put d Go.undef) w := by
  rw [getS_putL]
  cases d with
  | none => exact h
  | some t =>
    obtain ⟨F, β, h⟩ := h
    exact ⟨F, β, h.put (hd t rfl) .undef fun k hk => by simp only [AV.men] at hk⟩
theorem St.learn {s : Sl} {H : Hp} {a : Act} {w : World} (h : St E n (getS s) (look H) a w) {t : Nat} (b : Bool) (he : a.tmps.getD t Go.undef = .bool b) : St E n (getS ((t, .tf b) :: s)) (look H) a w := by
  obtain ⟨F, β, h⟩ := h
  refine ⟨F, β, { h with slots := fun k => ?_, ms := fun k j hj => ?_ }⟩
  · simp only [getS]
    cases e : Nat.beq t k with
    | false => exact h.slots k
    | true => have := Nat.eq_of_beq_eq_true e; subst this; rw [he]; exact .tf b
  · simp only [getS] at hj
    cases e : Nat.beq t k <;> rw [e] at hj
    · exact h.ms k j hj
    · simp only [cond_true, AV.men] at hj
theorem vcOps_ok (hΓ : GOK P Γ) (ops : Array Oper) (hfit : opsFit n ops.toList = true) (Q : Exit → Act → World → Prop) (K : Sl → Hp → Prop) (hQ : ∀ s H a w, K s H → St E n (getS s) (look H) a w → Q .normal a w) :
    ∀ (rest : List Oper) (i : Nat), ops.toList.drop i = rest → ∀ (s : Sl) (H : Hp) (a : Act) (w : World), vcOps Γ P wr ops rest K s H → St E n (getS s) (look H) a w → wpOps P ops Q (List.range' i rest.length) a w := by
  intro rest
  induction rest with
  | nil => intro i _ s H a w hk hst; exact hQ s H a w hk hst
  | cons o rest ih =>
    intro i hi s H a w hk hst
    have ho : ops[i]? = some o := by
      have := congrArg (fun l => l[0]?) hi
      simpa [List.getElem?_drop] using this
    have hrest : ops.toList.drop (i + 1) = rest := by
      have := congrArg (List.drop 1) hi
      rw [List.drop_drop] at this
      simpa using this
    have hmem : o ∈ ops.toList := by
      have : o ∈ ops.toList.drop i := by rw [hi]; simp
      exact List.mem_of_mem_drop this
    have hd : ∀ t, o.dst = some t → t < n := fun t ht => by
      have := List.all_eq_true.1 hfit o hmem
      rw [ht] at this
      simpa using this
    rw [List.length_cons, List.range'_succ]
    simp only [wpOps, ho]
    have run : ∀ s, St E n (getS s) (look H) a w → Region.wanted o (yielded ops a.tmps) = true → (lenK' H 0 fun base => opSem Γ P wr (WK s) (lookK H) (look H) base o.op fun v ups => upsK ups H fun H' => vcOps Γ P wr ops rest K (putL o.dst v s) H') →
        (if Region.wanted o (yielded ops a.tmps) = true then o.wp P a w (wpOps P ops Q (List.range' (i + 1) rest.length)) Q ∨ (o.asks P a w ∧ LetsOut Q) else wpOps P ops Q (List.range' (i + 1) rest.length) (a.put o.dst undef) w) := by
      intro s hst hw hk
      rw [if_pos hw]
      have h1 := op_step hΓ hst o hd _ Q hk
      refine .inl ?_
      unfold Oper.wp at h1 ⊢
      have go : ∀ a' w', (∃ s' H', vcOps Γ P wr ops rest K s' H' ∧ St E n (getS s') (look H') a' w') → wpOps P ops Q (List.range' (i + 1) rest.length) a' w' := fun a' w' ⟨s', H', h1, h2⟩ => ih (i + 1) hrest s' H' a' w' h1 h2
      generalize (execOp a.eval o).run P w = r at h1
      cases r with
      | halt x w' => cases x <;> first | exact h1 | exact h1.elim
      | ok nx w' =>
        cases nx <;> first | exact go _ _ h1 | exact h1.elim | skip
        case enter f args =>
          exact Calls.mono h1 fun e w'' he => by
            cases e with
            | returned v => exact go _ _ he
            | panicked c => exact he
            | outgrown => exact he
        case row r args => exact Rows.mono h1 fun v w'' he => go _ _ he
    have skip : ∀ s, St E n (getS s) (look H) a w → Region.wanted o (yielded ops a.tmps) = false → vcOps Γ P wr ops rest K (putL o.dst .undef s) H →
        (if Region.wanted o (yielded ops a.tmps) = true then o.wp P a w (wpOps P ops Q (List.range' (i + 1) rest.length)) Q ∨ (o.asks P a w ∧ LetsOut Q) else wpOps P ops Q (List.range' (i + 1) rest.length) (a.put o.dst undef) w) := by
      intro s hst hw hk
      rw [if_neg (by rw [hw]; exact Bool.false_ne_true)]
      exact ih (i + 1) hrest _ H _ w hk (put_undef hst o.dst hd)
    have hk : vcOpsStep Γ P wr ops o (vcOps Γ P wr ops rest) K s H := hk
    simp only [vcOpsStep] at hk
    split at hk
    · rename_i hg
      exact run s hst (by simp [Region.wanted, hg]) hk
    · rename_i j want hg
      split at hk
      · exact hk.elim
      · rename_i t ht
        have hk := getSK_ok hk
        obtain ⟨F, β, hst'⟩ := id hst
        have hv := hst'.slots t
        have hlt : t < a.tmps.size := by
          rw [hst'.len]
          cases hj : ops[j]? with
          | none => rw [hj] at ht; cases ht
          | some oj =>
            rw [hj] at ht
            have hm : oj ∈ ops.toList := by
              have := List.mem_of_getElem? (by simpa using hj : ops.toList[j]? = some oj); exact this
            have := List.all_eq_true.1 hfit oj hm
            have ht' : oj.dst = some t := ht
            rw [ht'] at this
            simpa using this
        have hget : a.tmps[t]? = some (a.tmps.getD t Go.undef) := by simp [Array.getD, hlt]
        have hy : ∀ x, a.tmps.getD t Go.undef = x → yielded ops a.tmps j = (match x with | .bool b => some b | _ => none) := by
          intro x e
          unfold yielded
          rw [ht]
          simp only [Option.bind_some, hget, e]
          cases x <;> rfl
        have hwant : ∀ b, a.tmps.getD t Go.undef = .bool b → Region.wanted o (yielded ops a.tmps) = (b == want) := fun b e => by
          simp only [Region.wanted, hg, hy _ e]
          cases b <;> cases want <;> rfl
        have both : ∀ (b : Bool) (s : Sl), St E n (getS s) (look H) a w → a.tmps.getD t Go.undef = .bool b → (bif b == want then (lenK' H 0 fun base => opSem Γ P wr (WK s) (lookK H) (look H) base o.op fun v ups => upsK ups H fun H' => vcOps Γ P wr ops rest K (putL o.dst v s) H') else vcOps Γ P wr ops rest K (putL o.dst .undef s) H) →
            (if Region.wanted o (yielded ops a.tmps) = true then o.wp P a w (wpOps P ops Q (List.range' (i + 1) rest.length)) Q ∨ (o.asks P a w ∧ LetsOut Q) else wpOps P ops Q (List.range' (i + 1) rest.length) (a.put o.dst undef) w) := by
          intro b s hst e hk
          cases hb : (b == want) with
          | true => rw [hb] at hk; exact run s hst (by rw [hwant b e, hb]) hk
          | false => rw [hb] at hk; exact skip s hst (by rw [hwant b e, hb]) hk
        split at hk
        · rename_i b e
          rw [e] at hv
          have he : a.tmps.getD t Go.undef = .bool b := by generalize a.tmps.getD t Go.undef = x at hv; cases hv; rfl
          exact both b s hst he hk
        · rename_i e
          rw [e] at hv
          have he : a.tmps.getD t Go.undef = .tuple #[] := by generalize a.tmps.getD t Go.undef = x at hv; cases hv; rfl
          refine skip s hst ?_ hk
          simp only [Region.wanted, hg, hy _ he]
          rfl
        · rename_i b e
          rw [e] at hv
          have he : a.tmps.getD t Go.undef = .bool b := by generalize a.tmps.getD t Go.undef = x at hv; cases hv with | p hv => cases hv; rfl
          obtain ⟨g1, g2⟩ := hk
          cases b with
          | true => exact both true _ (hst.learn true he) he (g1 rfl)
          | false => exact both false _ (hst.learn false he) he (g2 rfl)
        · exact hk.elim
theorem wp_loop_x {Q : Exit → Act → World → Prop} {a : Act} {w : World} {c : Code} {X : Type} (I : X → Act → World → Prop) (μ : X → Nat) (x0 : X) (h₀ : I x0 a w)
    (round : ∀ x a w, I x a w → c.wp P (Exit.then (fun a' w' => ∃ x', I x' a' w' ∧ μ x' < μ x) Q) a w) : (Code.loop c).wp P Q a w := by
  intro b k cs
  have key : ∀ n x a w, μ x = n → I x a w →
      ∃ e a' w', Q e a' w' ∧ Arrives P (lone (b.at a (.code c :: .inLoop c :: k)) cs w) b k cs e a' w' := by
    intro n
    induction n using Nat.strongRecOn with
    | _ n ih =>
      intro x a w hn hI
      obtain ⟨e, a₁, w₁, hq, harr⟩ := round x a w hI b (.inLoop c :: k) cs
      cases e with
      | normal =>
        obtain ⟨x', hI₁, hlt⟩ := hq
        obtain ⟨e₂, a₂, w₂, hq₂, harr₂⟩ := ih (μ x') (hn ▸ hlt) x' a₁ w₁ rfl hI₁
        exact ⟨e₂, a₂, w₂, hq₂, .of_steps (Steps.trans harr (.one step_inLoop)) harr₂⟩
      | exit id => exact ⟨_, a₁, w₁, hq, .pass (x := .inLoop c) rfl (fun _ _ => .inl (by simp)) harr⟩
      | goto l => exact ⟨_, a₁, w₁, hq, .pass (x := .inLoop c) rfl (fun _ _ => .inl (by simp)) harr⟩
      | ret => exact ⟨_, a₁, w₁, hq, .pass (x := .inLoop c) rfl (fun _ _ => .inl (by simp)) harr⟩
      | panic ch => exact ⟨_, a₁, w₁, hq, .pass (x := .inLoop c) rfl (fun _ _ => .inl (by simp)) harr⟩
      | outgrown => exact ⟨_, a₁, w₁, hq, .pass (x := .inLoop c) rfl (fun _ _ => .inl (by simp)) harr⟩
  obtain ⟨e, a', w', hq, harr⟩ := key _ x0 a w rfl h₀
  exact ⟨e, a', w', hq, .of_steps (.one step_loop) harr⟩
def ExR : Ex → Exit → Prop
  | .normal, .normal => True
  | .exit i, .exit j => i = j
  | .ret, .ret => True
  | _, _ => False
/-- What the code's ends must satisfy. -/
def Ends (E : Env) (n : Nat) (K : Ex → Sl → Hp → Prop) (e : Exit) (a : Act) (w : World) : Prop := ∃ e' s H, ExR e' e ∧ K e' s H ∧ St E n (getS s) (look H) a w
theorem vc_sound (hΓ : GOK P Γ) (hm : P.follows .mixedOrders = true) {nin : List (Option Nat)} (hIn : ∀ h, E.In h → InN nin h) : ∀ (c : Code) (K : Ex → Sl → Hp → Prop) (s : Sl) (H : Hp) (a : Act) (w : World), VC Γ P wr nin c K s H → fits n c = true → St E n (getS s) (look H) a w → c.wp P (Ends E n K) a w := by
  intro c
  induction c with
  | skip => intro K s H a w hk hf hst; exact wp_skip ⟨.normal, s, H, trivial, hk, hst⟩
  | region id ops draw =>
    intro K s H a w hk hf hst
    simp only [fits] at hf
    simp only [VC] at hk
    cases draw with
    | true =>
      refine wp_region_any hm ?_
      rcases hk with ⟨hok, hk⟩ | ⟨hok, hk⟩
      · exact draw_ok hΓ ops hf hok (Ends E n K) (fun s H => K .normal s H) (fun s H a w hk hst => ⟨.normal, s, H, trivial, hk, hst⟩) s H a _ hk hst.drawn
      · exact drawX_ok hΓ ops hf hok (Ends E n K) (fun s H => K .normal s H) (fun s H a w hk hst => ⟨.normal, s, H, trivial, hk, hst⟩) s H a _ hk hst.drawn
    | false =>
      refine wp_region ?_
      have := vcOps_ok hΓ ops hf (Ends E n K) (fun s H => K .normal s H) (fun s H a w hk hst => ⟨.normal, s, H, trivial, hk, hst⟩) ops.toList 0 (by simp) s H a w hk hst
      rw [List.range_eq_range']
      simpa using this
  | seq x y ihx ihy =>
    intro K s H a w hk hf hst
    simp only [fits, Bool.and_eq_true] at hf
    refine wp_seq (wp_mono (ihx _ s H a w hk hf.1 hst) fun e a w he => ?_)
    obtain ⟨e', s', H', h1, h2, h3⟩ := he
    cases e' with
    | normal => cases e <;> first | exact h1.elim | exact ihy K s' H' a w h2 hf.2 h3
    | exit i => cases e <;> first | exact h1.elim | exact ⟨.exit i, s', H', h1, h2, h3⟩
    | ret => cases e <;> first | exact h1.elim | exact ⟨.ret, s', H', h1, h2, h3⟩
  | cond c x y ihx ihy =>
    intro K s H a w hk hf hst
    simp only [fits, Bool.and_eq_true] at hf
    have hk := WK_ok s c _ hk
    obtain ⟨F, β, hst'⟩ := id hst
    have hv := hst'.ev c
    have learn : ∀ b, a.eval c = .bool b → St E n (getS (setTF c b s)) (look H) a w := by
      intro b e
      cases c with
      | tmp t => exact hst.learn b e
      | _ => exact hst
    split at hk
    · rename_i e
      rw [e] at hv
      have he : a.eval c = .bool true := by generalize a.eval c = x at hv; cases hv; rfl
      exact wp_cond_true he (ihx K s H a w hk hf.1 hst)
    · rename_i e
      rw [e] at hv
      have he : a.eval c = .bool false := by generalize a.eval c = x at hv; cases hv; rfl
      exact wp_cond_false he (ihy K s H a w hk hf.2 hst)
    · rename_i b e
      rw [e] at hv
      have he : a.eval c = .bool b := by generalize a.eval c = x at hv; cases hv with | p hv => cases hv; rfl
      obtain ⟨g1, g2⟩ := hk
      cases b with
      | true => exact wp_cond_true he (ihx K _ H a w (g1 rfl) hf.1 (learn true he))
      | false => exact wp_cond_false he (ihy K _ H a w (g2 rfl) hf.2 (learn false he))
    · exact hk.elim
  | block id x ih =>
    intro K s H a w hk hf hst
    simp only [fits] at hf
    refine wp_block (wp_mono (ih _ s H a w hk hf hst) fun e a w he => ?_)
    obtain ⟨e', s', H', h1, h2, h3⟩ := he
    cases e' with
    | normal => cases e <;> first | exact h1.elim | exact ⟨.normal, s', H', h1, h2, h3⟩
    | exit i =>
      cases e <;> first | exact h1.elim | skip
      rename_i j
      have : i = j := h1
      subst this
      simp only [Exit.inBlock]
      simp only [] at h2
      cases hb : Nat.beq i id with
      | true => rw [hb] at h2; rw [if_pos (Nat.eq_of_beq_eq_true hb)]; exact ⟨.normal, s', H', trivial, h2, h3⟩
      | false =>
        rw [hb] at h2
        rw [if_neg (by intro e; rw [e] at hb; simp at hb)]
        exact ⟨.exit i, s', H', rfl, h2, h3⟩
    | ret => cases e <;> first | exact h1.elim | exact ⟨.ret, s', H', h1, h2, h3⟩
  | loop x ih =>
    intro K s H a w hk hf hst
    simp only [fits] at hf
    obtain ⟨X, st, φ, μ, x0, hs0, s1, H1, th, h0, w0, hr⟩ := (show SLoop nin _ K s H from hk)
    have hst := hst.thaw th
    refine wp_loop_x (fun x a w => φ x ∧ St E n (getS (st x).1) (look (st x).2) a w) μ x0 ⟨h0, hst.weak hIn w0⟩ fun x a w hI => ?_
    refine wp_mono (ih _ _ _ a w (hr x hI.1) hf hI.2) fun e a w he => ?_
    obtain ⟨e', s', H', h1, h2, h3⟩ := he
    cases e' with
    | normal =>
      cases e <;> first | exact h1.elim | skip
      obtain ⟨x', hs', g1, g2, g3⟩ := h2
      exact ⟨x', ⟨g1, h3.weak hIn g3⟩, g2⟩
    | exit i => cases e <;> first | exact h1.elim | exact ⟨.exit i, s', H', h1, h2, h3⟩
    | ret => cases e <;> first | exact h1.elim | exact ⟨.ret, s', H', h1, h2, h3⟩
  | exit id => intro K s H a w hk hf hst; exact wp_exit ⟨.exit id, s, H, rfl, hk, hst⟩
  | ret => intro K s H a w hk hf hst; exact wp_ret ⟨.ret, s, H, trivial, hk, hst⟩
  | _ => intros; rename_i h _ _; exact h.elim
end
end Go.Proofs.YtnilcfiemgmfdaaGreat

namespace Go.Proofs.YtnilcfiemgmfdaaGreat
open Go
set_option linter.unusedVariables false
set_option linter.unusedSimpArgs false
/-- From the state at the end to what the caller sees: 'hs' are the blocks that are handed on, all others are read alone from now on. -/
inductive Conv (hs : List Nat) (H : Hp) : AV → AV → Prop where
  | p (v : PV) (h : Pers v) : Conv hs H (.p v) (.p v)
  | tf (b : Bool) : Conv hs H (.tf b) (.p (.bool b))
  | emp (W : Nat) : Conv hs H .emp (.p (.sl false W []))
  | frz {h : Hd} {W off len : Nat} {T : TypeId} {es es' : List PV} (hB : look H h = .vec T W es) (hn : h.key ∉ hs) (hl : off + len ≤ es.length) (hp : ∀ e ∈ es, ∀ c ∈ e.cells, Pers c) (he : (es.drop off).take len = es') : Conv hs H (.vec h W off len) (.p (.sl false W es'))
  | frzmap {h : Hd} {es es' : List (PV × PV)} (hB : look H h = .map es) (hn : h.key ∉ hs) (hq : es.Perm es') (hp : ∀ e ∈ es, Pers e.1 ∧ Pers e.2) : Conv hs H (.map h) (.p (.mp false es'))
  | frzR {h : Hd} {len : Nat} {T : TypeId} {cs : List AV} {ps : List PV} (hB : look H h = .rows T cs) (hn : h.key ∉ hs) (hlen : len = ps.length) (ho : ∀ d ∈ ps, d.one = true) (hl : cs.length = ps.length) (hc : ∀ (i : Nat) c d, cs[i]? = some c → ps[i]? = some d → Conv hs H c (.p d)) : Conv hs H (.vec h 1 0 len) (.p (.sl false 1 ps))
  | vec {i h W off len : Nat} (hi : hs[i]? = some h) : Conv hs H (.vec h W off len) (.vec i W off len)
  | vecr {i h k W off len : Nat} (hi : hs[i]? = some h) : Conv hs H (.vec (.r h k) W off len) (.vec (.r i k) W off len)
  | bptr {i h o : Nat} (hi : hs[i]? = some h) : Conv hs H (.bptr h o) (.bptr i o)
  | map {i h : Nat} (hi : hs[i]? = some h) : Conv hs H (.map h) (.map i)
  | agg {cs ds : List AV} (ho : ∀ d ∈ ds, d.one = true) (hl : cs.length = ds.length) (h : ∀ (i : Nat) c d, cs[i]? = some c → ds[i]? = some d → Conv hs H c d) : Conv hs H (.agg cs) (.agg ds)
  | aggp {cs : List AV} {ps : List PV} (ho : ∀ d ∈ ps, d.one = true) (hl : cs.length = ps.length) (h : ∀ (i : Nat) c d, cs[i]? = some c → ps[i]? = some d → Conv hs H c (.p d)) : Conv hs H (.agg cs) (.p (.agg ps))
  | tup {cs ds : List AV} (hl : cs.length = ds.length) (h : ∀ (i : Nat) c d, cs[i]? = some c → ds[i]? = some d → Conv hs H c d) : Conv hs H (.tup cs) (.tup ds)
inductive ConvB (hs : List Nat) (H : Hp) : Blk → Blk → Prop where
  | vec {T : TypeId} {W : Nat} {es : List PV} (hp : ∀ e ∈ es, ∀ c ∈ e.cells, Pers c) : ConvB hs H (.vec T W es) (.vec T W es)
  | map {es : List (PV × PV)} (hp : ∀ e ∈ es, Pers e.1 ∧ Pers e.2) : ConvB hs H (.map es) (.map es)
  | box {T : TypeId} {cs ds : List AV} (ho : ∀ d ∈ ds, d.one = true) (hl : cs.length = ds.length) (h : ∀ (i : Nat) c d, cs[i]? = some c → ds[i]? = some d → Conv hs H c d) : ConvB hs H (.box T cs) (.box T ds)
  | rows {T : TypeId} {cs ds : List AV} (ho : ∀ d ∈ ds, d.one = true) (hl : cs.length = ds.length) (h : ∀ (i : Nat) c d, cs[i]? = some c → ds[i]? = some d → Conv hs H c d) : ConvB hs H (.rows T cs) (.rows T ds)
  | pool {T : TypeId} {W : Nat} {rs : List (Option (List PV))} (hp : ∀ (k : Nat) es, rs[k]? = some (some es) → ∀ e ∈ es, ∀ c ∈ e.cells, Pers c) : ConvB hs H (.pool T W rs) (.pool T W rs)
inductive SRet (nin : Hp) (av : AV) (H : Hp) (r : AV) (Hout : Hp) : Prop
  | mk (hs : List Nat) (pre : hs.take nin.length = List.range nin.length) (nd : hs.Nodup) (hlen : hs.length = Hout.length) (hnin : nin.length ≤ hs.length) (hlv : ∀ h, (look nin h).live → (look H h).live) (hnf : ∀ h, look nin h ≠ .free → look H h ≠ .free)
      (hb : ∀ (i h : Nat) B, hs[i]? = some h → Hout[i]? = some B → ConvB hs H (H.getD h .free) B) (hv : Conv hs H av r) : SRet nin av H r Hout
section
variable {P : Program} {Γ : Tab} {E : Env} {n : Nat} {wr : FuncId → Bool}
/-- What is read alone from the end on. -/
def Frozen (F : Nat → Prop) (β : Hd → Option Nat × Nat) (hs : List Nat) (H : Hp) (b : Nat) : Prop := F b ∨ ∃ h : Hd, h.key ∉ hs ∧ (look H h).live ∧ (β h).1 = some b
/-- What is handed on, by the caller's handles. -/
def backH (hs : List Nat) : Hd → Hd
  | .t i => .t (hs.getD i 0)
  | .r i k => .r (hs.getD i 0) k
theorem backH_key (hs : List Nat) (i : Hd) : (backH hs i).key = hs.getD i.key 0 := by cases i <;> rfl
theorem PR.toF {w : World} {B F F' : Nat → Prop} {v : PV} {x : Value} (h : PR w (FBof B F) v x) (hp : Pers v) (hF : ∀ b, F b → F' b) : PR w (FBof noBor F') v x := by
  refine (PR.pers hp h).mono (fun m b hb => ?_) fun _ _ _ => rfl
  obtain ⟨rfl, hb⟩ := hb
  exact hF b hb
theorem Conv.ok {hs : List Nat} {s : Nat → AV} {H : Hp} {a : Act} {w : World} {F : Nat → Prop} {β : Hd → Option Nat × Nat} (hst : StI E n s (look H) a w F β) {c d : AV} (h : Conv hs H c d) :
    ∀ {v : Value}, VR w (FBof E.Bor F) β c v → VR w (FBof noBor (Frozen F β hs H)) (fun i => β (backH hs i)) d v := by
  have gd : ∀ {i h : Nat}, hs[i]? = some h → hs.getD i 0 = h := fun e => by simp [List.getD, e]
  have gt : ∀ {i h : Nat}, hs[i]? = some h → backH hs (.t i) = .t h := fun e => by simp only [backH, gd e]
  have gr : ∀ {i h k : Nat}, hs[i]? = some h → backH hs (.r i k) = .r h k := fun e => by simp only [backH, gd e]
  have up : ∀ {p : PV} {x : Value}, Pers p → PR w (FBof E.Bor F) p x → PR w (FBof noBor (Frozen F β hs H)) p x := fun hp h => h.toF hp fun b hb => .inl hb
  induction h with
  | p v hp => intro x hv; exact .p (up hp hv.pOf)
  | tf b => intro x hv; exact .p (up (.bool b) hv.tfOf)
  | emp W =>
    intro x hv
    cases hv with
    | empn => exact .p (.nil _ _ _)
    | emp ad => exact .p (.nil _ _ _)
  | @frz h W off len T es es' hB hn hl hp he =>
    intro x hv
    subst he
    have hlv : (look H h).live := by rw [hB]; trivial
    have hbk := hst.blks h
    rw [hB] at hbk
    obtain ⟨q1, q2, q3⟩ := hbk
    have hll : ((es.drop off).take len).length = len := by simp; omega
    rcases hv.vecInv with ⟨b, o, cc, hb', hcl, hcm, ho, rfl⟩ | ⟨ad, hb', hz, hz', rfl⟩
    · obtain ⟨arr, g1, g2, g3, g4⟩ : ∃ arr, (β h).1 = some b ∧ w.heap[b]? = some (.cells arr T (0, 0)) ∧ arr.size = (β h).2 * W ∧ ∀ (i : Nat) e (j : Nat) c v, es[i]? = some e → e.cells[j]? = some c → arr[i * W + j]? = some v → PR w (FBof E.Bor F) c v := by
        rcases q3 with q3 | ⟨b', arr, g1, g2, g3, g4⟩
        · rw [q3.1] at hb'; cases hb'
        · rw [g1] at hb'; cases hb'; exact ⟨arr, g1, g2, g3, g4⟩
      have get : ∀ (i : Nat) e, ((es.drop off).take len)[i]? = some e → i < len ∧ es[off + i]? = some e := fun i e he => by
        have hi : i < len := by have := (List.getElem?_eq_some_iff.1 he).1; rw [hll] at this; exact this
        rw [List.getElem?_take_of_lt hi, List.getElem?_drop] at he
        exact ⟨hi, he⟩
      have hin : ∀ i j, i < es.length → j < W → i * W + j < arr.size := fun i j hi hj => by
        rw [g3]
        have : (i + 1) * W ≤ (β h).2 * W := Nat.mul_le_mul_right _ (by omega)
        rw [Nat.add_mul] at this; omega
      have := PR.sl (w := w) (FB := FBof noBor (Frozen F β hs H)) false W ((es.drop off).take len) b o cc (fun i j => arr.getD ((off + i) * W + j) Go.undef) (by rw [hll]; omega) (fun _ => .inr ⟨h, hn, hlv, g1⟩)
        (fun e he => (q1 e (List.mem_of_mem_drop (List.mem_of_mem_take he))).1) (fun e he => (q1 e (List.mem_of_mem_drop (List.mem_of_mem_take he))).2) (fun i e j c e1 e2 => by
          obtain ⟨hi, he⟩ := get i e e1
          have hj : j < W := by rw [← (q1 e (List.mem_of_getElem? he)).1]; exact (List.getElem?_eq_some_iff.1 e2).1
          have := hin (off + i) j (by omega) hj
          rw [ho (by omega), show off * W + i * W + j = (off + i) * W + j by rw [Nat.add_mul]]
          simp only [World.cell?, g2]; simp [Array.getD, this]) (fun i e j c e1 e2 => by
          obtain ⟨hi, he⟩ := get i e e1
          have hj : j < W := by rw [← (q1 e (List.mem_of_getElem? he)).1]; exact (List.getElem?_eq_some_iff.1 e2).1
          have := hin (off + i) j (by omega) hj
          exact up (hp e (List.mem_of_getElem? he) c (List.mem_of_getElem? e2)) (g4 (off + i) e j c _ he e2 (by simp [Array.getD, this])))
      rw [hll] at this
      exact .p this
    · subst hz; subst hz'
      simp only [List.take_zero]
      exact .p (.nil _ _ _)
  | @frzmap h es es' hB hn hq hp =>
    intro x hv
    have hlv : (look H h).live := by rw [hB]; trivial
    have hbk := hst.blks h
    rw [hB] at hbk
    obtain ⟨b, en, clock, h1, h2, h3, h4, h5, h6⟩ := hbk
    cases hv with | map hb' =>
    rw [h1] at hb'; cases hb'
    exact .p (.mp false es' es hq b clock en (.inr ⟨h, hn, hlv, h1⟩) h2 h3 (fun i x e e1 e2 => up (hp x (List.mem_of_getElem? e1)).1 (h4 i x e e1 e2).1) (fun i x e e1 e2 => up (hp x (List.mem_of_getElem? e1)).2 (h4 i x e e1 e2).2) h5 h6)
  | @frzR h len T cs ps hB hn hlen hone hl _ ih =>
    intro x hv
    subst hlen
    have hlv : (look H h).live := by rw [hB]; trivial
    have hbk := hst.blks h
    rw [hB] at hbk
    obtain ⟨q1, q2, q3⟩ := hbk
    rcases hv.vecInv with ⟨b, o, cc, hb', hcl, hcm, ho, rfl⟩ | ⟨ad, hb', _, hz, rfl⟩
    · obtain ⟨arr, g1, g2, g3, g4⟩ : ∃ arr, (β h).1 = some b ∧ w.heap[b]? = some (.cells arr T (0, 0)) ∧ arr.size = (β h).2 ∧ ∀ (i : Nat) c v, cs[i]? = some c → arr[i]? = some v → VR w (FBof E.Bor F) β c v := by
        rcases q3 with q3 | ⟨b', arr, g1, g2, g3, g4⟩
        · rw [q3.1] at hb'; cases hb'
        · rw [g1] at hb'; cases hb'; exact ⟨arr, g1, g2, g3, g4⟩
      have cl : ∀ e ∈ ps, e.cells = [e] := fun e he => PV.cells_one (hone e he)
      have get : ∀ (i : Nat) (e : PV), ps[i]? = some e → i < arr.size ∧ i < cs.length := fun i e he => by
        have := (List.getElem?_eq_some_iff.1 he).1
        omega
      refine .p (PR.sl false 1 ps b o _ (fun i j => arr.getD i Go.undef) (by omega) (fun _ => .inr ⟨h, hn, hlv, g1⟩) (fun e he => by rw [cl e he]; rfl) (fun e he c hc => by rw [cl e he] at hc; cases List.mem_singleton.1 hc; exact hone _ he) (fun i e j c e1 e2 => ?_) (fun i e j c e1 e2 => ?_))
      · obtain ⟨hi, _⟩ := get i e e1
        rw [cl e (List.mem_of_getElem? e1)] at e2
        have hj : j = 0 := by have := (List.getElem?_eq_some_iff.1 e2).1; simpa using this
        subst hj
        have hi2 := (List.getElem?_eq_some_iff.1 e1).1
        rw [ho (by omega)]
        simp only [World.cell?, g2]; simp [Array.getD, hi]
      · obtain ⟨hi, hi'⟩ := get i e e1
        rw [cl e (List.mem_of_getElem? e1)] at e2
        have hj : j = 0 := by have := (List.getElem?_eq_some_iff.1 e2).1; simpa using this
        subst hj
        cases e2
        exact (ih i cs[i] e (List.getElem?_eq_getElem hi') e1 (g4 i _ _ (List.getElem?_eq_getElem hi') (by simp [Array.getD, hi]))).pOf
    · have hcs : ps = [] := List.length_eq_zero_iff.1 hz
      subst hcs
      exact .p (.nil _ _ _)
  | @vec i h W off len hi =>
    intro x hv
    rcases hv.vecInv with ⟨b, o, cc, hb', hcl, hcm, ho, rfl⟩ | ⟨ad, hb', hz, hz', rfl⟩
    · have := VR.vec (w := w) (FB := FBof noBor (Frozen F β hs H)) (β := fun i => β (backH hs i)) (h := i) (W := W) (off := off) (len := len) (b := b) (o := o) (c := cc) (by show (β (backH hs (.t i))).1 = _; rw [gt hi]; exact hb') hcl (by show _ ≤ (β (backH hs (.t i))).2; rw [gt hi]; exact hcm) ho
      exact this
    · subst hz; subst hz'
      exact .vecn ad (by show (β (backH hs (.t i))).1 = _; rw [gt hi]; exact hb')
  | @vecr i h k W off len hi =>
    intro x hv
    rcases hv.vecInv with ⟨b, o, cc, hb', hcl, hcm, ho, rfl⟩ | ⟨ad, hb', hz, hz', rfl⟩
    · have := VR.vec (w := w) (FB := FBof noBor (Frozen F β hs H)) (β := fun i => β (backH hs i)) (h := .r i k) (W := W) (off := off) (len := len) (b := b) (o := o) (c := cc) (by show (β (backH hs (.r i k))).1 = _; rw [gr hi]; exact hb') hcl (by show _ ≤ (β (backH hs (.r i k))).2; rw [gr hi]; exact hcm) ho
      exact this
    · subst hz; subst hz'
      exact .vecn ad (by show (β (backH hs (.r i k))).1 = _; rw [gr hi]; exact hb')
  | bptr hi => intro x hv; cases hv with | bptr hb => exact .bptr (by show (β (backH hs (.t _))).1 = _; rw [gt hi]; exact hb)
  | map hi => intro x hv; cases hv with | map hb => exact .map (by show (β (backH hs (.t _))).1 = _; rw [gt hi]; exact hb)
  | @agg cs ds ho hl _ ih =>
    intro x hv
    cases hv with | agg _ vs hone hl' hr =>
    refine .agg ds vs ho (by rw [hl', hl]) fun i d v e1 e2 => ?_
    have hi : i < cs.length := by rw [hl]; exact (List.getElem?_eq_some_iff.1 e1).1
    exact ih i cs[i] d (List.getElem?_eq_getElem hi) e1 (hr i _ v (List.getElem?_eq_getElem hi) e2)
  | @aggp cs ps ho hl _ ih =>
    intro x hv
    cases hv with | agg _ vs hone hl' hr =>
    refine .p (.agg ps vs ho (by rw [hl', hl]) fun i d v e1 e2 => ?_)
    have hi : i < cs.length := by rw [hl]; exact (List.getElem?_eq_some_iff.1 e1).1
    exact (ih i cs[i] d (List.getElem?_eq_getElem hi) e1 (hr i _ v (List.getElem?_eq_getElem hi) e2)).pOf
  | @tup cs ds hl _ ih =>
    intro x hv
    cases hv with | tup _ vs hl' hr =>
    refine .tup ds vs (by rw [hl', hl]) fun i d v e1 e2 => ?_
    have hi : i < cs.length := by rw [hl]; exact (List.getElem?_eq_some_iff.1 e1).1
    exact ih i cs[i] d (List.getElem?_eq_getElem hi) e1 (hr i _ v (List.getElem?_eq_getElem hi) e2)
theorem Conv.men {hs : List Nat} {H : Hp} {c d : AV} (h : Conv hs H c d) : ∀ k, d.men k → k.key < hs.length ∧ c.men (backH hs k) := by
  have gd : ∀ {i h : Nat}, hs[i]? = some h → hs.getD i 0 = h := fun e => by simp [List.getD, e]
  induction h with
  | vec hi => intro k hk; obtain rfl : _ = k := hk; exact ⟨(List.getElem?_eq_some_iff.1 hi).1, by simp only [backH, gd hi]; rfl⟩
  | vecr hi => intro k hk; obtain rfl : _ = k := hk; exact ⟨(List.getElem?_eq_some_iff.1 hi).1, by simp only [backH, gd hi]; rfl⟩
  | bptr hi => intro k hk; obtain rfl : _ = k := hk; exact ⟨(List.getElem?_eq_some_iff.1 hi).1, by simp only [backH, gd hi]; rfl⟩
  | map hi => intro k hk; obtain rfl : _ = k := hk; exact ⟨(List.getElem?_eq_some_iff.1 hi).1, by simp only [backH, gd hi]; rfl⟩
  | @agg cs ds _ hl _ ih =>
    intro k hk
    simp only [AV.men, AV.menL_iff] at hk ⊢
    obtain ⟨d, hd, hk⟩ := hk
    obtain ⟨i, hi⟩ := List.getElem?_of_mem hd
    have hi' : i < cs.length := by rw [hl]; exact (List.getElem?_eq_some_iff.1 hi).1
    have := ih i cs[i] d (List.getElem?_eq_getElem hi') hi k hk
    exact ⟨this.1, _, List.getElem_mem hi', this.2⟩
  | @tup cs ds hl _ ih =>
    intro k hk
    simp only [AV.men, AV.menL_iff] at hk ⊢
    obtain ⟨d, hd, hk⟩ := hk
    obtain ⟨i, hi⟩ := List.getElem?_of_mem hd
    have hi' : i < cs.length := by rw [hl]; exact (List.getElem?_eq_some_iff.1 hi).1
    have := ih i cs[i] d (List.getElem?_eq_getElem hi') hi k hk
    exact ⟨this.1, _, List.getElem_mem hi', this.2⟩
  | _ => intro k hk; simp only [AV.men] at hk
/-- A block that is handed on, as it lies. -/
theorem ConvB.ok {hs : List Nat} {s : Nat → AV} {H : Hp} {a : Act} {w : World} {F : Nat → Prop} {β : Hd → Option Nat × Nat} (hst : StI E n s (look H) a w F β) {i h : Nat} {B : Blk} (hi : hs[i]? = some h) (hc : ConvB hs H (H.getD h .free) B) :
    (Own w (FBof noBor (Frozen F β hs H)) (fun i => β (backH hs i)) i B.top ∧ (∀ k, B.top.men k → k.key < hs.length ∧ (look H (.t h)).men (backH hs k)) ∧ (B.top.live → (look H (.t h)).live) ∧ B ≠ .free ∧ look H (.t h) ≠ .free) ∧
      ∀ k, Own w (FBof noBor (Frozen F β hs H)) (fun i => β (backH hs i)) (.r i k) (B.row k) ∧ B.row k = look H (.r h k) := by
  have gd : hs.getD i 0 = h := by simp [List.getD, hi]
  have gt : backH hs (.t i) = .t h := by simp only [backH, gd]
  have gr : ∀ k, backH hs (.r i k) = .r h k := fun k => by simp only [backH, gd]
  have up : ∀ {p : PV} {x : Value}, Pers p → PR w (FBof E.Bor F) p x → PR w (FBof noBor (Frozen F β hs H)) p x := fun hp h => h.toF hp fun b hb => .inl hb
  have hbt := hst.blks (.t h)
  have hbr := fun k => hst.blks (.r h k)
  simp only [look] at hbt hbr ⊢
  generalize hL : H.getD h .free = L at hc hbt hbr
  cases hc with
  | @vec T W es hp =>
    refine ⟨⟨?_, fun k hk => hk.elim, id, (fun e => by cases e), (fun e => by cases e)⟩, fun k => ⟨trivial, rfl⟩⟩
    obtain ⟨q1, q2, q3⟩ := hbt
    refine ⟨q1, by show _ ≤ (β (backH hs (.t i))).2; rw [gt]; exact q2, ?_⟩
    show ((β (backH hs (.t i))).1 = none ∧ (β (backH hs (.t i))).2 = 0) ∨ ∃ b arr, (β (backH hs (.t i))).1 = some b ∧ w.heap[b]? = some (.cells arr T (0, 0)) ∧ arr.size = (β (backH hs (.t i))).2 * W ∧ _
    rw [gt]
    rcases q3 with q3 | ⟨b, arr, g1, g2, g3, g4⟩
    · exact .inl q3
    · exact .inr ⟨b, arr, g1, g2, g3, fun q e j c v e1 e2 e3 => up (hp e (List.mem_of_getElem? e1) c (List.mem_of_getElem? e2)) (g4 q e j c v e1 e2 e3)⟩
  | @map es hp =>
    refine ⟨⟨?_, fun k hk => hk.elim, id, (fun e => by cases e), (fun e => by cases e)⟩, fun k => ⟨trivial, rfl⟩⟩
    obtain ⟨b, en, clock, h1, h2, h3, h4, h5, h6⟩ := hbt
    exact ⟨b, en, clock, by show (β (backH hs (.t i))).1 = _; rw [gt]; exact h1, h2, h3, fun q x e e1 e2 => ⟨up (hp x (List.mem_of_getElem? e1)).1 (h4 q x e e1 e2).1, up (hp x (List.mem_of_getElem? e1)).2 (h4 q x e e1 e2).2⟩, h5, h6⟩
  | @box T cs ds ho hl hc =>
    refine ⟨⟨?_, fun k hk => ?_, id, (fun e => by cases e), (fun e => by cases e)⟩, fun k => ⟨trivial, rfl⟩⟩
    · obtain ⟨h0, b, arr, h1, h2, h3, h4⟩ := hbt
      refine ⟨ho, b, arr, by show (β (backH hs (.t i))).1 = _; rw [gt]; exact h1, h2, by rw [h3, hl], fun q d v e1 e2 => ?_⟩
      have hq : q < cs.length := by rw [hl]; exact (List.getElem?_eq_some_iff.1 e1).1
      exact (hc q cs[q] d (List.getElem?_eq_getElem hq) e1).ok hst (h4 q _ v (List.getElem?_eq_getElem hq) e2)
    · have hk : AV.menL ds k := hk
      have := (Conv.agg ho hl hc).men k (by simp only [AV.men]; exact hk)
      refine ⟨this.1, ?_⟩
      have h2 := this.2
      simp only [AV.men] at h2
      exact h2
  | @rows T cs ds ho hl hc =>
    refine ⟨⟨?_, fun k hk => ?_, id, (fun e => by cases e), (fun e => by cases e)⟩, fun k => ⟨trivial, rfl⟩⟩
    · obtain ⟨h0, h1, h2⟩ := hbt
      refine ⟨ho, by show _ ≤ (β (backH hs (.t i))).2; rw [gt, ← hl]; exact h1, ?_⟩
      show ((β (backH hs (.t i))).1 = none ∧ (β (backH hs (.t i))).2 = 0) ∨ ∃ b arr, (β (backH hs (.t i))).1 = some b ∧ w.heap[b]? = some (.cells arr T (0, 0)) ∧ arr.size = (β (backH hs (.t i))).2 ∧ _
      rw [gt]
      rcases h2 with h2 | ⟨b, arr, g1, g2, g3, g4⟩
      · exact .inl h2
      · refine .inr ⟨b, arr, g1, g2, g3, fun q d v e1 e2 => ?_⟩
        have hq : q < cs.length := by rw [hl]; exact (List.getElem?_eq_some_iff.1 e1).1
        exact (hc q cs[q] d (List.getElem?_eq_getElem hq) e1).ok hst (g4 q _ v (List.getElem?_eq_getElem hq) e2)
    · have hk : AV.menL ds k := hk
      have := (Conv.agg ho hl hc).men k (by simp only [AV.men]; exact hk)
      refine ⟨this.1, ?_⟩
      have h2 := this.2
      simp only [AV.men] at h2
      exact h2
  | @pool T W rs hp =>
    refine ⟨⟨trivial, fun k hk => hk.elim, id, (fun e => by cases e), (fun e => by cases e)⟩, fun k => ⟨?_, rfl⟩⟩
    have hb := hbr k
    simp only [Blk.row] at hb ⊢
    cases hr : rs[k]? with
    | none => trivial
    | some o =>
      cases o with
      | none => trivial
      | some es =>
        rw [hr] at hb
        obtain ⟨q1, q2, q3⟩ := hb
        refine ⟨q1, by show _ ≤ (β (backH hs (.r i k))).2; rw [gr]; exact q2, ?_⟩
        show ((β (backH hs (.r i k))).1 = none ∧ (β (backH hs (.r i k))).2 = 0) ∨ ∃ b arr, (β (backH hs (.r i k))).1 = some b ∧ w.heap[b]? = some (.cells arr T (0, 0)) ∧ arr.size = (β (backH hs (.r i k))).2 * W ∧ _
        rw [gr]
        rcases q3 with q3 | ⟨b, arr, g1, g2, g3, g4⟩
        · exact .inl q3
        · exact .inr ⟨b, arr, g1, g2, g3, fun q e j c v e1 e2 e3 => up (hp k es hr e (List.mem_of_getElem? e1) c (List.mem_of_getElem? e2)) (g4 q e j c v e1 e2 e3)⟩
/-- The results, as they stand at the end. -/
def retsK (Γ : Tab) (P : Program) (wr : FuncId → Bool) : List ResultVar → Sl → Hp → (List AV → Prop) → Prop
  | [], _, _, K => K []
  | .tmp t :: rs, s, H, K => getSK s t fun v => retsK Γ P wr rs s H fun l => K (v :: l)
  | .cell a t :: rs, s, H, K => opSem Γ P wr (WK s) (lookK H) (look H) 0 (.load t (.tmp a)) fun v _ => retsK Γ P wr rs s H fun l => K (v :: l)
def oneOf : List AV → AV
  | [v] => v
  | l => .tup l
/-- What is asked at a function's end. -/
def RetP (Γ : Tab) (P : Program) (wr : FuncId → Bool) (rs : List ResultVar) (nin : Hp) (r : AV) (Hout : Hp) : Ex → Sl → Hp → Prop
  | .exit _, _, _ => False
  | _, s, H => retsK Γ P wr rs s H fun l => SRet nin (oneOf l) H r Hout
theorem rets_ok (hΓ : GOK P Γ) {s : Sl} {H : Hp} {a : Act} {w : World} {F : Nat → Prop} {β : Hd → Option Nat × Nat} (hst : StI E n (getS s) (look H) a w F β) : ∀ (rs : List ResultVar) (K : List AV → Prop), retsK Γ P wr rs s H K →
    ∃ l vs, K l ∧ vs.length = l.length ∧ (rs.mapM (m := Sem) fun | .tmp t => pure (a.tmps.getD t Go.undef) | .cell x t => do loadVar t (← asAddr (a.tmps.getD x Go.undef))).run P w = .ok vs w ∧ (∀ (i : Nat) c v, l[i]? = some c → vs[i]? = some v → VR w (FBof E.Bor F) β c v) ∧ ∀ c ∈ l, ∀ k, c.men k → look H k ≠ .free := by
  intro rs
  induction rs with
  | nil => intro K hk; exact ⟨[], [], hk, rfl, by simp, by simp, by simp⟩
  | cons x rs ih =>
    intro K hk
    have cons : ∀ {c : AV} {v : Value} {l : List AV} {vs : List Value}, VR w (FBof E.Bor F) β c v → (∀ (i : Nat) c v, l[i]? = some c → vs[i]? = some v → VR w (FBof E.Bor F) β c v) → ∀ (i : Nat) c' v', (c :: l)[i]? = some c' → (v :: vs)[i]? = some v' → VR w (FBof E.Bor F) β c' v' := by
      intro c v l vs h1 h2 i c' v' e1 e2
      cases i with
      | zero => simp at e1 e2; subst e1; subst e2; exact h1
      | succ i => exact h2 i c' v' (by simpa using e1) (by simpa using e2)
    cases x with
    | tmp t =>
      simp only [retsK] at hk
      obtain ⟨l, vs, hk, h1, h2, h3, h4⟩ := ih _ (getSK_ok hk)
      refine ⟨_, _ :: vs, hk, by simp [h1], ?_, cons (hst.slots t) h3, fun c hc k hk => by
        rcases List.mem_cons.1 hc with rfl | hc
        · exact hst.ms t k hk
        · exact h4 c hc k hk⟩
      rw [List.mapM_cons]
      refine (Sem.run_seq _ _ _ _ _ _ (show (pure (a.tmps.getD t Go.undef) : Sem Value).run P w = .ok _ w from rfl)).trans ?_
      exact (Sem.run_seq _ _ _ _ _ _ h2).trans rfl
    | cell x t =>
      simp only [retsK] at hk
      have hout := load_ok (wr := wr) (base := 0) hΓ (fun x K => WK_ok s x K) (fun h K => lookK_ok H h K) hst (t := t) (x := .tmp x) hk
      have hev : a.eval (.tmp x) = a.tmps.getD x Go.undef := rfl
      rw [hev] at hout
      generalize hr : (Instr.loadAt t (a.tmps.getD x Go.undef)).run P w = r at hout
      cases hout with | @mk v y hk hv hm =>
      obtain ⟨l, vs, hk, h1, h2, h3, h4⟩ := ih _ hk
      refine ⟨_, y :: vs, hk, by simp [h1], ?_, cons hv h3, fun c hc k hck => by
        rcases List.mem_cons.1 hc with e | hc
        · subst e; exact hm k hck
        · exact h4 c hc k hck⟩
      have hr' : (do loadVar t (← asAddr (a.tmps.getD x Go.undef)) : Sem Value).run P w = .ok y w := by
        unfold Instr.loadAt at hr
        cases hx : a.tmps.getD x Go.undef with
        | pointer ad =>
          cases ad with
          | none => rw [hx] at hr; simp [Instr.sureAddr] at hr
          | some ad => rw [hx] at hr; simpa [Instr.sureAddr, asAddr] using hr
        | _ => rw [hx] at hr; simp [Instr.sureAddr] at hr
      rw [List.mapM_cons]
      refine (Sem.run_seq _ _ _ _ _ _ hr').trans ?_
      exact (Sem.run_seq _ _ _ _ _ _ h2).trans rfl
theorem ret_ok (hΓ : GOK P Γ) {fn : Func} {s : Sl} {H : Hp} {a : Act} {w : World} {F : Nat → Prop} {β : Hd → Option Nat × Nat} (hst : StI E n (getS s) (look H) a w F β) (K : List AV → Prop) (hk : retsK Γ P wr fn.results.toList s H K) :
    ∃ l v, K l ∧ (results fn a.tmps).run P w = .ok v w ∧ VR w (FBof E.Bor F) β (oneOf l) v ∧ ∀ k, (oneOf l).men k → look H k ≠ .free := by
  obtain ⟨l, vs, hk, h1, h2, h3, h4⟩ := rets_ok hΓ hst fn.results.toList K hk
  have men : ∀ l v, (oneOf l).men v → ∃ c ∈ l, c.men v := by
    intro l v hv
    match l, hv with
    | [c], hv => exact ⟨c, by simp, hv⟩
    | [], hv => simp only [oneOf, AV.men, AV.menL] at hv
    | c :: d :: l, hv => simp only [oneOf, AV.men] at hv; exact AV.menL_iff.1 hv
  refine ⟨l, if h : vs.length = 1 then vs[0] else .tuple vs.toArray, hk, ?_, ?_, fun k hk => by obtain ⟨c, hc, hm⟩ := men l k hk; exact h4 c hc k hm⟩
  · unfold results
    rw [Array.mapM_eq_mapM_toList]
    have : (List.toArray <$> fn.results.toList.mapM (m := Sem) (fun | .tmp t => pure (a.tmps.getD t Go.undef) | .cell x t => do loadVar t (← asAddr (a.tmps.getD x Go.undef)))).run P w = .ok vs.toArray w := by
      rw [map_eq_pure_bind, Sem.run_seq _ _ _ _ _ _ h2]; rfl
    refine (Sem.run_seq _ _ _ _ _ _ this).trans ?_
    simp
  · split
    · rename_i h
      obtain ⟨c, rfl⟩ := List.length_eq_one_iff.1 (by rw [← h1]; exact h)
      exact h3 0 c _ rfl (by simp)
    · rename_i h
      have : oneOf l = .tup l := by
        match l, h1 with
        | [], _ => rfl
        | [c], h1 => exact (h h1).elim
        | _ :: _ :: _, _ => rfl
      rw [this]
      exact .tup l _ (by simpa using h1) fun i c v e1 e2 => h3 i c v e1 (by simpa using e2)
def argsS : Nat → List AV → Sl
  | _, [] => []
  | i, c :: cs => (i, c) :: argsS (i + 1) cs
theorem argsS_get : ∀ (cs : List AV) (i t : Nat), getS (argsS i cs) t = if i ≤ t then cs.getD (t - i) .any else .any := by
  intro cs
  induction cs with
  | nil => intro i t; simp [argsS, getS]
  | cons c cs ih =>
    intro i t
    simp only [argsS, getS, ih]
    by_cases e : i = t
    · subst e; simp
    · have hb : Nat.beq i t = false := by
        cases h : Nat.beq i t with
        | false => rfl
        | true => exact (e (Nat.eq_of_beq_eq_true h)).elim
      rw [hb]
      simp only [cond_false]
      by_cases h : i ≤ t
      · rw [if_pos h, if_pos (by omega)]
        rw [show t - i = (t - (i + 1)) + 1 by omega]
        simp
      · rw [if_neg h, if_neg (by omega)]
theorem callG_of_vc (hΓ : GOK P Γ) (hmix : P.follows .mixedOrders = true) {f : FuncId} {fn : Func} {c : Code} {args : List AV} {Hin : Hp} {r : AV} {Hout : Hp} (hf : P.funcs[f]? = some fn) (hname : (fn.name == "runtime.NumGoroutine") = false) (hb : fn.body = some c)
    (hfit : fits fn.ntmps c = true) (hn : args.length ≤ fn.ntmps) (hlive : ∀ B ∈ Hin, B ≠ .free)
    (h : VC Γ P wr (Hin.map Blk.plen) c (RetP Γ P wr fn.results.toList Hin r Hout) (argsS 0 args) Hin) : CallG P f args Hin r Hout := by
  refine ⟨⟨fn, hf, hname, by rw [hb]; rfl⟩, fun w F Bor β vs hargs => ?_⟩
  let E : Env := { w0 := w, Keep := fun b => b < w.heap.size ∧ ∀ h, (look Hin h).live → (β h).1 ≠ some b, Bor := Bor, F0 := F, In := fun h => look Hin h ≠ .free, β0 := β }
  have hIn : ∀ h, E.In h → InN (Hin.map Blk.plen) h := fun h hh => by
    cases h with
    | t i => have := look_lt hh; simpa [InN, Hd.key] using this
    | r i k =>
      have hi : i < Hin.length := look_lt hh
      have hk := look_row_lt hh
      have e : Hin.getD i .free = Hin[i] := by simp [List.getD, List.getElem?_eq_getElem hi]
      unfold plenAt at hk
      rw [e] at hk
      refine ⟨_, ?_, hk⟩
      rw [List.getElem?_map, List.getElem?_eq_getElem hi]
      revert hk
      cases Hin[i] <;> intro hk <;> first | (exact absurd hk (Nat.not_lt_zero _)) | rfl
  have hst : StI E fn.ntmps (getS (argsS 0 args)) (look Hin) { tmps := vs.toArray ++ Array.replicate (fn.ntmps - vs.toArray.size) Go.undef, defers := [] } w F β := {
    os := rfl, tape := rfl, output := rfl, size := Nat.le_refl _
    keep := fun _ _ => rfl
    keeplt := fun b hb => hb.1
    bor := fun b hb => ⟨hargs.blt b hb, fun h h1 h2 => (hargs.own h b h1 h2).2.1 hb⟩
    flt := hargs.flt
    fold := fun b hb _ => hb
    own := fun h b h1 h2 => ⟨(hargs.own h b h1 h2).1, fun hk => hk.2 h h1 h2, (hargs.own h b h1 h2).2.2⟩
    dis := hargs.dis
    len := by simp [hargs.len]; omega
    slots := fun t => by
      rw [argsS_get]
      simp only [Nat.zero_le, if_true, Nat.sub_zero]
      by_cases ht : t < args.length
      · have e1 : args[t]? = some args[t] := List.getElem?_eq_getElem ht
        have ht' : t < vs.length := by rw [hargs.len]; exact ht
        have e2 : vs[t]? = some vs[t] := List.getElem?_eq_getElem ht'
        have : (vs.toArray ++ Array.replicate (fn.ntmps - vs.toArray.size) Go.undef).getD t Go.undef = vs[t] := by
          simp [Array.getD, ht', show t < vs.length + (fn.ntmps - vs.length) by omega, Array.getElem_append]
        rw [this]
        have : args.getD t .any = args[t] := by simp [List.getD, e1]
        rw [this]
        exact hargs.rel t _ _ e1 e2
      · rw [getD_ge _ _ (by omega)]; exact .any _
    blks := hargs.blks
    ms := fun t k hk => by
      rw [argsS_get] at hk
      simp only [Nat.zero_le, if_true, Nat.sub_zero] at hk
      by_cases ht : t < args.length
      · have : args.getD t .any = args[t] := by simp [List.getD, List.getElem?_eq_getElem ht]
        rw [this] at hk
        exact hargs.ma _ (List.getElem_mem ht) k hk
      · rw [getD_ge _ _ (by omega)] at hk; simp only [AV.men] at hk
    mb := hargs.mb
    defers := rfl
    bin := fun i hi => ⟨rfl, hi⟩
    fs0 := fun b hb => hb }
  have hwp := vc_sound hΓ hmix (E := E) hIn c _ _ _ _ w h hfit ⟨F, β, hst⟩
  refine calls_of_wp hf hb (wp_mono hwp fun e a' w' he => ?_)
  obtain ⟨e', s', H', h1, h2, F1, β1, hst'⟩ := he
  -- the end
  have fin : retsK Γ P wr fn.results.toList s' H' (fun l => SRet Hin (oneOf l) H' r Hout) → a'.defers = [] ∧ ∃ v, (results fn a'.tmps).run P w' = .ok v w' ∧ ∃ v' F' β', Ending.returned v = .returned v' ∧ RetSt w F β Hin r Hout v' w' F' β' := by
    intro h2
    obtain ⟨l, v, h3, hr, hv, hmen⟩ := ret_ok hΓ hst' _ h2
    obtain ⟨hs, pre, nd, hlen, hnin, hlv, hnf, hB, hconv⟩ := h3
    have hpre : ∀ i, i < Hin.length → hs[i]? = some i := fun i hi => by
      have hp : (hs.take Hin.length)[i]? = some i := by rw [pre, List.getElem?_range hi]
      rwa [List.getElem?_take_of_lt hi] at hp
    have hgd : ∀ i, i < hs.length → hs[i]? = some (hs.getD i 0) := fun i hi => by simp [List.getD, List.getElem?_eq_getElem hi]
    have hback : ∀ h : Hd, h.key < Hin.length → backH hs h = h := fun h hh => by
      have e : hs.getD h.key 0 = h.key := by simp [List.getD, hpre h.key hh]
      cases h with
      | t i => simp only [Hd.key] at e; simp only [backH, e]
      | r i k => simp only [Hd.key] at e; simp only [backH, e]
    have notkeep : ∀ b, b < w.heap.size → ¬ E.Keep b → ∃ h, (look Hin h).live ∧ (β h).1 = some b := fun b h1 h2 => by
      apply Classical.byContradiction
      intro hc
      exact h2 ⟨h1, fun h h3 h4 => hc ⟨h, h3, h4⟩⟩
    have hout : ∀ i : Hd, look Hout i ≠ .free → i.key < hs.length := fun i hl => by rw [hlen]; exact look_lt hl
    have hblk : ∀ i : Hd, i.key < hs.length → Own w' (FBof noBor (Frozen F1 β1 hs H')) (fun i => β1 (backH hs i)) i (look Hout i) ∧ (∀ k, (look Hout i).men k → k.key < hs.length ∧ (look H' (backH hs i)).men (backH hs k)) ∧ ((look Hout i).live → (look H' (backH hs i)).live) ∧ (look H' (backH hs i) ≠ .free → look Hout i ≠ .free) := fun i hi => by
      have hi' : i.key < Hout.length := by omega
      have e : Hout.getD i.key .free = Hout[i.key] := by simp [List.getD, List.getElem?_eq_getElem hi']
      have := (hB i.key _ _ (hgd i.key hi) (List.getElem?_eq_getElem hi')).ok hst' (hgd i.key hi)
      obtain ⟨⟨t1, t2, t3, t4, t5⟩, hr⟩ := this
      cases i with
      | t i =>
        simp only [Hd.key] at e t1 t2 t3 t4 t5
        have el : look Hout (.t i) = (Hout[i]'hi').top := by simp only [look, e]; rfl
        rw [el]
        exact ⟨t1, t2, t3, fun _ => Blk.top_free t4⟩
      | r i k =>
        simp only [Hd.key] at e hr
        have el : look Hout (.r i k) = (Hout[i]'hi').row k := by simp only [look, e]; rfl
        rw [el]
        obtain ⟨r1, r2⟩ := hr k
        have r2' : (Hout[i]'hi').row k = look H' (.r (hs.getD i 0) k) := r2
        exact ⟨r1, fun j hj => (Blk.row_nomen _ _ _ hj).elim, fun hl => (show (look H' (.r (hs.getD i 0) k)).live from r2' ▸ hl), fun hne => r2' ▸ hne⟩
    refine ⟨hst'.defers, v, hr, v, Frozen F1 β1 hs H', fun i => β1 (backH hs i), rfl, ?_⟩
    have nfout : ∀ k : Hd, k.key < hs.length → look H' (backH hs k) ≠ .free → look Hout k ≠ .free := fun k hk => (hblk k hk).2.2.2
    exact {
      os := hst'.os, tape := hst'.tape, output := hst'.output, size := hst'.size
      same := fun b h1 h2 => hst'.keep b ⟨h1, h2⟩
      flt := fun b hb => by
        rcases hb with hb | ⟨h, _, h2, h3⟩
        · exact hst'.flt b hb
        · exact (hst'.own h b h2 h3).2.2
      fold := fun b hb hlt => by
        rcases hb with hb | ⟨h, h1, h2, h3⟩
        · exact hst'.fold b hb hlt
        · exfalso
          obtain ⟨h0, g1, g2⟩ := notkeep b hlt (hst'.own h b h2 h3).2.1
          have hi := look_lt (Blk.live_ne g1)
          have hb0 : β1 h0 = β h0 := (hst'.bin h0 (Blk.live_ne g1)).1
          have : h = h0 := hst'.dis h h0 b h2 (hlv h0 g1) h3 (by rw [hb0]; exact g2)
          subst this
          exact h1 (List.mem_of_getElem? (hpre h.key hi))
      fsub := fun b hb => .inl (hst'.fs0 b hb)
      bsame := fun h hl => by
        show β1 (backH hs h) = β h
        rw [hback h (look_lt hl)]; exact (hst'.bin h hl).1
      rel := hconv.ok hst' hv
      blks := fun i => by
        rcases Nat.lt_or_ge i.key hs.length with hi | hi
        · exact (hblk i hi).1
        · rw [look_ge (by omega)]; trivial
      own := fun i b h1 h2 => by
        have hi := hout i (Blk.live_ne h1)
        have o := hst'.own _ b ((hblk i hi).2.2.1 h1) h2
        refine ⟨fun hb => ?_, o.2.2, fun hlt => notkeep b hlt o.2.1⟩
        rcases hb with hb | ⟨h, g1, g2, g3⟩
        · exact o.1 hb
        · have : h = backH hs i := hst'.dis _ _ b g2 ((hblk i hi).2.2.1 h1) g3 h2
          rw [this, backH_key] at g1
          exact g1 (List.mem_of_getElem? (hgd i.key hi))
      dis := fun i j b h1 h2 h3 h4 => by
        have hi := hout i (Blk.live_ne h1)
        have hj := hout j (Blk.live_ne h2)
        have := hst'.dis _ _ b ((hblk i hi).2.2.1 h1) ((hblk j hj).2.2.1 h2) h3 h4
        have inj : ∀ p q, p < hs.length → q < hs.length → hs.getD p 0 = hs.getD q 0 → p = q := fun p q hp hq e => by
          have e1 := hgd p hp
          rw [e] at e1
          exact (List.getElem?_inj hp nd).1 (e1.trans (hgd q hq).symm)
        cases i <;> cases j <;> simp only [backH, Hd.t.injEq, Hd.r.injEq, reduceCtorEq] at this
        · exact congrArg Hd.t (inj _ _ hi hj this)
        · exact (congrArg (fun q => Hd.r q _) (inj _ _ hi hj this.1)).trans (congrArg (Hd.r _) this.2)
      mr := fun k hk => by
        obtain ⟨hkl, hm⟩ := hconv.men k hk
        refine nfout k hkl ?_
        exact hmen _ hm
      mb := fun i k hk => by
        have hif : look Hout i ≠ .free := fun e => by rw [e] at hk; exact hk.elim
        obtain ⟨hkl, hm⟩ := (hblk i (hout i hif)).2.1 k hk
        exact nfout k hkl (hst'.mb _ _ hm)
      nf := fun h hh => by
        have hi := look_lt hh
        refine nfout h (by omega) ?_
        rw [hback h hi]; exact hnf h hh }
  cases e' with
  | normal => cases e <;> first | exact h1.elim | exact fin h2
  | ret => cases e <;> first | exact h1.elim | exact fin h2
  | exit i => exact h2.elim
/-- What is asked at the end of a function that may hand back what it was lent. -/
def RetPL (Γ : Tab) (P : Program) (wr : FuncId → Bool) (rs : List ResultVar) (r : PV) : Ex → Sl → Hp → Prop
  | .exit _, _, _ => False
  | _, s, H => retsK Γ P wr rs s H fun l => oneOf l = .p r
theorem callL_of_vc (hΓ : GOK P Γ) (hmix : P.follows .mixedOrders = true) {f : FuncId} {fn : Func} {c : Code} {args : List PV} {r : PV} (hf : P.funcs[f]? = some fn) (hname : (fn.name == "runtime.NumGoroutine") = false) (hb : fn.body = some c)
    (hfit : fits fn.ntmps c = true) (hn : args.length ≤ fn.ntmps) (h : VC Γ P wr [] c (RetPL Γ P wr fn.results.toList r) (argsS 0 (args.map .p)) []) : CallL P f args r := by
  refine ⟨⟨fn, hf, hname, by rw [hb]; rfl⟩, fun w F Bor β vs hargs => ?_⟩
  let E : Env := { w0 := w, Keep := fun b => b < w.heap.size, Bor := Bor, F0 := F, In := fun h => False, β0 := β }
  have hlk : ∀ h, look [] h = .free := fun h => look_ge (Nat.zero_le _)
  have hst : StI E fn.ntmps (getS (argsS 0 (args.map .p))) (look []) { tmps := vs.toArray ++ Array.replicate (fn.ntmps - vs.toArray.size) Go.undef, defers := [] } w F β := {
    os := rfl, tape := rfl, output := rfl, size := Nat.le_refl _
    keep := fun _ _ => rfl
    keeplt := fun b hb => hb
    bor := fun b hb => hargs.blt b hb
    flt := hargs.flt
    fold := fun b hb _ => hb
    own := fun h b h1 h2 => by rw [hlk] at h1; exact h1.elim
    dis := hargs.dis
    len := by simp [hargs.len]; omega
    slots := fun t => by
      rw [argsS_get]
      simp only [Nat.zero_le, if_true, Nat.sub_zero]
      by_cases ht : t < (args.map AV.p).length
      · have e1 : (args.map AV.p)[t]? = some (args.map AV.p)[t] := List.getElem?_eq_getElem ht
        have ht' : t < vs.length := by rw [hargs.len]; exact ht
        have e2 : vs[t]? = some vs[t] := List.getElem?_eq_getElem ht'
        have : (vs.toArray ++ Array.replicate (fn.ntmps - vs.toArray.size) Go.undef).getD t Go.undef = vs[t] := by
          simp [Array.getD, ht', show t < vs.length + (fn.ntmps - vs.length) by omega, Array.getElem_append]
        rw [this]
        have : (args.map AV.p).getD t .any = (args.map AV.p)[t] := by simp only [List.getD, e1]; rfl
        rw [this]
        exact hargs.rel t _ _ e1 e2
      · rw [getD_ge _ _ (by omega)]; exact .any _
    blks := hargs.blks
    ms := fun t k hk => by
      rw [argsS_get] at hk
      simp only [Nat.zero_le, if_true, Nat.sub_zero] at hk
      by_cases ht : t < (args.map AV.p).length
      · have : (args.map AV.p).getD t .any = (args.map AV.p)[t] := by simp only [List.getD, List.getElem?_eq_getElem ht]; rfl
        rw [this] at hk
        exact hargs.ma _ (List.getElem_mem ht) k hk
      · rw [getD_ge _ _ (by omega)] at hk; simp only [AV.men] at hk
    mb := hargs.mb
    defers := rfl
    bin := fun i hi => hi.elim
    fs0 := fun b hb => hb }
  have hwp := vc_sound hΓ hmix (E := E) (fun h hh => hh.elim) c _ _ _ _ w h hfit ⟨F, β, hst⟩
  refine calls_of_wp hf hb (wp_mono hwp fun e a' w' he => ?_)
  obtain ⟨e', s', H', h1, h2, F1, β1, hst'⟩ := he
  have fin : retsK Γ P wr fn.results.toList s' H' (fun l => oneOf l = .p r) → a'.defers = [] ∧ ∃ v, (results fn a'.tmps).run P w' = .ok v w' ∧ ∃ v' F', Ending.returned v = .returned v' ∧ RetL w F Bor r v' w' F' := by
    intro h2
    obtain ⟨l, v, h3, hr, hv, _⟩ := ret_ok hΓ hst' _ h2
    rw [h3] at hv
    exact ⟨hst'.defers, v, hr, v, F1, rfl, { os := hst'.os, tape := hst'.tape, output := hst'.output, size := hst'.size, same := fun b h1 => hst'.keep b h1, flt := hst'.flt, fold := fun b hb hlt => hst'.fold b hb hlt, fsub := fun b hb => hst'.fs0 b hb, rel := hv.pOf }⟩
  cases e' with
  | normal => cases e <;> first | exact h1.elim | exact fin h2
  | ret => cases e <;> first | exact h1.elim | exact fin h2
  | exit i => exact h2.elim
end
end Go.Proofs.YtnilcfiemgmfdaaGreat

namespace Go.Proofs.YtnilcfiemgmfdaaGreat
open Go
set_option linter.unusedVariables false
def zv : PV → Value
  | .int k n => .int k n
  | .bool b => .bool b
  | .raw v => v
  | _ => .slice none 0 0
def zsimple : PV → Bool
  | .int _ _ => true
  | .bool _ => true
  | .raw v => v.oneCell'
  | .sl _ _ [] => true
  | _ => false
def TI.val (i : TI) : Value := match i.d.agg with
  | true => .agg (i.zero.map zv).toArray
  | false => match i.zero with
    | [z] => zv z
    | _ => .bool false
theorem zv_rel {w FB} {z : PV} (h : zsimple z = true) : PR w FB z (zv z) := by
  cases z with
  | int k n => exact .int k n
  | bool b => exact .bool b
  | raw v => exact .raw v h
  | sl m W es =>
    cases es with
    | nil => exact .nil m W _
    | cons _ _ => cases h
  | _ => cases h
theorem zv_one {z : PV} (h : zsimple z = true) : z.one = true := by
  cases z <;> first | rfl | cases h
theorem zv_cells {z : PV} (h : zsimple z = true) : (zv z).cells = #[zv z] := by
  cases z with
  | raw v =>
    have h : v.oneCell' = true := h
    show v.cells = #[v]
    cases v <;> first | rfl | (simp [Value.oneCell'] at h)
  | sl m W es =>
    cases es with
    | nil => rfl
    | cons _ _ => cases h
  | int k n => rfl
  | bool b => rfl
  | _ => cases h
/-- Is a slice's zero value the empty one? -/
def TI.rowZ (i : TI) : Bool :=
  match i.d with
  | .slice _ => match i.zero with
    | [.sl _ _ []] => true
    | _ => false
  | _ => true
theorem tyok_mk {P : Program} {t : TypeId} {i : TI} (hd : TyDesc P t i.d) (hi : (P.info? t).map (fun x => (x.zero, x.size, x.bytes)) = some (some i.val, i.size, i.bytes)) (hs : i.zero.length = i.size) (hz : i.zero.all zsimple = true)
    (hc : (i.d.agg || Nat.beq i.zero.length 1) = true) (he : i.eq = false) (hrw : i.rowZ = true := by rfl) : TyOK P t i := by
  have hzero : ∀ info z, P.info? t = some info → info.zero = some z → z = i.val := fun info z h1 h2 => by
    rw [h1] at hi
    simp only [Option.map_some, Option.some.injEq, Prod.mk.injEq] at hi
    rw [hi.1] at h2
    exact (Option.some.inj h2).symm
  refine ⟨hd, ?_, fun c hc => zv_one (List.all_eq_true.1 hz c hc), (fun h => by rw [he] at h; cases h), (fun h => by rw [he] at h; cases h), fun info z h1 h2 => ?_, fun info z e h1 h2 hde => ?_⟩
  rotate_left
  · rw [hzero info z h1 h2]
    refine ⟨fun ha => ⟨_, by unfold TI.val; rw [ha]⟩, fun ha => ?_⟩
    unfold TI.val
    rw [ha] at hc ⊢
    have hl : i.zero.length = 1 := Nat.eq_of_beq_eq_true (by simpa using hc)
    obtain ⟨z', hz'⟩ := List.length_eq_one_iff.1 hl
    rw [hz'] at hz ⊢
    simp only [List.all_cons, List.all_nil, Bool.and_true] at hz
    exact zv_cells hz
  · rw [hzero info z h1 h2]
    unfold TI.rowZ at hrw
    unfold TI.val
    rw [hde] at hrw ⊢
    simp only [Ty.agg] at hrw ⊢
    split at hrw
    · rename_i e; rw [e]; rfl
    · cases hrw
  cases hp : P.info? t with
  | none => rw [hp] at hi; cases hi
  | some info =>
    rw [hp] at hi
    simp only [Option.map_some, Option.some.injEq, Prod.mk.injEq] at hi
    obtain ⟨h1, h2, h3⟩ := hi
    have key : i.val.cells = (i.zero.map zv).toArray := by
      unfold TI.val
      cases ha : i.d.agg with
      | true => rfl
      | false =>
        rw [ha] at hc
        have hl : i.zero.length = 1 := Nat.eq_of_beq_eq_true (by simpa using hc)
        obtain ⟨z, hz'⟩ := List.length_eq_one_iff.1 hl
        rw [hz'] at hz ⊢
        simp only [List.all_cons, List.all_nil, Bool.and_true] at hz
        simpa using zv_cells hz
    refine ⟨info, i.val, rfl, h2, h3, h1, by rw [key]; simpa using hs, hs, fun w FB j c v e1 e2 => ?_⟩
    rw [key] at e2
    simp only [List.getElem?_toArray, List.getElem?_map, e1, Option.map_some, Option.some.injEq] at e2
    subst e2
    exact zv_rel (List.all_eq_true.1 hz c (List.mem_of_getElem? e1))
def tyGet : List (Nat × TI) → Nat → Option TI
  | [], _ => none
  | (i, x) :: l, t => cond (Nat.beq t i) (some x) (tyGet l t)
def TabOK (P : Program) : List (Nat × TI) → Prop
  | [] => True
  | (t, i) :: l => TyOK P t i ∧ TabOK P l
theorem gok_of_tab {P : Program} {l : List (Nat × TI)} (h : TabOK P l) : GOK P (fun t => tyGet l t) := by
  intro t i hi
  induction l with
  | nil => cases hi
  | cons x l ih =>
    obtain ⟨t', i'⟩ := x
    simp only [tyGet] at hi
    cases e : Nat.beq t t' with
    | false => rw [e] at hi; exact ih h.2 hi
    | true =>
      rw [e] at hi
      have := Nat.eq_of_beq_eq_true e
      subst this
      cases hi
      exact h.1
end Go.Proofs.YtnilcfiemgmfdaaGreat

namespace Go.Proofs.YtnilcfiemgmfdaaGreat
open Go
set_option linter.unusedVariables false
/-- A type of one cell: a bool, a whole number. -/
structure PrimT (P : Program) (t : TypeId) : Prop where
  u : P.underlying t = some .bool ∨ ∃ k, P.underlying t = some (.int k)
  ok : ∃ i, TyOK P t i ∧ i.d.agg = false
theorem PrimT.part {P : Program} {t : TypeId} (h : PrimT P t) {xs : Array Value} {o : Nat} {v : Value} (hv : xs[o]? = some v) (w : World) : (part t xs o).run P w = .ok v w := by
  obtain ⟨i, hi, ha⟩ := h.ok
  have hlt := (Array.getElem?_eq_some_iff.1 hv).1
  have hG : GOK P (fun s => cond (Nat.beq s t) (some i) none) := fun s j hs => by
    cases e : Nat.beq s t with
    | false => simp only [e] at hs; cases hs
    | true =>
      simp only [e] at hs
      cases hs
      rw [Nat.eq_of_beq_eq_true e]; exact hi
  have := run_part (t := t) hG (i := i) (by simp) xs o w (by rw [ha]; simp; omega)
  rw [this, ha]
  simp only [Bool.false_eq_true, if_false]
  rw [Array.getD_eq_getD_getElem?, hv]; rfl
theorem PrimT.eqInt {P : Program} {t : TypeId} (h : PrimT P t) {k : IntKind} {a b : Int} (w : World) (hk : ∃ k, P.underlying t = some (.int k)) (d : Nat) : (Op.equalIn (d + 1) t (.int k a) (.int k b)).run P w = .ok (a == b) w := by
  obtain ⟨k', hu⟩ := hk
  simp [Op.equalIn, run_underlying hu]
theorem PrimT.eqBool {P : Program} {t : TypeId} (h : PrimT P t) {a b : Bool} (w : World) (hk : P.underlying t = some .bool) (d : Nat) : (Op.equalIn (d + 1) t (.bool a) (.bool b)).run P w = .ok (a == b) w := by
  simp [Op.equalIn, run_underlying hk]
/-- Each field is one cell, of the kind of the zero value's cell. -/
inductive FitZ (P : Program) : Nat → List Field → List PV → Prop where
  | nil {o} : FitZ P o [] []
  | int {o f fs k z zs} (hn : f.name ≠ "_") (ho : f.offset = o) (hp : PrimT P f.type) (hk : ∃ k, P.underlying f.type = some (.int k)) (h : FitZ P (o + 1) fs zs) : FitZ P o (f :: fs) (.int k z :: zs)
  | bool {o f fs z zs} (hn : f.name ≠ "_") (ho : f.offset = o) (hp : PrimT P f.type) (hk : P.underlying f.type = some .bool) (h : FitZ P (o + 1) fs zs) : FitZ P o (f :: fs) (.bool z :: zs)
theorem eqFields_ok {P : Program} {w : World} {d : Nat} {xs ys : Array Value} {o : Nat} {fs : List Field} {zs : List PV} (hf : FitZ P o fs zs) : ∀ {l1 l2 : List Value} {r : Bool}, EqV l1 l2 r → KindV zs l1 →
    (∀ i v, l1[i]? = some v → xs[o + i]? = some v) → (∀ i v, l2[i]? = some v → ys[o + i]? = some v) → (Op.eqFields (d + 1) xs ys fs).run P w = .ok r w := by
  induction hf with
  | nil => intro l1 l2 r h hk _ _; cases hk; cases h; simp [Op.eqFields]
  | @int o f fs k z zs hn ho hp hu _ ih =>
    intro l1 l2 r h hk h1 h2
    cases hk with | @int _ _ a _ _ hk =>
    cases h with | @int _ _ b _ _ _ h =>
    have a1 := hp.part (h1 0 _ rfl) w
    have a2 := hp.part (h2 0 _ rfl) w
    rw [Nat.add_zero, ← ho] at a1 a2
    have a3 := fun a b => hp.eqInt (k := k) (a := a) (b := b) w hu d
    have a4 := ih h hk (fun i v e => by rw [show o + 1 + i = o + (i + 1) by omega]; exact h1 (i + 1) v (by simpa using e)) (fun i v e => by rw [show o + 1 + i = o + (i + 1) by omega]; exact h2 (i + 1) v (by simpa using e))
    rw [Op.eqFields, if_pos hn]
    simp only [Sem.run_bind, a1, a2, a3, Result.andThen_ok]
    cases hb : (a == b) <;> simp [a4]
  | @bool o f fs z zs hn ho hp hu _ ih =>
    intro l1 l2 r h hk h1 h2
    cases hk with | @bool _ a _ _ hk =>
    cases h with | @bool _ b _ _ _ h =>
    have a1 := hp.part (h1 0 _ rfl) w
    have a2 := hp.part (h2 0 _ rfl) w
    rw [Nat.add_zero, ← ho] at a1 a2
    have a3 := fun a b => hp.eqBool (a := a) (b := b) w hu d
    have a4 := ih h hk (fun i v e => by rw [show o + 1 + i = o + (i + 1) by omega]; exact h1 (i + 1) v (by simpa using e)) (fun i v e => by rw [show o + 1 + i = o + (i + 1) by omega]; exact h2 (i + 1) v (by simpa using e))
    rw [Op.eqFields, if_pos hn]
    simp only [Sem.run_bind, a1, a2, a3, Result.andThen_ok]
    cases hb : (a == b) <;> simp [a4]
theorem checkPrim {P : Program} {t : TypeId} (hp : PrimT P t) {v : Value} (hv : (∃ k n, v = .int k n) ∨ ∃ b, v = .bool b) (b : Bool) (d : Nat) (w : World) : (Instr.checkKey b (d + 1) t v).run P w = .ok () w := by
  unfold Instr.checkKey
  rcases hp.u with hu | ⟨k, hu⟩ <;> rcases hv with ⟨k', n, rfl⟩ | ⟨b', rfl⟩ <;> simp [run_underlying hu]
theorem kindV_prim {zs : List PV} {l : List Value} (h : KindV zs l) : ∀ (i : Nat) v, l[i]? = some v → (∃ k n, v = .int k n) ∨ ∃ b, v = .bool b := by
  induction h with
  | nil => intro i v e; simp at e
  | int h ih => intro i v e; cases i with
    | zero => simp at e; exact .inl ⟨_, _, e.symm⟩
    | succ i => exact ih i v (by simpa using e)
  | bool h ih => intro i v e; cases i with
    | zero => simp at e; exact .inr ⟨_, e.symm⟩
    | succ i => exact ih i v (by simpa using e)
theorem FitZ.prim {P : Program} {o : Nat} {fs : List Field} {zs : List PV} (hf : FitZ P o fs zs) : zs.length = fs.length ∧ ∀ (i : Nat) f, fs[i]? = some f → f.name ≠ "_" ∧ f.offset = o + i ∧ PrimT P f.type := by
  induction hf with
  | nil => exact ⟨rfl, fun i f e => by simp at e⟩
  | int hn ho hp hk _ ih =>
    refine ⟨by simp [ih.1], fun i f e => ?_⟩
    cases i with
    | zero => simp at e; subst e; exact ⟨hn, by omega, hp⟩
    | succ i => have := ih.2 i f (by simpa using e); exact ⟨this.1, by rw [this.2.1]; omega, this.2.2⟩
  | bool hn ho hp hk _ ih =>
    refine ⟨by simp [ih.1], fun i f e => ?_⟩
    cases i with
    | zero => simp at e; subst e; exact ⟨hn, by omega, hp⟩
    | succ i => have := ih.2 i f (by simpa using e); exact ⟨this.1, by rw [this.2.1]; omega, this.2.2⟩
theorem KindV.len {zs : List PV} {l : List Value} (h : KindV zs l) : l.length = zs.length := by
  induction h with
  | nil => rfl
  | int _ ih => simp [ih]
  | bool _ ih => simp [ih]
theorem tyok_eq {P : Program} {t : TypeId} {i : TI} (h : TyOK P t { i with eq := false }) {fs : Array Field} (hu : P.underlying t = some (.struct fs)) (hp : P.stoodInHeld t = false) (hg : P.eqGuardType P.depth t = false) (hf : FitZ P 0 fs.toList i.zero) : TyOK P t i := by
  refine ⟨h.desc, h.info, h.plain, fun _ => ⟨hg, fun w xs ys r he hk => ?_⟩, fun _ w b xs hk => ?_, h.zagg, h.zrow⟩
  rotate_left
  · show (Instr.checkKey b (9999 + 1) t (.agg xs.toArray)).run P w = .ok () w
    rw [Instr.checkKey]
    simp only [Sem.run_bind, run_underlying hu, Result.andThen_ok]
    rw [← Array.forIn_toList]
    obtain ⟨hzl, hfs⟩ := hf.prim
    have hxl : xs.length = fs.toList.length := by rw [hk.len, hzl]
    have each : ∀ f ∈ fs.toList, f.name ≠ "_" ∧ ∃ v, (part f.type xs.toArray f.offset).run P w = .ok v w ∧ (Instr.checkKey b (9998 + 1) f.type v).run P w = .ok () w := fun f hm => by
      obtain ⟨i, hi⟩ := List.getElem?_of_mem hm
      obtain ⟨h1, h2, h3⟩ := hfs i f hi
      have hil : i < xs.length := by rw [hxl]; exact (List.getElem?_eq_some_iff.1 hi).1
      have hx : xs[i]? = some xs[i] := List.getElem?_eq_getElem hil
      exact ⟨h1, xs[i], h3.part (by rw [h2, Nat.zero_add]; simp) w, checkPrim h3 (kindV_prim hk i _ hx) b 9998 w⟩
    generalize fs.toList = L at each
    induction L with
    | nil => simp
    | cons f L ih =>
      obtain ⟨hn, v, p1, p2⟩ := each f (by simp)
      simp only [List.forIn_cons, Sem.run_bind, hn, ne_eq, not_false_eq_true, if_true, Result.andThen_ok, p1, p2, Sem.run_pure]
      exact ih (fun y hy => each y (by simp [hy]))
  have hfs : P.fieldsOf t = fs := by simp [Program.fieldsOf, hu]
  show (Op.equalIn (9998 + 1 + 1) t (.agg xs.toArray) (.agg ys.toArray)).run P w = .ok r w
  rw [run_equalIn_struct (P := P) w (9998 + 1) t _ _ (by rw [hfs]; exact hu) hp, hfs]
  exact eqFields_ok hf he hk (fun i v e => by simpa using e) (fun i v e => by simpa using e)
theorem eqItems_ok {P : Program} {w : World} {d : Nat} {e : TypeId} {k : IntKind} (hp : PrimT P e) (hu : P.underlying e = some (.int k)) (hc : P.cellsOf e = 1) {xs ys : Array Value} : ∀ (m o : Nat) {l1 l2 : List Value} {r : Bool}, EqV l1 l2 r → KindV (List.replicate m (.int k 0)) l1 →
    (∀ i v, l1[i]? = some v → xs[o + i]? = some v) → (∀ i v, l2[i]? = some v → ys[o + i]? = some v) → (Op.eqItems (d + 1) e (P.cellsOf e) xs ys (List.range' o m)).run P w = .ok r w := by
  intro m
  induction m with
  | zero => intro o l1 l2 r h hk _ _; cases hk; cases h; simp [Op.eqItems]
  | succ m ih =>
    intro o l1 l2 r h hk h1 h2
    rw [List.replicate_succ] at hk
    cases hk with | @int _ _ a _ _ hk =>
    cases h with | @int _ _ b _ _ _ h =>
    have a1 := hp.part (h1 0 _ rfl) w
    have a2 := hp.part (h2 0 _ rfl) w
    rw [Nat.add_zero] at a1 a2
    have a3 := fun a b => hp.eqInt (k := k) (a := a) (b := b) w ⟨k, hu⟩ d
    have a4 := ih (o + 1) h hk (fun i v e => by rw [show o + 1 + i = o + (i + 1) by omega]; exact h1 (i + 1) v (by simpa using e)) (fun i v e => by rw [show o + 1 + i = o + (i + 1) by omega]; exact h2 (i + 1) v (by simpa using e))
    rw [List.range'_succ]
    simp only [hc] at a4
    simp only [Op.eqItems, Sem.run_bind, hc, Nat.mul_one, a1, a2, a3, Result.andThen_ok]
    cases hb : (a == b) <;> simp [a4]
theorem tyok_eqA {P : Program} {t : TypeId} {i : TI} (h : TyOK P t { i with eq := false }) {e : TypeId} {n : Nat} {k : IntKind} (hu : P.underlying t = some (.array n e)) (hg : P.eqGuardType P.depth t = false) (hp : PrimT P e) (he : P.underlying e = some (.int k)) (hc : P.cellsOf e = 1) (hz : i.zero = List.replicate n (.int k 0)) : TyOK P t i := by
  obtain ⟨i', hi', _⟩ := hp.ok
  obtain ⟨info, z, hi, _⟩ := hi'.info
  refine ⟨h.desc, h.info, h.plain, fun _ => ⟨hg, fun w xs ys r hxy hk => ?_⟩, fun _ w b xs hk => ?_, h.zagg, h.zrow⟩
  rotate_left
  · show (Instr.checkKey b (9999 + 1) t (.agg xs.toArray)).run P w = .ok () w
    rw [Instr.checkKey]
    simp only [Sem.run_bind, run_underlying hu, Result.andThen_ok]
    simp only [Std.Legacy.Range.forIn_eq_forIn_range', Std.Legacy.Range.size, Nat.sub_zero, Nat.add_one_sub_one, Nat.div_one]
    have hxl : xs.length = n := by rw [hk.len, hz]; simp
    have hsz : (sizeOf e).run P w = .ok 1 w := by
      have hcells : info.size = 1 := by
        have := hc
        simp only [Program.cellsOf, hi] at this
        simpa using this
      simp [sizeOf, typeInfo, hi, hcells]
    have each : ∀ j ∈ List.range' 0 n, ∃ v, (part e xs.toArray (j * 1)).run P w = .ok v w ∧ (Instr.checkKey b (9998 + 1) e v).run P w = .ok () w := fun j hj => by
      have hj' : j < xs.length := by rw [hxl]; simpa using hj
      have hx : xs[j]? = some xs[j] := List.getElem?_eq_getElem hj'
      exact ⟨xs[j], hp.part (by rw [Nat.mul_one]; simp) w, checkPrim hp (kindV_prim hk j _ hx) b 9998 w⟩
    generalize List.range' 0 n = L at each
    induction L with
    | nil => simp
    | cons j L ih =>
      obtain ⟨v, p1, p2⟩ := each j (by simp)
      simp only [List.forIn_cons, Sem.run_bind, hsz, Result.andThen_ok, p1, p2, Sem.run_pure]
      exact ih (fun y hy => each y (by simp [hy]))
  show (Op.equalIn (9998 + 1 + 1) t (.agg xs.toArray) (.agg ys.toArray)).run P w = .ok r w
  rw [run_equalIn_array (P := P) (w := w) (9998 + 1) _ _ hu hi, List.range_eq_range']
  rw [hz] at hk
  exact eqItems_ok hp he hc n 0 hxy hk (fun i v e => by simpa using e) (fun i v e => by simpa using e)
end Go.Proofs.YtnilcfiemgmfdaaGreat

namespace Go.Proofs.YtnilcfiemgmfdaaGreat
open Go
set_option maxRecDepth 4000
def tyTab : List (Nat × TI) := [
  (1, ⟨.other, 1, 8, [.raw (.nilFunc)], false⟩),
  (2, ⟨.int .i64, 1, 8, [.int .i64 0], false⟩),
  (3, ⟨.int .i64, 1, 8, [.int .i64 0], false⟩),
  (4, ⟨.bool, 1, 1, [.bool false], false⟩),
  (5, ⟨.int .u8, 1, 1, [.int .u8 0], false⟩),
  (6, ⟨.int .u8, 1, 1, [.int .u8 0], false⟩),
  (7, ⟨.struct [(0, 2), (1, 3), (2, 4), (3, 6)], 4, 24, [.int .i64 0, .int .i64 0, .bool false, .int .u8 0], false⟩),
  (8, ⟨.struct [(0, 2), (1, 3), (2, 4), (3, 6)], 4, 24, [.int .i64 0, .int .i64 0, .bool false, .int .u8 0], false⟩),
  (9, ⟨.string, 1, 16, [.raw (.string ByteArray.empty)], false⟩),
  (10, ⟨.string, 1, 16, [.raw (.string ByteArray.empty)], false⟩),
  (11, ⟨.string, 1, 16, [.raw (.string ByteArray.empty)], false⟩),
  (12, ⟨.int .u64, 1, 8, [.int .u64 0], false⟩),
  (13, ⟨.struct [(0, 9), (1, 12)], 2, 24, [.raw (.string ByteArray.empty), .int .u64 0], false⟩),
  (14, ⟨.struct [(0, 9), (1, 12)], 2, 24, [.raw (.string ByteArray.empty), .int .u64 0], false⟩),
  (15, ⟨.other, 1, 8, [.raw (.pointer none)], false⟩),
  (16, ⟨.other, 1, 8, [.raw (.pointer none)], false⟩),
  (17, ⟨.other, 1, 8, [.raw (.pointer none)], false⟩),
  (18, ⟨.struct [(0, 17)], 1, 8, [.raw (.pointer none)], false⟩),
  (19, ⟨.struct [(0, 17)], 1, 8, [.raw (.pointer none)], false⟩),
  (21, ⟨.int .i32, 1, 4, [.int .i32 0], false⟩),
  (22, ⟨.slice 3, 1, 24, [.sl false 1 []], false⟩),
  (23, ⟨.other, 1, 8, [.raw (.nilFunc)], false⟩),
  (24, ⟨.slice 38, 1, 24, [.sl false 3 []], false⟩),
  (25, ⟨.struct [(0, 3), (1, 3), (2, 3), (3, 24), (4, 24), (5, 24), (6, 24)], 7, 120, [.int .i64 0, .int .i64 0, .int .i64 0, .raw (.slice none 0 0), .raw (.slice none 0 0), .raw (.slice none 0 0), .raw (.slice none 0 0)], false⟩),
  (26, ⟨.struct [(0, 3), (1, 3), (2, 3), (3, 24), (4, 24), (5, 24), (6, 24)], 7, 120, [.int .i64 0, .int .i64 0, .int .i64 0, .raw (.slice none 0 0), .raw (.slice none 0 0), .raw (.slice none 0 0), .raw (.slice none 0 0)], false⟩),
  (27, ⟨.other, 1, 8, [.raw (.nilFunc)], false⟩),
  (28, ⟨.other, 1, 8, [.raw (.nilFunc)], false⟩),
  (29, ⟨.slice 5, 1, 24, [.sl false 1 []], false⟩),
  (30, ⟨.other, 1, 8, [.raw (.nilFunc)], false⟩),
  (31, ⟨.other, 1, 8, [.raw (.nilFunc)], false⟩),
  (32, ⟨.int .i64, 1, 8, [.int .i64 0], false⟩),
  (34, ⟨.other, 1, 8, [.raw (.nilFunc)], false⟩),
  (35, ⟨.other, 1, 8, [.raw (.nilFunc)], false⟩),
  (36, ⟨.slice 41, 1, 24, [.sl false 1 []], false⟩),
  (37, ⟨.struct [(0, 4), (1, 36), (2, 36)], 3, 56, [.bool false, .sl false 1 [], .sl false 1 []], false⟩),
  (38, ⟨.struct [(0, 4), (1, 36), (2, 36)], 3, 56, [.bool false, .sl false 1 [], .sl false 1 []], false⟩),
  (39, ⟨.other, 1, 8, [.raw (.nilFunc)], false⟩),
  (40, ⟨.other, 1, 8, [.raw (.nilFunc)], false⟩),
  (41, ⟨.int .u32, 1, 4, [.int .u32 0], false⟩),
  (43, ⟨.other, 1, 8, [.raw (.nilFunc)], false⟩),
  (45, ⟨.other, 1, 8, [.raw (.nilFunc)], false⟩),
  (46, ⟨.other, 1, 8, [.raw (.nilFunc)], false⟩),
  (47, ⟨.other, 1, 8, [.raw (.nilFunc)], false⟩),
  (49, ⟨.other, 1, 8, [.raw (.nilFunc)], false⟩),
  (50, ⟨.slice 61, 1, 24, [.sl false 1 []], false⟩),
  (52, ⟨.other, 1, 8, [.raw (.nilFunc)], false⟩),
  (53, ⟨.other, 1, 8, [.raw (.nilFunc)], false⟩),
  (54, ⟨.other, 1, 8, [.raw (.nilFunc)], false⟩),
  (55, ⟨.slice 24, 1, 24, [.sl false 1 []], false⟩),
  (56, ⟨.other, 1, 8, [.raw (.nilFunc)], false⟩),
  (57, ⟨.other, 1, 8, [.raw (.nilFunc)], false⟩),
  (58, ⟨.other, 1, 8, [.raw (.nilFunc)], false⟩),
  (59, ⟨.slice 63, 1, 24, [.sl false 2 []], false⟩),
  (60, ⟨.other, 1, 8, [.raw (.nilFunc)], false⟩),
  (61, ⟨.int .u64, 1, 8, [.int .u64 0], false⟩),
  (62, ⟨.struct [(0, 61), (1, 61)], 2, 16, [.int .u64 0, .int .u64 0], false⟩),
  (63, ⟨.struct [(0, 61), (1, 61)], 2, 16, [.int .u64 0, .int .u64 0], true⟩),
  (64, ⟨.other, 1, 8, [.raw (.nilFunc)], false⟩),
  (65, ⟨.other, 1, 8, [.raw (.nilFunc)], false⟩),
  (66, ⟨.other, 1, 8, [.raw (.nilFunc)], false⟩),
  (68, ⟨.other, 1, 8, [.raw (.nilFunc)], false⟩),
  (69, ⟨.other, 1, 8, [.raw (.nilFunc)], false⟩),
  (70, ⟨.other, 1, 8, [.raw (.nilFunc)], false⟩),
  (71, ⟨.other, 1, 8, [.raw (.nilFunc)], false⟩),
  (72, ⟨.other, 1, 8, [.raw (.nilFunc)], false⟩),
  (73, ⟨.array 4 24, 4, 96, [.sl false 3 [], .sl false 3 [], .sl false 3 [], .sl false 3 []], false⟩),
  (74, ⟨.other, 1, 8, [.raw (.nilFunc)], false⟩),
  (75, ⟨.other, 1, 8, [.raw (.nilFunc)], false⟩),
  (76, ⟨.struct [(0, 26), (7, 24)], 8, 144, [.int .i64 0, .int .i64 0, .int .i64 0, .sl false 3 [], .sl false 3 [], .sl false 3 [], .sl false 3 [], .sl false 3 []], false⟩),
  (77, ⟨.struct [(0, 26), (7, 24)], 8, 144, [.int .i64 0, .int .i64 0, .int .i64 0, .sl false 3 [], .sl false 3 [], .sl false 3 [], .sl false 3 [], .sl false 3 []], false⟩),
  (78, ⟨.other, 1, 8, [.raw (.nilFunc)], false⟩),
  (80, ⟨.other, 1, 8, [.raw (.nilFunc)], false⟩),
  (81, ⟨.other, 1, 8, [.raw (.nilFunc)], false⟩),
  (82, ⟨.other, 1, 8, [.raw (.nilFunc)], false⟩),
  (83, ⟨.other, 1, 8, [.raw (.nilFunc)], false⟩),
  (84, ⟨.int .u64, 1, 8, [.int .u64 0], false⟩),
  (85, ⟨.other, 1, 8, [.raw (.nilFunc)], false⟩),
  (86, ⟨.other, 1, 8, [.raw (.nilFunc)], false⟩),
  (87, ⟨.int .u32, 1, 4, [.int .u32 0], false⟩),
  (88, ⟨.other, 1, 8, [.raw (.nilFunc)], false⟩),
  (89, ⟨.other, 1, 8, [.raw (.nilFunc)], false⟩),
  (90, ⟨.other, 1, 8, [.raw (.nilFunc)], false⟩),
  (91, ⟨.other, 1, 8, [.raw (.nilFunc)], false⟩),
  (92, ⟨.other, 1, 8, [.raw (.nilFunc)], false⟩),
  (94, ⟨.other, 1, 8, [.raw (.nilFunc)], false⟩),
  (96, ⟨.other, 1, 8, [.raw (.nilFunc)], false⟩),
  (97, ⟨.other, 1, 8, [.raw (.nilFunc)], false⟩),
  (98, ⟨.other, 1, 8, [.raw (.nilFunc)], false⟩),
  (99, ⟨.other, 1, 8, [.raw (.nilFunc)], false⟩),
  (100, ⟨.other, 1, 8, [.raw (.nilFunc)], false⟩),
  (101, ⟨.other, 1, 8, [.raw (.nilFunc)], false⟩),
  (102, ⟨.other, 1, 8, [.raw (.nilFunc)], false⟩),
  (104, ⟨.other, 1, 8, [.raw (.nilFunc)], false⟩),
  (105, ⟨.other, 1, 8, [.raw (.nilFunc)], false⟩),
  (106, ⟨.struct [(0, 4), (1, 36), (2, 3), (3, 4)], 4, 48, [.bool false, .sl false 1 [], .int .i64 0, .bool false], false⟩),
  (107, ⟨.struct [(0, 4), (1, 36), (2, 3), (3, 4)], 4, 48, [.bool false, .sl false 1 [], .int .i64 0, .bool false], false⟩),
  (108, ⟨.other, 1, 8, [.raw (.nilFunc)], false⟩),
  (109, ⟨.other, 1, 8, [.raw (.nilFunc)], false⟩),
  (110, ⟨.other, 1, 8, [.raw (.nilFunc)], false⟩),
  (112, ⟨.other, 1, 8, [.raw (.nilFunc)], false⟩),
  (113, ⟨.other, 1, 8, [.raw (.nilFunc)], false⟩),
  (114, ⟨.other, 1, 8, [.raw (.nilFunc)], false⟩),
  (115, ⟨.other, 1, 8, [.raw (.nilFunc)], false⟩),
  (116, ⟨.other, 1, 8, [.raw (.nilFunc)], false⟩),
  (117, ⟨.other, 1, 8, [.raw (.nilFunc)], false⟩),
  (119, ⟨.other, 1, 8, [.raw (.nilFunc)], false⟩),
  (120, ⟨.other, 1, 8, [.raw (.nilFunc)], false⟩),
  (121, ⟨.other, 1, 8, [.raw (.nilFunc)], false⟩),
  (122, ⟨.other, 1, 8, [.raw (.nilFunc)], false⟩),
  (123, ⟨.map 127 125, 1, 8, [.raw (.map none)], false⟩),
  (124, ⟨.other, 1, 8, [.raw (.nilFunc)], false⟩),
  (125, ⟨.array 3 3, 3, 24, [.int .i64 0, .int .i64 0, .int .i64 0], true⟩),
  (126, ⟨.struct [(0, 3), (1, 3)], 2, 16, [.int .i64 0, .int .i64 0], false⟩),
  (127, ⟨.struct [(0, 3), (1, 3)], 2, 16, [.int .i64 0, .int .i64 0], true⟩),
  (128, ⟨.other, 1, 8, [.raw (.nilFunc)], false⟩),
  (129, ⟨.other, 1, 8, [.raw (.nilFunc)], false⟩),
  (130, ⟨.other, 1, 8, [.raw (.nilFunc)], false⟩),
  (131, ⟨.other, 1, 8, [.raw (.nilFunc)], false⟩),
  (132, ⟨.other, 1, 8, [.raw (.nilFunc)], false⟩),
  (133, ⟨.other, 1, 8, [.raw (.nilFunc)], false⟩),
  (134, ⟨.other, 1, 8, [.raw (.nilFunc)], false⟩),
  (135, ⟨.other, 1, 8, [.raw (.nilFunc)], false⟩),
  (136, ⟨.other, 1, 8, [.raw (.nilFunc)], false⟩),
  (137, ⟨.other, 1, 8, [.raw (.nilFunc)], false⟩),
  (138, ⟨.slice 87, 1, 24, [.sl false 1 []], false⟩),
  (139, ⟨.other, 1, 8, [.raw (.nilFunc)], false⟩),
  (140, ⟨.map 143 87, 1, 8, [.raw (.map none)], false⟩),
  (141, ⟨.other, 1, 8, [.raw (.nilFunc)], false⟩),
  (142, ⟨.struct [(0, 3), (1, 4)], 2, 16, [.int .i64 0, .bool false], false⟩),
  (143, ⟨.struct [(0, 3), (1, 4)], 2, 16, [.int .i64 0, .bool false], true⟩),
  (144, ⟨.other, 1, 8, [.raw (.nilFunc)], false⟩),
  (145, ⟨.other, 1, 8, [.raw (.nilFunc)], false⟩),
  (146, ⟨.struct [(0, 4), (1, 4)], 2, 2, [.bool false, .bool false], false⟩),
  (147, ⟨.struct [(0, 4), (1, 4)], 2, 2, [.bool false, .bool false], true⟩),
  (148, ⟨.other, 1, 8, [.raw (.nilFunc)], false⟩),
  (149, ⟨.other, 1, 8, [.raw (.nilFunc)], false⟩),
  (150, ⟨.other, 1, 8, [.raw (.nilFunc)], false⟩),
  (151, ⟨.other, 1, 8, [.raw (.pointer none)], false⟩),
  (152, ⟨.struct [(0, 38)], 3, 56, [.bool false, .sl false 1 [], .sl false 1 []], false⟩),
  (153, ⟨.struct [(0, 38)], 3, 56, [.bool false, .sl false 1 [], .sl false 1 []], false⟩),
  (154, ⟨.other, 1, 8, [.raw (.nilFunc)], false⟩),
  (155, ⟨.other, 1, 8, [.raw (.nilFunc)], false⟩),
  (156, ⟨.other, 1, 8, [.raw (.nilFunc)], false⟩),
  (157, ⟨.other, 1, 8, [.raw (.nilFunc)], false⟩),
  (158, ⟨.other, 1, 8, [.raw (.nilFunc)], false⟩),
  (159, ⟨.other, 1, 8, [.raw (.nilFunc)], false⟩),
  (160, ⟨.other, 1, 8, [.raw (.nilFunc)], false⟩),
  (162, ⟨.other, 1, 8, [.raw (.nilFunc)], false⟩),
  (163, ⟨.other, 1, 8, [.raw (.nilFunc)], false⟩),
  (165, ⟨.other, 1, 8, [.raw (.nilFunc)], false⟩),
  (166, ⟨.other, 1, 8, [.raw (.nilFunc)], false⟩),
  (167, ⟨.struct [(0, 22), (1, 55), (2, 55), (3, 38)], 6, 128, [.raw (.slice none 0 0), .raw (.slice none 0 0), .raw (.slice none 0 0), .bool false, .sl false 1 [], .sl false 1 []], false⟩),
  (168, ⟨.struct [(0, 22), (1, 55), (2, 55), (3, 38)], 6, 128, [.raw (.slice none 0 0), .raw (.slice none 0 0), .raw (.slice none 0 0), .bool false, .sl false 1 [], .sl false 1 []], false⟩),
  (170, ⟨.other, 1, 8, [.raw (.nilFunc)], false⟩),
  (171, ⟨.other, 1, 8, [.raw (.nilFunc)], false⟩),
  (172, ⟨.map 3 129, 1, 8, [.raw (.map none)], false⟩),
  (175, ⟨.other, 1, 8, [.raw (.nilFunc)], false⟩),
  (176, ⟨.array 2 3, 2, 16, [.int .i64 0, .int .i64 0], true⟩),
  (177, ⟨.array 2 3, 2, 16, [.int .i64 0, .int .i64 0], true⟩),
  (178, ⟨.other, 1, 8, [.raw (.nilFunc)], false⟩),
  (179, ⟨.other, 1, 8, [.raw (.nilFunc)], false⟩),
  (180, ⟨.other, 1, 8, [.raw (.nilFunc)], false⟩),
  (181, ⟨.array 2 138, 2, 48, [.sl false 1 [], .sl false 1 []], false⟩),
  (182, ⟨.other, 1, 8, [.raw (.nilFunc)], false⟩),
  (183, ⟨.other, 1, 8, [.raw (.nilFunc)], false⟩),
  (184, ⟨.struct [(0, 4), (1, 3)], 2, 16, [.bool false, .int .i64 0], false⟩),
  (185, ⟨.struct [(0, 4), (1, 3)], 2, 16, [.bool false, .int .i64 0], true⟩),
  (186, ⟨.other, 1, 8, [.raw (.nilFunc)], false⟩),
  (188, ⟨.other, 1, 8, [.raw (.nilFunc)], false⟩),
  (189, ⟨.other, 1, 8, [.raw (.nilFunc)], false⟩),
  (190, ⟨.other, 1, 8, [.raw (.nilFunc)], false⟩),
  (191, ⟨.other, 1, 8, [.raw (.nilFunc)], false⟩),
  (192, ⟨.other, 1, 8, [.raw (.nilFunc)], false⟩),
  (193, ⟨.other, 1, 8, [.raw (.nilFunc)], false⟩),
  (194, ⟨.other, 1, 8, [.raw (.nilFunc)], false⟩),
  (195, ⟨.other, 1, 8, [.raw (.nilFunc)], false⟩),
  (196, ⟨.other, 1, 8, [.raw (.nilFunc)], false⟩),
  (197, ⟨.other, 1, 8, [.raw (.nilFunc)], false⟩),
  (198, ⟨.other, 1, 8, [.raw (.nilFunc)], false⟩),
  (200, ⟨.other, 1, 8, [.raw (.nilFunc)], false⟩),
  (201, ⟨.other, 1, 8, [.raw (.nilFunc)], false⟩),
  (202, ⟨.other, 1, 8, [.raw (.nilFunc)], false⟩),
  (203, ⟨.other, 1, 8, [.raw (.nilFunc)], false⟩),
  (204, ⟨.other, 1, 8, [.raw (.pointer none)], false⟩),
  (205, ⟨.other, 1, 8, [.raw (.nilFunc)], false⟩),
  (206, ⟨.other, 1, 8, [.raw (.nilFunc)], false⟩),
  (207, ⟨.other, 1, 8, [.raw (.nilFunc)], false⟩),
  (208, ⟨.struct [(0, 55), (1, 38)], 4, 80, [.sl false 1 [], .bool false, .sl false 1 [], .sl false 1 []], false⟩),
  (209, ⟨.struct [(0, 55), (1, 38)], 4, 80, [.sl false 1 [], .bool false, .sl false 1 [], .sl false 1 []], false⟩),
  (210, ⟨.other, 1, 8, [.raw (.pointer none)], false⟩),
  (211, ⟨.map 218 38, 1, 8, [.raw (.map none)], false⟩),
  (212, ⟨.struct [(0, 55), (1, 22), (2, 211), (3, 38)], 6, 112, [.sl false 1 [], .sl false 1 [], .raw (.map none), .bool false, .sl false 1 [], .sl false 1 []], false⟩),
  (213, ⟨.struct [(0, 55), (1, 22), (2, 211), (3, 38)], 6, 112, [.sl false 1 [], .sl false 1 [], .raw (.map none), .bool false, .sl false 1 [], .sl false 1 []], false⟩),
  (214, ⟨.other, 1, 8, [.raw (.nilFunc)], false⟩),
  (215, ⟨.other, 1, 8, [.raw (.nilFunc)], false⟩),
  (216, ⟨.other, 1, 8, [.raw (.nilFunc)], false⟩),
  (217, ⟨.struct [(0, 3), (1, 3)], 2, 16, [.int .i64 0, .int .i64 0], false⟩),
  (218, ⟨.struct [(0, 3), (1, 3)], 2, 16, [.int .i64 0, .int .i64 0], true⟩),
  (219, ⟨.other, 1, 8, [.raw (.nilFunc)], false⟩),
  (220, ⟨.other, 1, 8, [.raw (.nilFunc)], false⟩),
  (222, ⟨.other, 1, 8, [.raw (.nilFunc)], false⟩),
  (223, ⟨.array 5 61, 5, 40, [.int .u64 0, .int .u64 0, .int .u64 0, .int .u64 0, .int .u64 0], true⟩),
  (224, ⟨.other, 1, 8, [.raw (.nilFunc)], false⟩),
  (225, ⟨.other, 1, 8, [.raw (.nilFunc)], false⟩),
  (226, ⟨.other, 1, 8, [.raw (.nilFunc)], false⟩),
  (227, ⟨.other, 1, 8, [.raw (.nilFunc)], false⟩),
  (228, ⟨.other, 1, 8, [.raw (.pointer none)], false⟩),
  (230, ⟨.other, 1, 8, [.raw (.nilFunc)], false⟩),
  (231, ⟨.other, 1, 8, [.raw (.nilFunc)], false⟩),
  (232, ⟨.struct [(0, 3), (1, 3)], 2, 16, [.int .i64 0, .int .i64 0], false⟩),
  (233, ⟨.struct [(0, 3), (1, 3)], 2, 16, [.int .i64 0, .int .i64 0], true⟩),
  (234, ⟨.other, 1, 8, [.raw (.nilFunc)], false⟩),
  (235, ⟨.other, 1, 8, [.raw (.nilFunc)], false⟩),
  (236, ⟨.other, 1, 8, [.raw (.nilFunc)], false⟩),
  (237, ⟨.other, 1, 8, [.raw (.nilFunc)], false⟩),
  (238, ⟨.other, 1, 8, [.raw (.nilFunc)], false⟩),
  (239, ⟨.other, 1, 8, [.raw (.nilFunc)], false⟩),
  (240, ⟨.other, 1, 8, [.raw (.nilFunc)], false⟩),
  (241, ⟨.slice 38, 1, 24, [.sl false 3 []], false⟩),
  (243, ⟨.other, 1, 8, [.raw (.nilFunc)], false⟩),
  (244, ⟨.other, 1, 8, [.raw (.pointer none)], false⟩),
  (245, ⟨.other, 1, 8, [.raw (.nilFunc)], false⟩),
  (246, ⟨.map 264 38, 1, 8, [.raw (.map none)], false⟩),
  (247, ⟨.struct [(0, 3), (1, 246), (2, 246)], 3, 24, [.int .i64 0, .raw (.map none), .raw (.map none)], false⟩),
  (248, ⟨.struct [(0, 3), (1, 246), (2, 246)], 3, 24, [.int .i64 0, .raw (.map none), .raw (.map none)], false⟩),
  (249, ⟨.other, 1, 8, [.raw (.nilFunc)], false⟩),
  (250, ⟨.other, 1, 8, [.raw (.nilFunc)], false⟩),
  (251, ⟨.struct [(0, 55), (1, 24), (2, 24)], 3, 72, [.sl false 1 [], .sl false 3 [], .sl false 3 []], false⟩),
  (252, ⟨.struct [(0, 55), (1, 24), (2, 24)], 3, 72, [.sl false 1 [], .sl false 3 [], .sl false 3 []], false⟩),
  (253, ⟨.other, 1, 8, [.raw (.nilFunc)], false⟩),
  (254, ⟨.other, 1, 8, [.raw (.nilFunc)], false⟩),
  (255, ⟨.other, 1, 8, [.raw (.nilFunc)], false⟩),
  (256, ⟨.other, 1, 8, [.raw (.nilFunc)], false⟩),
  (257, ⟨.other, 1, 8, [.raw (.nilFunc)], false⟩),
  (258, ⟨.map 270 38, 1, 8, [.raw (.map none)], false⟩),
  (259, ⟨.map 270 38, 1, 8, [.raw (.map none)], false⟩),
  (260, ⟨.struct [(0, 3), (1, 259), (2, 259), (3, 259), (4, 4), (5, 4)], 6, 40, [.int .i64 0, .raw (.map none), .raw (.map none), .raw (.map none), .bool false, .bool false], false⟩),
  (261, ⟨.struct [(0, 3), (1, 259), (2, 259), (3, 259), (4, 4), (5, 4)], 6, 40, [.int .i64 0, .raw (.map none), .raw (.map none), .raw (.map none), .bool false, .bool false], false⟩),
  (263, ⟨.other, 1, 8, [.raw (.nilFunc)], false⟩),
  (264, ⟨.array 2 3, 2, 16, [.int .i64 0, .int .i64 0], true⟩),
  (266, ⟨.array 2 3, 2, 16, [.int .i64 0, .int .i64 0], true⟩),
  (267, ⟨.other, 1, 8, [.raw (.nilFunc)], false⟩),
  (268, ⟨.other, 1, 8, [.raw (.nilFunc)], false⟩),
  (269, ⟨.struct [(0, 3), (1, 3)], 2, 16, [.int .i64 0, .int .i64 0], false⟩),
  (270, ⟨.struct [(0, 3), (1, 3)], 2, 16, [.int .i64 0, .int .i64 0], true⟩),
  (271, ⟨.other, 1, 8, [.raw (.nilFunc)], false⟩),
  (272, ⟨.other, 1, 8, [.raw (.nilFunc)], false⟩),
  (273, ⟨.struct [(0, 17), (1, 17), (2, 17), (3, 9)], 4, 40, [.raw (.pointer none), .raw (.pointer none), .raw (.pointer none), .raw (.string ByteArray.empty)], false⟩),
  (274, ⟨.struct [(0, 17), (1, 17), (2, 17), (3, 9)], 4, 40, [.raw (.pointer none), .raw (.pointer none), .raw (.pointer none), .raw (.string ByteArray.empty)], false⟩),
  (278, ⟨.other, 1, 8, [.raw (.nilFunc)], false⟩),
  (279, ⟨.int .u8, 1, 1, [.int .u8 0], false⟩),
  (280, ⟨.int .u8, 1, 1, [.int .u8 0], false⟩),
  (281, ⟨.other, 1, 8, [.raw (.nilFunc)], false⟩),
  (282, ⟨.other, 1, 8, [.raw (.pointer none)], false⟩),
  (283, ⟨.int .i32, 1, 4, [.int .i32 0], false⟩),
  (284, ⟨.int .i32, 1, 4, [.int .i32 0], false⟩),
  (285, ⟨.struct [(0, 12), (1, 12), (2, 41), (3, 279), (4, 5), (5, 5), (6, 280), (7, 281), (8, 282), (9, 283), (10, 284)], 11, 48, [.int .u64 0, .int .u64 0, .int .u32 0, .int .u8 0, .int .u8 0, .int .u8 0, .int .u8 0, .raw (.nilFunc), .raw (.pointer none), .int .i32 0, .int .i32 0], false⟩),
  (286, ⟨.struct [(0, 12), (1, 12), (2, 41), (3, 279), (4, 5), (5, 5), (6, 280), (7, 281), (8, 282), (9, 283), (10, 284)], 11, 48, [.int .u64 0, .int .u64 0, .int .u32 0, .int .u8 0, .int .u8 0, .int .u8 0, .int .u8 0, .raw (.nilFunc), .raw (.pointer none), .int .i32 0, .int .i32 0], false⟩)]
abbrev Γ : Tab := fun t => tyGet tyTab t
theorem Γok : GOK Tryz.prog Γ := gok_of_tab (show TabOK Tryz.prog tyTab from
  ⟨tyok_mk (⟨_, Tryz.underlying1, trivial⟩) (by kernel_rfl) rfl rfl rfl rfl, 
  ⟨tyok_mk (Tryz.underlying2) (by kernel_rfl) rfl rfl rfl rfl, 
  ⟨tyok_mk (Tryz.underlying3) (by kernel_rfl) rfl rfl rfl rfl, 
  ⟨tyok_mk (Tryz.underlying4) (by kernel_rfl) rfl rfl rfl rfl, 
  ⟨tyok_mk (Tryz.underlying5) (by kernel_rfl) rfl rfl rfl rfl, 
  ⟨tyok_mk (Tryz.underlying6) (by kernel_rfl) rfl rfl rfl rfl, 
  ⟨tyok_mk (⟨_, Tryz.underlying7, rfl⟩) (by kernel_rfl) rfl rfl rfl rfl, 
  ⟨tyok_mk (⟨_, Tryz.underlying8, rfl⟩) (by kernel_rfl) rfl rfl rfl rfl, 
  ⟨tyok_mk (Tryz.underlying9) (by kernel_rfl) rfl rfl rfl rfl, 
  ⟨tyok_mk (Tryz.underlying10) (by kernel_rfl) rfl rfl rfl rfl, 
  ⟨tyok_mk (Tryz.underlying11) (by kernel_rfl) rfl rfl rfl rfl, 
  ⟨tyok_mk (Tryz.underlying12) (by kernel_rfl) rfl rfl rfl rfl, 
  ⟨tyok_mk (⟨_, Tryz.underlying13, rfl⟩) (by kernel_rfl) rfl rfl rfl rfl, 
  ⟨tyok_mk (⟨_, Tryz.underlying14, rfl⟩) (by kernel_rfl) rfl rfl rfl rfl, 
  ⟨tyok_mk (⟨_, Tryz.underlying15, trivial⟩) (by kernel_rfl) rfl rfl rfl rfl, 
  ⟨tyok_mk (⟨_, Tryz.underlying16, trivial⟩) (by kernel_rfl) rfl rfl rfl rfl, 
  ⟨tyok_mk (⟨_, Tryz.underlying17, trivial⟩) (by kernel_rfl) rfl rfl rfl rfl, 
  ⟨tyok_mk (⟨_, Tryz.underlying18, rfl⟩) (by kernel_rfl) rfl rfl rfl rfl, 
  ⟨tyok_mk (⟨_, Tryz.underlying19, rfl⟩) (by kernel_rfl) rfl rfl rfl rfl, 
  ⟨tyok_mk (Tryz.underlying21) (by kernel_rfl) rfl rfl rfl rfl, 
  ⟨tyok_mk (Tryz.underlying22) (by kernel_rfl) rfl rfl rfl rfl, 
  ⟨tyok_mk (⟨_, Tryz.underlying23, trivial⟩) (by kernel_rfl) rfl rfl rfl rfl, 
  ⟨tyok_mk (Tryz.underlying24) (by kernel_rfl) rfl rfl rfl rfl, 
  ⟨tyok_mk (⟨_, Tryz.underlying25, rfl⟩) (by kernel_rfl) rfl rfl rfl rfl, 
  ⟨tyok_mk (⟨_, Tryz.underlying26, rfl⟩) (by kernel_rfl) rfl rfl rfl rfl, 
  ⟨tyok_mk (⟨_, Tryz.underlying27, trivial⟩) (by kernel_rfl) rfl rfl rfl rfl, 
  ⟨tyok_mk (⟨_, Tryz.underlying28, trivial⟩) (by kernel_rfl) rfl rfl rfl rfl, 
  ⟨tyok_mk (Tryz.underlying29) (by kernel_rfl) rfl rfl rfl rfl, 
  ⟨tyok_mk (⟨_, Tryz.underlying30, trivial⟩) (by kernel_rfl) rfl rfl rfl rfl, 
  ⟨tyok_mk (⟨_, Tryz.underlying31, trivial⟩) (by kernel_rfl) rfl rfl rfl rfl, 
  ⟨tyok_mk (Tryz.underlying32) (by kernel_rfl) rfl rfl rfl rfl, 
  ⟨tyok_mk (⟨_, Tryz.underlying34, trivial⟩) (by kernel_rfl) rfl rfl rfl rfl, 
  ⟨tyok_mk (⟨_, Tryz.underlying35, trivial⟩) (by kernel_rfl) rfl rfl rfl rfl, 
  ⟨tyok_mk (Tryz.underlying36) (by kernel_rfl) rfl rfl rfl rfl, 
  ⟨tyok_mk (⟨_, Tryz.underlying37, rfl⟩) (by kernel_rfl) rfl rfl rfl rfl, 
  ⟨tyok_mk (⟨_, Tryz.underlying38, rfl⟩) (by kernel_rfl) rfl rfl rfl rfl, 
  ⟨tyok_mk (⟨_, Tryz.underlying39, trivial⟩) (by kernel_rfl) rfl rfl rfl rfl, 
  ⟨tyok_mk (⟨_, Tryz.underlying40, trivial⟩) (by kernel_rfl) rfl rfl rfl rfl, 
  ⟨tyok_mk (Tryz.underlying41) (by kernel_rfl) rfl rfl rfl rfl, 
  ⟨tyok_mk (⟨_, Tryz.underlying43, trivial⟩) (by kernel_rfl) rfl rfl rfl rfl, 
  ⟨tyok_mk (⟨_, Tryz.underlying45, trivial⟩) (by kernel_rfl) rfl rfl rfl rfl, 
  ⟨tyok_mk (⟨_, Tryz.underlying46, trivial⟩) (by kernel_rfl) rfl rfl rfl rfl, 
  ⟨tyok_mk (⟨_, Tryz.underlying47, trivial⟩) (by kernel_rfl) rfl rfl rfl rfl, 
  ⟨tyok_mk (⟨_, Tryz.underlying49, trivial⟩) (by kernel_rfl) rfl rfl rfl rfl, 
  ⟨tyok_mk (Tryz.underlying50) (by kernel_rfl) rfl rfl rfl rfl, 
  ⟨tyok_mk (⟨_, Tryz.underlying52, trivial⟩) (by kernel_rfl) rfl rfl rfl rfl, 
  ⟨tyok_mk (⟨_, Tryz.underlying53, trivial⟩) (by kernel_rfl) rfl rfl rfl rfl, 
  ⟨tyok_mk (⟨_, Tryz.underlying54, trivial⟩) (by kernel_rfl) rfl rfl rfl rfl, 
  ⟨tyok_mk (Tryz.underlying55) (by kernel_rfl) rfl rfl rfl rfl, 
  ⟨tyok_mk (⟨_, Tryz.underlying56, trivial⟩) (by kernel_rfl) rfl rfl rfl rfl, 
  ⟨tyok_mk (⟨_, Tryz.underlying57, trivial⟩) (by kernel_rfl) rfl rfl rfl rfl, 
  ⟨tyok_mk (⟨_, Tryz.underlying58, trivial⟩) (by kernel_rfl) rfl rfl rfl rfl, 
  ⟨tyok_mk (Tryz.underlying59) (by kernel_rfl) rfl rfl rfl rfl, 
  ⟨tyok_mk (⟨_, Tryz.underlying60, trivial⟩) (by kernel_rfl) rfl rfl rfl rfl, 
  ⟨tyok_mk (Tryz.underlying61) (by kernel_rfl) rfl rfl rfl rfl, 
  ⟨tyok_mk (⟨_, Tryz.underlying62, rfl⟩) (by kernel_rfl) rfl rfl rfl rfl, 
  ⟨tyok_eq (tyok_mk (⟨_, Tryz.underlying63, rfl⟩) (by kernel_rfl) rfl rfl rfl rfl) Tryz.underlying63 (by kernel_rfl) (by kernel_rfl) (.int (by decide) rfl ⟨.inr ⟨_, Tryz.underlying61⟩, _, (tyok_mk (Tryz.underlying61) (by kernel_rfl) rfl rfl rfl rfl : TyOK Tryz.prog 61 ⟨.int .u64, 1, 8, [.int .u64 0], false⟩), rfl⟩ ⟨_, Tryz.underlying61⟩ (.int (by decide) rfl ⟨.inr ⟨_, Tryz.underlying61⟩, _, (tyok_mk (Tryz.underlying61) (by kernel_rfl) rfl rfl rfl rfl : TyOK Tryz.prog 61 ⟨.int .u64, 1, 8, [.int .u64 0], false⟩), rfl⟩ ⟨_, Tryz.underlying61⟩ (.nil))), 
  ⟨tyok_mk (⟨_, Tryz.underlying64, trivial⟩) (by kernel_rfl) rfl rfl rfl rfl, 
  ⟨tyok_mk (⟨_, Tryz.underlying65, trivial⟩) (by kernel_rfl) rfl rfl rfl rfl, 
  ⟨tyok_mk (⟨_, Tryz.underlying66, trivial⟩) (by kernel_rfl) rfl rfl rfl rfl, 
  ⟨tyok_mk (⟨_, Tryz.underlying68, trivial⟩) (by kernel_rfl) rfl rfl rfl rfl, 
  ⟨tyok_mk (⟨_, Tryz.underlying69, trivial⟩) (by kernel_rfl) rfl rfl rfl rfl, 
  ⟨tyok_mk (⟨_, Tryz.underlying70, trivial⟩) (by kernel_rfl) rfl rfl rfl rfl, 
  ⟨tyok_mk (⟨_, Tryz.underlying71, trivial⟩) (by kernel_rfl) rfl rfl rfl rfl, 
  ⟨tyok_mk (⟨_, Tryz.underlying72, trivial⟩) (by kernel_rfl) rfl rfl rfl rfl, 
  ⟨tyok_mk (Tryz.underlying73) (by kernel_rfl) rfl rfl rfl rfl, 
  ⟨tyok_mk (⟨_, Tryz.underlying74, trivial⟩) (by kernel_rfl) rfl rfl rfl rfl, 
  ⟨tyok_mk (⟨_, Tryz.underlying75, trivial⟩) (by kernel_rfl) rfl rfl rfl rfl, 
  ⟨tyok_mk (⟨_, Tryz.underlying76, rfl⟩) (by kernel_rfl) rfl rfl rfl rfl, 
  ⟨tyok_mk (⟨_, Tryz.underlying77, rfl⟩) (by kernel_rfl) rfl rfl rfl rfl, 
  ⟨tyok_mk (⟨_, Tryz.underlying78, trivial⟩) (by kernel_rfl) rfl rfl rfl rfl, 
  ⟨tyok_mk (⟨_, Tryz.underlying80, trivial⟩) (by kernel_rfl) rfl rfl rfl rfl, 
  ⟨tyok_mk (⟨_, Tryz.underlying81, trivial⟩) (by kernel_rfl) rfl rfl rfl rfl, 
  ⟨tyok_mk (⟨_, Tryz.underlying82, trivial⟩) (by kernel_rfl) rfl rfl rfl rfl, 
  ⟨tyok_mk (⟨_, Tryz.underlying83, trivial⟩) (by kernel_rfl) rfl rfl rfl rfl, 
  ⟨tyok_mk (Tryz.underlying84) (by kernel_rfl) rfl rfl rfl rfl, 
  ⟨tyok_mk (⟨_, Tryz.underlying85, trivial⟩) (by kernel_rfl) rfl rfl rfl rfl, 
  ⟨tyok_mk (⟨_, Tryz.underlying86, trivial⟩) (by kernel_rfl) rfl rfl rfl rfl, 
  ⟨tyok_mk (Tryz.underlying87) (by kernel_rfl) rfl rfl rfl rfl, 
  ⟨tyok_mk (⟨_, Tryz.underlying88, trivial⟩) (by kernel_rfl) rfl rfl rfl rfl, 
  ⟨tyok_mk (⟨_, Tryz.underlying89, trivial⟩) (by kernel_rfl) rfl rfl rfl rfl, 
  ⟨tyok_mk (⟨_, Tryz.underlying90, trivial⟩) (by kernel_rfl) rfl rfl rfl rfl, 
  ⟨tyok_mk (⟨_, Tryz.underlying91, trivial⟩) (by kernel_rfl) rfl rfl rfl rfl, 
  ⟨tyok_mk (⟨_, Tryz.underlying92, trivial⟩) (by kernel_rfl) rfl rfl rfl rfl, 
  ⟨tyok_mk (⟨_, Tryz.underlying94, trivial⟩) (by kernel_rfl) rfl rfl rfl rfl, 
  ⟨tyok_mk (⟨_, Tryz.underlying96, trivial⟩) (by kernel_rfl) rfl rfl rfl rfl, 
  ⟨tyok_mk (⟨_, Tryz.underlying97, trivial⟩) (by kernel_rfl) rfl rfl rfl rfl, 
  ⟨tyok_mk (⟨_, Tryz.underlying98, trivial⟩) (by kernel_rfl) rfl rfl rfl rfl, 
  ⟨tyok_mk (⟨_, Tryz.underlying99, trivial⟩) (by kernel_rfl) rfl rfl rfl rfl, 
  ⟨tyok_mk (⟨_, Tryz.underlying100, trivial⟩) (by kernel_rfl) rfl rfl rfl rfl, 
  ⟨tyok_mk (⟨_, Tryz.underlying101, trivial⟩) (by kernel_rfl) rfl rfl rfl rfl, 
  ⟨tyok_mk (⟨_, Tryz.underlying102, trivial⟩) (by kernel_rfl) rfl rfl rfl rfl, 
  ⟨tyok_mk (⟨_, Tryz.underlying104, trivial⟩) (by kernel_rfl) rfl rfl rfl rfl, 
  ⟨tyok_mk (⟨_, Tryz.underlying105, trivial⟩) (by kernel_rfl) rfl rfl rfl rfl, 
  ⟨tyok_mk (⟨_, Tryz.underlying106, rfl⟩) (by kernel_rfl) rfl rfl rfl rfl, 
  ⟨tyok_mk (⟨_, Tryz.underlying107, rfl⟩) (by kernel_rfl) rfl rfl rfl rfl, 
  ⟨tyok_mk (⟨_, Tryz.underlying108, trivial⟩) (by kernel_rfl) rfl rfl rfl rfl, 
  ⟨tyok_mk (⟨_, Tryz.underlying109, trivial⟩) (by kernel_rfl) rfl rfl rfl rfl, 
  ⟨tyok_mk (⟨_, Tryz.underlying110, trivial⟩) (by kernel_rfl) rfl rfl rfl rfl, 
  ⟨tyok_mk (⟨_, Tryz.underlying112, trivial⟩) (by kernel_rfl) rfl rfl rfl rfl, 
  ⟨tyok_mk (⟨_, Tryz.underlying113, trivial⟩) (by kernel_rfl) rfl rfl rfl rfl, 
  ⟨tyok_mk (⟨_, Tryz.underlying114, trivial⟩) (by kernel_rfl) rfl rfl rfl rfl, 
  ⟨tyok_mk (⟨_, Tryz.underlying115, trivial⟩) (by kernel_rfl) rfl rfl rfl rfl, 
  ⟨tyok_mk (⟨_, Tryz.underlying116, trivial⟩) (by kernel_rfl) rfl rfl rfl rfl, 
  ⟨tyok_mk (⟨_, Tryz.underlying117, trivial⟩) (by kernel_rfl) rfl rfl rfl rfl, 
  ⟨tyok_mk (⟨_, Tryz.underlying119, trivial⟩) (by kernel_rfl) rfl rfl rfl rfl, 
  ⟨tyok_mk (⟨_, Tryz.underlying120, trivial⟩) (by kernel_rfl) rfl rfl rfl rfl, 
  ⟨tyok_mk (⟨_, Tryz.underlying121, trivial⟩) (by kernel_rfl) rfl rfl rfl rfl, 
  ⟨tyok_mk (⟨_, Tryz.underlying122, trivial⟩) (by kernel_rfl) rfl rfl rfl rfl, 
  ⟨tyok_mk (Tryz.underlying123) (by kernel_rfl) rfl rfl rfl rfl, 
  ⟨tyok_mk (⟨_, Tryz.underlying124, trivial⟩) (by kernel_rfl) rfl rfl rfl rfl, 
  ⟨tyok_eqA (tyok_mk (Tryz.underlying125) (by kernel_rfl) rfl rfl rfl rfl) Tryz.underlying125 (by kernel_rfl) ⟨.inr ⟨_, Tryz.underlying3⟩, _, (tyok_mk (Tryz.underlying3) (by kernel_rfl) rfl rfl rfl rfl : TyOK Tryz.prog 3 ⟨.int .i64, 1, 8, [.int .i64 0], false⟩), rfl⟩ Tryz.underlying3 (by kernel_rfl) rfl, 
  ⟨tyok_mk (⟨_, Tryz.underlying126, rfl⟩) (by kernel_rfl) rfl rfl rfl rfl, 
  ⟨tyok_eq (tyok_mk (⟨_, Tryz.underlying127, rfl⟩) (by kernel_rfl) rfl rfl rfl rfl) Tryz.underlying127 (by kernel_rfl) (by kernel_rfl) (.int (by decide) rfl ⟨.inr ⟨_, Tryz.underlying3⟩, _, (tyok_mk (Tryz.underlying3) (by kernel_rfl) rfl rfl rfl rfl : TyOK Tryz.prog 3 ⟨.int .i64, 1, 8, [.int .i64 0], false⟩), rfl⟩ ⟨_, Tryz.underlying3⟩ (.int (by decide) rfl ⟨.inr ⟨_, Tryz.underlying3⟩, _, (tyok_mk (Tryz.underlying3) (by kernel_rfl) rfl rfl rfl rfl : TyOK Tryz.prog 3 ⟨.int .i64, 1, 8, [.int .i64 0], false⟩), rfl⟩ ⟨_, Tryz.underlying3⟩ (.nil))), 
  ⟨tyok_mk (⟨_, Tryz.underlying128, trivial⟩) (by kernel_rfl) rfl rfl rfl rfl, 
  ⟨tyok_mk (⟨_, Tryz.underlying129, trivial⟩) (by kernel_rfl) rfl rfl rfl rfl, 
  ⟨tyok_mk (⟨_, Tryz.underlying130, trivial⟩) (by kernel_rfl) rfl rfl rfl rfl, 
  ⟨tyok_mk (⟨_, Tryz.underlying131, trivial⟩) (by kernel_rfl) rfl rfl rfl rfl, 
  ⟨tyok_mk (⟨_, Tryz.underlying132, trivial⟩) (by kernel_rfl) rfl rfl rfl rfl, 
  ⟨tyok_mk (⟨_, Tryz.underlying133, trivial⟩) (by kernel_rfl) rfl rfl rfl rfl, 
  ⟨tyok_mk (⟨_, Tryz.underlying134, trivial⟩) (by kernel_rfl) rfl rfl rfl rfl, 
  ⟨tyok_mk (⟨_, Tryz.underlying135, trivial⟩) (by kernel_rfl) rfl rfl rfl rfl, 
  ⟨tyok_mk (⟨_, Tryz.underlying136, trivial⟩) (by kernel_rfl) rfl rfl rfl rfl, 
  ⟨tyok_mk (⟨_, Tryz.underlying137, trivial⟩) (by kernel_rfl) rfl rfl rfl rfl, 
  ⟨tyok_mk (Tryz.underlying138) (by kernel_rfl) rfl rfl rfl rfl, 
  ⟨tyok_mk (⟨_, Tryz.underlying139, trivial⟩) (by kernel_rfl) rfl rfl rfl rfl, 
  ⟨tyok_mk (Tryz.underlying140) (by kernel_rfl) rfl rfl rfl rfl, 
  ⟨tyok_mk (⟨_, Tryz.underlying141, trivial⟩) (by kernel_rfl) rfl rfl rfl rfl, 
  ⟨tyok_mk (⟨_, Tryz.underlying142, rfl⟩) (by kernel_rfl) rfl rfl rfl rfl, 
  ⟨tyok_eq (tyok_mk (⟨_, Tryz.underlying143, rfl⟩) (by kernel_rfl) rfl rfl rfl rfl) Tryz.underlying143 (by kernel_rfl) (by kernel_rfl) (.int (by decide) rfl ⟨.inr ⟨_, Tryz.underlying3⟩, _, (tyok_mk (Tryz.underlying3) (by kernel_rfl) rfl rfl rfl rfl : TyOK Tryz.prog 3 ⟨.int .i64, 1, 8, [.int .i64 0], false⟩), rfl⟩ ⟨_, Tryz.underlying3⟩ (.bool (by decide) rfl ⟨.inl Tryz.underlying4, _, (tyok_mk (Tryz.underlying4) (by kernel_rfl) rfl rfl rfl rfl : TyOK Tryz.prog 4 ⟨.bool, 1, 1, [.bool false], false⟩), rfl⟩ Tryz.underlying4 (.nil))), 
  ⟨tyok_mk (⟨_, Tryz.underlying144, trivial⟩) (by kernel_rfl) rfl rfl rfl rfl, 
  ⟨tyok_mk (⟨_, Tryz.underlying145, trivial⟩) (by kernel_rfl) rfl rfl rfl rfl, 
  ⟨tyok_mk (⟨_, Tryz.underlying146, rfl⟩) (by kernel_rfl) rfl rfl rfl rfl, 
  ⟨tyok_eq (tyok_mk (⟨_, Tryz.underlying147, rfl⟩) (by kernel_rfl) rfl rfl rfl rfl) Tryz.underlying147 (by kernel_rfl) (by kernel_rfl) (.bool (by decide) rfl ⟨.inl Tryz.underlying4, _, (tyok_mk (Tryz.underlying4) (by kernel_rfl) rfl rfl rfl rfl : TyOK Tryz.prog 4 ⟨.bool, 1, 1, [.bool false], false⟩), rfl⟩ Tryz.underlying4 (.bool (by decide) rfl ⟨.inl Tryz.underlying4, _, (tyok_mk (Tryz.underlying4) (by kernel_rfl) rfl rfl rfl rfl : TyOK Tryz.prog 4 ⟨.bool, 1, 1, [.bool false], false⟩), rfl⟩ Tryz.underlying4 (.nil))), 
  ⟨tyok_mk (⟨_, Tryz.underlying148, trivial⟩) (by kernel_rfl) rfl rfl rfl rfl, 
  ⟨tyok_mk (⟨_, Tryz.underlying149, trivial⟩) (by kernel_rfl) rfl rfl rfl rfl, 
  ⟨tyok_mk (⟨_, Tryz.underlying150, trivial⟩) (by kernel_rfl) rfl rfl rfl rfl, 
  ⟨tyok_mk (⟨_, Tryz.underlying151, trivial⟩) (by kernel_rfl) rfl rfl rfl rfl, 
  ⟨tyok_mk (⟨_, Tryz.underlying152, rfl⟩) (by kernel_rfl) rfl rfl rfl rfl, 
  ⟨tyok_mk (⟨_, Tryz.underlying153, rfl⟩) (by kernel_rfl) rfl rfl rfl rfl, 
  ⟨tyok_mk (⟨_, Tryz.underlying154, trivial⟩) (by kernel_rfl) rfl rfl rfl rfl, 
  ⟨tyok_mk (⟨_, Tryz.underlying155, trivial⟩) (by kernel_rfl) rfl rfl rfl rfl, 
  ⟨tyok_mk (⟨_, Tryz.underlying156, trivial⟩) (by kernel_rfl) rfl rfl rfl rfl, 
  ⟨tyok_mk (⟨_, Tryz.underlying157, trivial⟩) (by kernel_rfl) rfl rfl rfl rfl, 
  ⟨tyok_mk (⟨_, Tryz.underlying158, trivial⟩) (by kernel_rfl) rfl rfl rfl rfl, 
  ⟨tyok_mk (⟨_, Tryz.underlying159, trivial⟩) (by kernel_rfl) rfl rfl rfl rfl, 
  ⟨tyok_mk (⟨_, Tryz.underlying160, trivial⟩) (by kernel_rfl) rfl rfl rfl rfl, 
  ⟨tyok_mk (⟨_, Tryz.underlying162, trivial⟩) (by kernel_rfl) rfl rfl rfl rfl, 
  ⟨tyok_mk (⟨_, Tryz.underlying163, trivial⟩) (by kernel_rfl) rfl rfl rfl rfl, 
  ⟨tyok_mk (⟨_, Tryz.underlying165, trivial⟩) (by kernel_rfl) rfl rfl rfl rfl, 
  ⟨tyok_mk (⟨_, Tryz.underlying166, trivial⟩) (by kernel_rfl) rfl rfl rfl rfl, 
  ⟨tyok_mk (⟨_, Tryz.underlying167, rfl⟩) (by kernel_rfl) rfl rfl rfl rfl, 
  ⟨tyok_mk (⟨_, Tryz.underlying168, rfl⟩) (by kernel_rfl) rfl rfl rfl rfl, 
  ⟨tyok_mk (⟨_, Tryz.underlying170, trivial⟩) (by kernel_rfl) rfl rfl rfl rfl, 
  ⟨tyok_mk (⟨_, Tryz.underlying171, trivial⟩) (by kernel_rfl) rfl rfl rfl rfl, 
  ⟨tyok_mk (Tryz.underlying172) (by kernel_rfl) rfl rfl rfl rfl, 
  ⟨tyok_mk (⟨_, Tryz.underlying175, trivial⟩) (by kernel_rfl) rfl rfl rfl rfl, 
  ⟨tyok_eqA (tyok_mk (Tryz.underlying176) (by kernel_rfl) rfl rfl rfl rfl) Tryz.underlying176 (by kernel_rfl) ⟨.inr ⟨_, Tryz.underlying3⟩, _, (tyok_mk (Tryz.underlying3) (by kernel_rfl) rfl rfl rfl rfl : TyOK Tryz.prog 3 ⟨.int .i64, 1, 8, [.int .i64 0], false⟩), rfl⟩ Tryz.underlying3 (by kernel_rfl) rfl, 
  ⟨tyok_eqA (tyok_mk (Tryz.underlying177) (by kernel_rfl) rfl rfl rfl rfl) Tryz.underlying177 (by kernel_rfl) ⟨.inr ⟨_, Tryz.underlying3⟩, _, (tyok_mk (Tryz.underlying3) (by kernel_rfl) rfl rfl rfl rfl : TyOK Tryz.prog 3 ⟨.int .i64, 1, 8, [.int .i64 0], false⟩), rfl⟩ Tryz.underlying3 (by kernel_rfl) rfl, 
  ⟨tyok_mk (⟨_, Tryz.underlying178, trivial⟩) (by kernel_rfl) rfl rfl rfl rfl, 
  ⟨tyok_mk (⟨_, Tryz.underlying179, trivial⟩) (by kernel_rfl) rfl rfl rfl rfl, 
  ⟨tyok_mk (⟨_, Tryz.underlying180, trivial⟩) (by kernel_rfl) rfl rfl rfl rfl, 
  ⟨tyok_mk (Tryz.underlying181) (by kernel_rfl) rfl rfl rfl rfl, 
  ⟨tyok_mk (⟨_, Tryz.underlying182, trivial⟩) (by kernel_rfl) rfl rfl rfl rfl, 
  ⟨tyok_mk (⟨_, Tryz.underlying183, trivial⟩) (by kernel_rfl) rfl rfl rfl rfl, 
  ⟨tyok_mk (⟨_, Tryz.underlying184, rfl⟩) (by kernel_rfl) rfl rfl rfl rfl, 
  ⟨tyok_eq (tyok_mk (⟨_, Tryz.underlying185, rfl⟩) (by kernel_rfl) rfl rfl rfl rfl) Tryz.underlying185 (by kernel_rfl) (by kernel_rfl) (.bool (by decide) rfl ⟨.inl Tryz.underlying4, _, (tyok_mk (Tryz.underlying4) (by kernel_rfl) rfl rfl rfl rfl : TyOK Tryz.prog 4 ⟨.bool, 1, 1, [.bool false], false⟩), rfl⟩ Tryz.underlying4 (.int (by decide) rfl ⟨.inr ⟨_, Tryz.underlying3⟩, _, (tyok_mk (Tryz.underlying3) (by kernel_rfl) rfl rfl rfl rfl : TyOK Tryz.prog 3 ⟨.int .i64, 1, 8, [.int .i64 0], false⟩), rfl⟩ ⟨_, Tryz.underlying3⟩ (.nil))), 
  ⟨tyok_mk (⟨_, Tryz.underlying186, trivial⟩) (by kernel_rfl) rfl rfl rfl rfl, 
  ⟨tyok_mk (⟨_, Tryz.underlying188, trivial⟩) (by kernel_rfl) rfl rfl rfl rfl, 
  ⟨tyok_mk (⟨_, Tryz.underlying189, trivial⟩) (by kernel_rfl) rfl rfl rfl rfl, 
  ⟨tyok_mk (⟨_, Tryz.underlying190, trivial⟩) (by kernel_rfl) rfl rfl rfl rfl, 
  ⟨tyok_mk (⟨_, Tryz.underlying191, trivial⟩) (by kernel_rfl) rfl rfl rfl rfl, 
  ⟨tyok_mk (⟨_, Tryz.underlying192, trivial⟩) (by kernel_rfl) rfl rfl rfl rfl, 
  ⟨tyok_mk (⟨_, Tryz.underlying193, trivial⟩) (by kernel_rfl) rfl rfl rfl rfl, 
  ⟨tyok_mk (⟨_, Tryz.underlying194, trivial⟩) (by kernel_rfl) rfl rfl rfl rfl, 
  ⟨tyok_mk (⟨_, Tryz.underlying195, trivial⟩) (by kernel_rfl) rfl rfl rfl rfl, 
  ⟨tyok_mk (⟨_, Tryz.underlying196, trivial⟩) (by kernel_rfl) rfl rfl rfl rfl, 
  ⟨tyok_mk (⟨_, Tryz.underlying197, trivial⟩) (by kernel_rfl) rfl rfl rfl rfl, 
  ⟨tyok_mk (⟨_, Tryz.underlying198, trivial⟩) (by kernel_rfl) rfl rfl rfl rfl, 
  ⟨tyok_mk (⟨_, Tryz.underlying200, trivial⟩) (by kernel_rfl) rfl rfl rfl rfl, 
  ⟨tyok_mk (⟨_, Tryz.underlying201, trivial⟩) (by kernel_rfl) rfl rfl rfl rfl, 
  ⟨tyok_mk (⟨_, Tryz.underlying202, trivial⟩) (by kernel_rfl) rfl rfl rfl rfl, 
  ⟨tyok_mk (⟨_, Tryz.underlying203, trivial⟩) (by kernel_rfl) rfl rfl rfl rfl, 
  ⟨tyok_mk (⟨_, Tryz.underlying204, trivial⟩) (by kernel_rfl) rfl rfl rfl rfl, 
  ⟨tyok_mk (⟨_, Tryz.underlying205, trivial⟩) (by kernel_rfl) rfl rfl rfl rfl, 
  ⟨tyok_mk (⟨_, Tryz.underlying206, trivial⟩) (by kernel_rfl) rfl rfl rfl rfl, 
  ⟨tyok_mk (⟨_, Tryz.underlying207, trivial⟩) (by kernel_rfl) rfl rfl rfl rfl, 
  ⟨tyok_mk (⟨_, Tryz.underlying208, rfl⟩) (by kernel_rfl) rfl rfl rfl rfl, 
  ⟨tyok_mk (⟨_, Tryz.underlying209, rfl⟩) (by kernel_rfl) rfl rfl rfl rfl, 
  ⟨tyok_mk (⟨_, Tryz.underlying210, trivial⟩) (by kernel_rfl) rfl rfl rfl rfl, 
  ⟨tyok_mk (Tryz.underlying211) (by kernel_rfl) rfl rfl rfl rfl, 
  ⟨tyok_mk (⟨_, Tryz.underlying212, rfl⟩) (by kernel_rfl) rfl rfl rfl rfl, 
  ⟨tyok_mk (⟨_, Tryz.underlying213, rfl⟩) (by kernel_rfl) rfl rfl rfl rfl, 
  ⟨tyok_mk (⟨_, Tryz.underlying214, trivial⟩) (by kernel_rfl) rfl rfl rfl rfl, 
  ⟨tyok_mk (⟨_, Tryz.underlying215, trivial⟩) (by kernel_rfl) rfl rfl rfl rfl, 
  ⟨tyok_mk (⟨_, Tryz.underlying216, trivial⟩) (by kernel_rfl) rfl rfl rfl rfl, 
  ⟨tyok_mk (⟨_, Tryz.underlying217, rfl⟩) (by kernel_rfl) rfl rfl rfl rfl, 
  ⟨tyok_eq (tyok_mk (⟨_, Tryz.underlying218, rfl⟩) (by kernel_rfl) rfl rfl rfl rfl) Tryz.underlying218 (by kernel_rfl) (by kernel_rfl) (.int (by decide) rfl ⟨.inr ⟨_, Tryz.underlying3⟩, _, (tyok_mk (Tryz.underlying3) (by kernel_rfl) rfl rfl rfl rfl : TyOK Tryz.prog 3 ⟨.int .i64, 1, 8, [.int .i64 0], false⟩), rfl⟩ ⟨_, Tryz.underlying3⟩ (.int (by decide) rfl ⟨.inr ⟨_, Tryz.underlying3⟩, _, (tyok_mk (Tryz.underlying3) (by kernel_rfl) rfl rfl rfl rfl : TyOK Tryz.prog 3 ⟨.int .i64, 1, 8, [.int .i64 0], false⟩), rfl⟩ ⟨_, Tryz.underlying3⟩ (.nil))), 
  ⟨tyok_mk (⟨_, Tryz.underlying219, trivial⟩) (by kernel_rfl) rfl rfl rfl rfl, 
  ⟨tyok_mk (⟨_, Tryz.underlying220, trivial⟩) (by kernel_rfl) rfl rfl rfl rfl, 
  ⟨tyok_mk (⟨_, Tryz.underlying222, trivial⟩) (by kernel_rfl) rfl rfl rfl rfl, 
  ⟨tyok_eqA (tyok_mk (Tryz.underlying223) (by kernel_rfl) rfl rfl rfl rfl) Tryz.underlying223 (by kernel_rfl) ⟨.inr ⟨_, Tryz.underlying61⟩, _, (tyok_mk (Tryz.underlying61) (by kernel_rfl) rfl rfl rfl rfl : TyOK Tryz.prog 61 ⟨.int .u64, 1, 8, [.int .u64 0], false⟩), rfl⟩ Tryz.underlying61 (by kernel_rfl) rfl, 
  ⟨tyok_mk (⟨_, Tryz.underlying224, trivial⟩) (by kernel_rfl) rfl rfl rfl rfl, 
  ⟨tyok_mk (⟨_, Tryz.underlying225, trivial⟩) (by kernel_rfl) rfl rfl rfl rfl, 
  ⟨tyok_mk (⟨_, Tryz.underlying226, trivial⟩) (by kernel_rfl) rfl rfl rfl rfl, 
  ⟨tyok_mk (⟨_, Tryz.underlying227, trivial⟩) (by kernel_rfl) rfl rfl rfl rfl, 
  ⟨tyok_mk (⟨_, Tryz.underlying228, trivial⟩) (by kernel_rfl) rfl rfl rfl rfl, 
  ⟨tyok_mk (⟨_, Tryz.underlying230, trivial⟩) (by kernel_rfl) rfl rfl rfl rfl, 
  ⟨tyok_mk (⟨_, Tryz.underlying231, trivial⟩) (by kernel_rfl) rfl rfl rfl rfl, 
  ⟨tyok_mk (⟨_, Tryz.underlying232, rfl⟩) (by kernel_rfl) rfl rfl rfl rfl, 
  ⟨tyok_eq (tyok_mk (⟨_, Tryz.underlying233, rfl⟩) (by kernel_rfl) rfl rfl rfl rfl) Tryz.underlying233 (by kernel_rfl) (by kernel_rfl) (.int (by decide) rfl ⟨.inr ⟨_, Tryz.underlying3⟩, _, (tyok_mk (Tryz.underlying3) (by kernel_rfl) rfl rfl rfl rfl : TyOK Tryz.prog 3 ⟨.int .i64, 1, 8, [.int .i64 0], false⟩), rfl⟩ ⟨_, Tryz.underlying3⟩ (.int (by decide) rfl ⟨.inr ⟨_, Tryz.underlying3⟩, _, (tyok_mk (Tryz.underlying3) (by kernel_rfl) rfl rfl rfl rfl : TyOK Tryz.prog 3 ⟨.int .i64, 1, 8, [.int .i64 0], false⟩), rfl⟩ ⟨_, Tryz.underlying3⟩ (.nil))), 
  ⟨tyok_mk (⟨_, Tryz.underlying234, trivial⟩) (by kernel_rfl) rfl rfl rfl rfl, 
  ⟨tyok_mk (⟨_, Tryz.underlying235, trivial⟩) (by kernel_rfl) rfl rfl rfl rfl, 
  ⟨tyok_mk (⟨_, Tryz.underlying236, trivial⟩) (by kernel_rfl) rfl rfl rfl rfl, 
  ⟨tyok_mk (⟨_, Tryz.underlying237, trivial⟩) (by kernel_rfl) rfl rfl rfl rfl, 
  ⟨tyok_mk (⟨_, Tryz.underlying238, trivial⟩) (by kernel_rfl) rfl rfl rfl rfl, 
  ⟨tyok_mk (⟨_, Tryz.underlying239, trivial⟩) (by kernel_rfl) rfl rfl rfl rfl, 
  ⟨tyok_mk (⟨_, Tryz.underlying240, trivial⟩) (by kernel_rfl) rfl rfl rfl rfl, 
  ⟨tyok_mk (Tryz.underlying241) (by kernel_rfl) rfl rfl rfl rfl, 
  ⟨tyok_mk (⟨_, Tryz.underlying243, trivial⟩) (by kernel_rfl) rfl rfl rfl rfl, 
  ⟨tyok_mk (⟨_, Tryz.underlying244, trivial⟩) (by kernel_rfl) rfl rfl rfl rfl, 
  ⟨tyok_mk (⟨_, Tryz.underlying245, trivial⟩) (by kernel_rfl) rfl rfl rfl rfl, 
  ⟨tyok_mk (Tryz.underlying246) (by kernel_rfl) rfl rfl rfl rfl, 
  ⟨tyok_mk (⟨_, Tryz.underlying247, rfl⟩) (by kernel_rfl) rfl rfl rfl rfl, 
  ⟨tyok_mk (⟨_, Tryz.underlying248, rfl⟩) (by kernel_rfl) rfl rfl rfl rfl, 
  ⟨tyok_mk (⟨_, Tryz.underlying249, trivial⟩) (by kernel_rfl) rfl rfl rfl rfl, 
  ⟨tyok_mk (⟨_, Tryz.underlying250, trivial⟩) (by kernel_rfl) rfl rfl rfl rfl, 
  ⟨tyok_mk (⟨_, Tryz.underlying251, rfl⟩) (by kernel_rfl) rfl rfl rfl rfl, 
  ⟨tyok_mk (⟨_, Tryz.underlying252, rfl⟩) (by kernel_rfl) rfl rfl rfl rfl, 
  ⟨tyok_mk (⟨_, Tryz.underlying253, trivial⟩) (by kernel_rfl) rfl rfl rfl rfl, 
  ⟨tyok_mk (⟨_, Tryz.underlying254, trivial⟩) (by kernel_rfl) rfl rfl rfl rfl, 
  ⟨tyok_mk (⟨_, Tryz.underlying255, trivial⟩) (by kernel_rfl) rfl rfl rfl rfl, 
  ⟨tyok_mk (⟨_, Tryz.underlying256, trivial⟩) (by kernel_rfl) rfl rfl rfl rfl, 
  ⟨tyok_mk (⟨_, Tryz.underlying257, trivial⟩) (by kernel_rfl) rfl rfl rfl rfl, 
  ⟨tyok_mk (Tryz.underlying258) (by kernel_rfl) rfl rfl rfl rfl, 
  ⟨tyok_mk (Tryz.underlying259) (by kernel_rfl) rfl rfl rfl rfl, 
  ⟨tyok_mk (⟨_, Tryz.underlying260, rfl⟩) (by kernel_rfl) rfl rfl rfl rfl, 
  ⟨tyok_mk (⟨_, Tryz.underlying261, rfl⟩) (by kernel_rfl) rfl rfl rfl rfl, 
  ⟨tyok_mk (⟨_, Tryz.underlying263, trivial⟩) (by kernel_rfl) rfl rfl rfl rfl, 
  ⟨tyok_eqA (tyok_mk (Tryz.underlying264) (by kernel_rfl) rfl rfl rfl rfl) Tryz.underlying264 (by kernel_rfl) ⟨.inr ⟨_, Tryz.underlying3⟩, _, (tyok_mk (Tryz.underlying3) (by kernel_rfl) rfl rfl rfl rfl : TyOK Tryz.prog 3 ⟨.int .i64, 1, 8, [.int .i64 0], false⟩), rfl⟩ Tryz.underlying3 (by kernel_rfl) rfl, 
  ⟨tyok_eqA (tyok_mk (Tryz.underlying266) (by kernel_rfl) rfl rfl rfl rfl) Tryz.underlying266 (by kernel_rfl) ⟨.inr ⟨_, Tryz.underlying3⟩, _, (tyok_mk (Tryz.underlying3) (by kernel_rfl) rfl rfl rfl rfl : TyOK Tryz.prog 3 ⟨.int .i64, 1, 8, [.int .i64 0], false⟩), rfl⟩ Tryz.underlying3 (by kernel_rfl) rfl, 
  ⟨tyok_mk (⟨_, Tryz.underlying267, trivial⟩) (by kernel_rfl) rfl rfl rfl rfl, 
  ⟨tyok_mk (⟨_, Tryz.underlying268, trivial⟩) (by kernel_rfl) rfl rfl rfl rfl, 
  ⟨tyok_mk (⟨_, Tryz.underlying269, rfl⟩) (by kernel_rfl) rfl rfl rfl rfl, 
  ⟨tyok_eq (tyok_mk (⟨_, Tryz.underlying270, rfl⟩) (by kernel_rfl) rfl rfl rfl rfl) Tryz.underlying270 (by kernel_rfl) (by kernel_rfl) (.int (by decide) rfl ⟨.inr ⟨_, Tryz.underlying3⟩, _, (tyok_mk (Tryz.underlying3) (by kernel_rfl) rfl rfl rfl rfl : TyOK Tryz.prog 3 ⟨.int .i64, 1, 8, [.int .i64 0], false⟩), rfl⟩ ⟨_, Tryz.underlying3⟩ (.int (by decide) rfl ⟨.inr ⟨_, Tryz.underlying3⟩, _, (tyok_mk (Tryz.underlying3) (by kernel_rfl) rfl rfl rfl rfl : TyOK Tryz.prog 3 ⟨.int .i64, 1, 8, [.int .i64 0], false⟩), rfl⟩ ⟨_, Tryz.underlying3⟩ (.nil))), 
  ⟨tyok_mk (⟨_, Tryz.underlying271, trivial⟩) (by kernel_rfl) rfl rfl rfl rfl, 
  ⟨tyok_mk (⟨_, Tryz.underlying272, trivial⟩) (by kernel_rfl) rfl rfl rfl rfl, 
  ⟨tyok_mk (⟨_, Tryz.underlying273, rfl⟩) (by kernel_rfl) rfl rfl rfl rfl, 
  ⟨tyok_mk (⟨_, Tryz.underlying274, rfl⟩) (by kernel_rfl) rfl rfl rfl rfl, 
  ⟨tyok_mk (⟨_, Tryz.underlying278, trivial⟩) (by kernel_rfl) rfl rfl rfl rfl, 
  ⟨tyok_mk (Tryz.underlying279) (by kernel_rfl) rfl rfl rfl rfl, 
  ⟨tyok_mk (Tryz.underlying280) (by kernel_rfl) rfl rfl rfl rfl, 
  ⟨tyok_mk (⟨_, Tryz.underlying281, trivial⟩) (by kernel_rfl) rfl rfl rfl rfl, 
  ⟨tyok_mk (⟨_, Tryz.underlying282, trivial⟩) (by kernel_rfl) rfl rfl rfl rfl, 
  ⟨tyok_mk (Tryz.underlying283) (by kernel_rfl) rfl rfl rfl rfl, 
  ⟨tyok_mk (Tryz.underlying284) (by kernel_rfl) rfl rfl rfl rfl, 
  ⟨tyok_mk (⟨_, Tryz.underlying285, rfl⟩) (by kernel_rfl) rfl rfl rfl rfl, 
  ⟨tyok_mk (⟨_, Tryz.underlying286, rfl⟩) (by kernel_rfl) rfl rfl rfl rfl, trivial⟩⟩⟩⟩⟩⟩⟩⟩⟩⟩⟩⟩⟩⟩⟩⟩⟩⟩⟩⟩⟩⟩⟩⟩⟩⟩⟩⟩⟩⟩⟩⟩⟩⟩⟩⟩⟩⟩⟩⟩⟩⟩⟩⟩⟩⟩⟩⟩⟩⟩⟩⟩⟩⟩⟩⟩⟩⟩⟩⟩⟩⟩⟩⟩⟩⟩⟩⟩⟩⟩⟩⟩⟩⟩⟩⟩⟩⟩⟩⟩⟩⟩⟩⟩⟩⟩⟩⟩⟩⟩⟩⟩⟩⟩⟩⟩⟩⟩⟩⟩⟩⟩⟩⟩⟩⟩⟩⟩⟩⟩⟩⟩⟩⟩⟩⟩⟩⟩⟩⟩⟩⟩⟩⟩⟩⟩⟩⟩⟩⟩⟩⟩⟩⟩⟩⟩⟩⟩⟩⟩⟩⟩⟩⟩⟩⟩⟩⟩⟩⟩⟩⟩⟩⟩⟩⟩⟩⟩⟩⟩⟩⟩⟩⟩⟩⟩⟩⟩⟩⟩⟩⟩⟩⟩⟩⟩⟩⟩⟩⟩⟩⟩⟩⟩⟩⟩⟩⟩⟩⟩⟩⟩⟩⟩⟩⟩⟩⟩⟩⟩⟩⟩⟩⟩⟩⟩⟩⟩⟩⟩⟩⟩⟩⟩⟩⟩⟩⟩⟩⟩⟩⟩⟩⟩⟩⟩⟩⟩⟩⟩⟩⟩⟩⟩⟩⟩⟩⟩⟩⟩⟩⟩⟩⟩⟩⟩⟩⟩⟩⟩⟩⟩⟩⟩⟩⟩⟩⟩)
end Go.Proofs.YtnilcfiemgmfdaaGreat

