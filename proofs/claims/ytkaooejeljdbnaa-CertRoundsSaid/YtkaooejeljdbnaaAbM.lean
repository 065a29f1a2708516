/- Each operation does to the machine what 'opSem' says: maps. -/
import Derived.Test.YtkaooejeljdbnaaAb14
import Derived.MapKept
import Derived.WideKeyRuns
namespace Go.Proofs.Ytkaooejeljdbnaa
open Go
set_option linter.unusedVariables false
set_option linter.unusedSimpArgs false

section
variable {P : Program} {Γ : Tab} {E : Env} {n : Nat} {s : Nat → AV} {L : Hd → Blk} {a : Act} {w : World} {F : Nat → Prop} {β : Hd → Option Nat × Nat} {K : AV → List (Hd × Blk) → Prop}
  {W : Operand → (AV → Prop) → Prop} {LK : Hd → (Blk → Prop) → Prop} {wr : FuncId → Bool} {base : Nat}

theorem mapK_ok (hΓ : GOK P Γ) {t : TypeId} {K : TypeId → TI → TypeId → TI → Prop} (h : mapK Γ t K) : ∃ k ki e ei, P.underlying t = some (.map k e) ∧ Γ k = some ki ∧ Γ e = some ei ∧ K k ki e ei := by
  unfold mapK at h
  split at h
  · rename_i i hi
    split at h
    · rename_i k e hd
      have hu := (hΓ t _ hi).desc
      rw [hd] at hu
      split at h
      · rename_i ki hk
        split at h
        · rename_i ei he
          exact ⟨k, ki, e, ei, hu, hk, he, h⟩
        · exact h.elim
      · exact h.elim
    · exact h.elim
  · exact h.elim

/-- A key's cells, kept in sight. -/
theorem keqL_ok {w FB} : ∀ {zs xs ys : List PV} {va vb : List Value}, sameK zs xs = true → sameK zs ys = true → va.length = xs.length → vb.length = ys.length →
    (∀ (i : Nat) c v, xs[i]? = some c → va[i]? = some v → PR w FB c v) → (∀ (i : Nat) c v, ys[i]? = some c → vb[i]? = some v → PR w FB c v) → EqV va vb (PV.keqL xs ys) := by
  intro zs
  induction zs with
  | nil =>
    intro xs ys va vb h1 h2 l1 l2 _ _
    cases xs with
    | cons x xs => cases x <;> cases h1
    | nil =>
      cases ys with
      | cons y ys => cases y <;> cases h2
      | nil =>
        cases va with
        | cons => simp at l1
        | nil => cases vb with
          | cons => simp at l2
          | nil => exact .nil
  | cons z zs ih =>
    intro xs ys va vb h1 h2 l1 l2 r1 r2
    cases xs with
    | nil => cases z <;> cases h1
    | cons x xs =>
    cases ys with
    | nil => cases z <;> cases h2
    | cons y ys =>
    cases va with
    | nil => simp at l1
    | cons u va =>
    cases vb with
    | nil => simp at l2
    | cons v vb =>
    have a0 := r1 0 x u rfl rfl
    have b0 := r2 0 y v rfl rfl
    have ih' := fun h1 h2 => ih (xs := xs) (ys := ys) (va := va) (vb := vb) h1 h2 (by simpa using l1) (by simpa using l2) (fun i c v e1 e2 => r1 (i + 1) c v (by simpa using e1) (by simpa using e2)) (fun i c v e1 e2 => r2 (i + 1) c v (by simpa using e1) (by simpa using e2))
    cases z with
    | int k n =>
      cases x with
      | int k1 n1 =>
        cases y with
        | int k2 n2 =>
          simp only [sameK, Bool.and_eq_true, decide_eq_true_eq] at h1 h2
          obtain ⟨rfl, h1⟩ := h1
          obtain ⟨rfl, h2⟩ := h2
          cases a0; cases b0
          simp only [PV.keqL, decide_true, Bool.true_and]
          exact .int (ih' h1 h2)
        | _ => cases h2
      | _ => cases h1
    | bool b =>
      cases x with
      | bool b1 =>
        cases y with
        | bool b2 =>
          cases a0; cases b0
          simp only [PV.keqL]
          exact .bool (ih' h1 h2)
        | _ => cases h2
      | _ => cases h1
    | _ => cases x <;> cases h1

theorem keqL_eq : ∀ {xs ys : List PV}, PV.keqL xs ys = true → xs = ys := by
  intro xs
  induction xs with
  | nil => intro ys h; cases ys with
    | nil => rfl
    | cons y ys => cases y <;> cases h
  | cons x xs ih =>
    intro ys h
    cases ys with
    | nil => cases x <;> cases h
    | cons y ys =>
      cases x with
      | int k a =>
        cases y with
        | int k' b =>
          simp only [PV.keqL, Bool.and_eq_true, decide_eq_true_eq, beq_iff_eq] at h
          obtain ⟨rfl, rfl, h⟩ := h
          rw [ih h]
        | _ => cases h
      | bool a =>
        cases y with
        | bool b =>
          simp only [PV.keqL, Bool.and_eq_true, beq_iff_eq] at h
          obtain ⟨rfl, h⟩ := h
          rw [ih h]
        | _ => cases h
      | _ => cases y <;> cases h
theorem keq_eq {p q : PV} (h : PV.keq p q = true) : p = q := by
  cases p <;> cases q <;> first | (cases h; done) | skip
  · simp only [PV.keq, Bool.and_eq_true, decide_eq_true_eq, beq_iff_eq] at h
    obtain ⟨rfl, rfl⟩ := h; rfl
  · rw [keqL_eq h]

theorem kindV_inj {zs : List PV} {xs : List PV} {va vb : List Value} {w FB w' FB'} (h : KindV zs va) (h' : va.length = xs.length) (h'' : vb.length = xs.length) (r1 : ∀ (i : Nat) c v, xs[i]? = some c → va[i]? = some v → PR w FB c v)
    (r2 : ∀ (i : Nat) c v, xs[i]? = some c → vb[i]? = some v → PR w' FB' c v) : va = vb := by
  apply List.ext_getElem (by omega)
  intro i i1 i2
  have e1 : va[i]? = some va[i] := List.getElem?_eq_getElem i1
  have e2 : vb[i]? = some vb[i] := List.getElem?_eq_getElem i2
  have e3 : xs[i]? = some xs[i] := List.getElem?_eq_getElem (by omega)
  have a := r1 i _ _ e3 e1
  have b := r2 i _ _ e3 e2
  have key : ∀ (zs : List PV) (va : List Value), KindV zs va → ∀ (i : Nat) v, va[i]? = some v → (∃ k n, v = .int k n) ∨ ∃ b, v = .bool b := by
    intro zs va h
    induction h with
    | nil => intro i v e; simp at e
    | int h ih => intro i v e; cases i with
      | zero => simp at e; exact .inl ⟨_, _, e.symm⟩
      | succ i => exact ih i v (by simpa using e)
    | bool h ih => intro i v e; cases i with
      | zero => simp at e; exact .inr ⟨_, e.symm⟩
      | succ i => exact ih i v (by simpa using e)
  rcases key zs va h i _ e1 with ⟨k, q, e⟩ | ⟨q, e⟩
  · rw [e] at a ⊢
    generalize xs[i] = p at a b
    generalize vb[i] = v at b
    cases a with
    | int => cases b; rfl
    | raw _ => cases b; rfl
  · rw [e] at a ⊢
    generalize xs[i] = p at a b
    generalize vb[i] = v at b
    cases a with
    | bool => cases b; rfl
    | raw _ => cases b; rfl

theorem sameBits_kind {zs : List PV} {va : List Value} (h : KindV zs va) (m : Nat) : ((va.zip va).all fun x => Instr.sameBits m x.1 x.2) = true := by
  induction h with
  | nil => rfl
  | int h ih => simp only [List.zip_cons_cons, List.all_cons, ih, Bool.and_true]; cases m <;> simp [Instr.sameBits]
  | bool h ih => simp only [List.zip_cons_cons, List.all_cons, ih, Bool.and_true]; cases m <;> simp [Instr.sameBits]

/-- What is known of a key. -/
structure KeyV (P : Program) (t : TypeId) (i : TI) (w : World) (FB : Bool → Nat → Prop) (p : PV) (v : Value) : Prop where
  b : i.keyB p = true
  r : PR w FB p v

section
variable {t : TypeId} {i : TI} {FB : Bool → Nat → Prop}

theorem KeyV.cases {p : PV} {v : Value} (h : KeyV P t i w FB p v) : (∃ k a, i.d = .int k ∧ p = .int k a ∧ v = .int k a) ∨
    ∃ xs vs, p = .agg xs ∧ v = .agg vs ∧ (∀ k, i.d ≠ .int k) ∧ i.eq = true ∧ i.d.agg = true ∧ sameK i.zero xs = true ∧ vs.size = xs.length ∧ ∀ (j : Nat) c u, xs[j]? = some c → vs[j]? = some u → PR w FB c u := by
  obtain ⟨hb, hr⟩ := h
  unfold TI.keyB at hb
  split at hb
  · rename_i k hd
    split at hb
    · rename_i k' a
      have : k = k' := by simpa using hb
      subst this
      cases hr
      exact .inl ⟨k, a, hd, rfl, rfl⟩
    · cases hb
  · rename_i hd
    split at hb
    · rename_i xs
      simp only [Bool.and_eq_true] at hb
      cases hr with | agg _ vs hone hl hr =>
      exact .inr ⟨xs, vs, rfl, rfl, hd, hb.1, hb.2.1, hb.2.2, hl, hr⟩
    · cases hb

theorem KeyV.check (hi : TyOK P t i) {p : PV} {v : Value} (h : KeyV P t i w FB p v) (b : Bool) : (Instr.checkKey b 10000 t v).run P w = .ok () w := by
  rcases h.cases with ⟨k, x, hd, rfl, rfl⟩ | ⟨xs, vs, rfl, rfl, hd, he, ha, hs, hl, hr⟩
  · have hu := hi.desc
    rw [hd] at hu
    have hu : P.underlying t = some (.int k) := hu
    show (Instr.checkKey b (9999 + 1) t (.int k x)).run P w = _
    unfold Instr.checkKey
    simp [run_underlying hu]
  · have := hi.keys he w b vs.toList (sameK_ok hs (by simpa using hl) fun j c u e1 e2 => hr j c u e1 (by simpa using e2))
    simpa using this

theorem KeyV.eq (hi : TyOK P t i) {p q : PV} {v u : Value} (h : KeyV P t i w FB p v) (h' : KeyV P t i w FB q u) : (PV.keq p q = true → p = q ∧ v = u) ∧
    ((∃ k, P.underlying t = some (.int k) ∧ Instr.sameNow (.int k) v u = some (PV.keq p q)) ∨
     ((match P.underlying t with | some (.array _ _) | some (.struct _) => true | _ => false) = true ∧ (Op.equal t v u).run P w = .ok (PV.keq p q) w)) := by
  rcases h.cases with ⟨k, x, hd, rfl, rfl⟩ | ⟨xs, vs, rfl, rfl, hd, he, ha, hs, hl, hr⟩
  · rcases h'.cases with ⟨k', y, hd', rfl, rfl⟩ | ⟨ys, us, _, _, hd', _⟩
    · rw [hd] at hd'; cases hd'
      refine ⟨fun e => ?_, .inl ⟨k, by have := hi.desc; rw [hd] at this; exact this, by simp [Instr.sameNow, PV.keq]⟩⟩
      have := keq_eq e
      cases this; exact ⟨rfl, rfl⟩
    · exact (hd' k hd).elim
  · rcases h'.cases with ⟨k', y, hd', _⟩ | ⟨ys, us, rfl, rfl, hd', _, _, hs', hl', hr'⟩
    · exact (hd k' hd').elim
    · have kv := sameK_ok hs (va := vs.toList) (by simpa using hl) fun j c u e1 e2 => hr j c u e1 (by simpa using e2)
      refine ⟨fun e => ?_, .inr ⟨?_, ?_⟩⟩
      · have e2 := keqL_eq (xs := xs) (ys := ys) e
        subst e2
        have := kindV_inj (xs := xs) (vb := us.toList) kv (by simpa using hl) (by simpa using hl') (fun j c u e1 e2 => hr j c u e1 (by simpa using e2)) (fun j c u e1 e2 => hr' j c u e1 (by simpa using e2))
        refine ⟨rfl, ?_⟩
        rw [Array.toList_inj.1 this]
      · have := hi.desc
        cases hdd : i.d with
        | struct fs => rw [hdd] at this; obtain ⟨f, h1, _⟩ := this; rw [h1]
        | array n e => rw [hdd] at this; rw [show P.underlying t = some (.array n e) from this]
        | _ => rw [hdd] at ha; cases ha
      · have := (hi.eqs he).2 w vs.toList us.toList _ (keqL_ok (xs := xs) (ys := ys) hs hs' (by simpa using hl) (by simpa using hl') (fun j c u e1 e2 => hr j c u e1 (by simpa using e2)) (fun j c u e1 e2 => hr' j c u e1 (by simpa using e2))) kv
        simpa [PV.keq] using this

theorem KeyV.stays {p : PV} {v : Value} (h : KeyV P t i w FB p v) : (Instr.keyThatStays v v).run P w = .ok v w := by
  have : Instr.sameBits 10000 v v = true := by
    rcases h.cases with ⟨k, x, hd, rfl, rfl⟩ | ⟨xs, vs, rfl, rfl, hd, he, ha, hs, hl, hr⟩
    · simp [Instr.sameBits]
    · have kv := sameK_ok hs (va := vs.toList) (by simpa using hl) fun j c u e1 e2 => hr j c u e1 (by simpa using e2)
      show Instr.sameBits (9999 + 1) (.agg vs) (.agg vs) = true
      simp only [Instr.sameBits, beq_self_eq_true, Bool.true_and]
      exact sameBits_kind kv 9999
  simp [Instr.keyThatStays, this]

/-- The entry with a key is found. -/
theorem findKey_ok (hi : TyOK P t i) {p : PV} {v : Value} (h : KeyV P t i w FB p v) : ∀ (es : List (PV × PV)) (en : List MapEntry) (hl : en.length = es.length) (hk : ∀ (j : Nat) x e, es[j]? = some x → en[j]? = some e → KeyV P t i w FB x.1 e.key),
    (∀ (j : Nat) x e, es[j]? = some x → en[j]? = some e → PV.keq p x.1 = true → (∀ j' x', j' < j → es[j']? = some x' → PV.keq p x'.1 = false) → (Instr.findKey t v en).run P w = .ok (some (j, e.val)) w) ∧
    ((∀ x ∈ es, PV.keq p x.1 = false) → (Instr.findKey t v en).run P w = .ok none w) := by
  -- step by step, from place o on
  have now : ∀ k, (∀ q u, KeyV P t i w FB q u → Instr.sameNow (.int k) v u = some (PV.keq p q)) → ∀ (es : List (PV × PV)) (en : List MapEntry) (o : Nat) (hl : en.length = es.length) (hk : ∀ (j : Nat) x e, es[j]? = some x → en[j]? = some e → KeyV P t i w FB x.1 e.key),
      (∀ (j : Nat) x e, es[j]? = some x → en[j]? = some e → PV.keq p x.1 = true → (∀ j' x', j' < j → es[j']? = some x' → PV.keq p x'.1 = false) → Instr.findNow (.int k) v en o = some (some (o + j, e.val))) ∧
      ((∀ x ∈ es, PV.keq p x.1 = false) → Instr.findNow (.int k) v en o = some none) := by
    intro k hs es
    induction es with
    | nil => intro en o hl hk; cases en with
      | nil => exact ⟨fun j x e h1 => by simp at h1, fun _ => rfl⟩
      | cons => simp at hl
    | cons x es ih =>
      intro en o hl hk
      cases en with
      | nil => simp at hl
      | cons e en =>
        obtain ⟨i1, i2⟩ := ih en (o + 1) (by simpa using hl) fun j x e h1 h2 => hk (j + 1) x e (by simpa using h1) (by simpa using h2)
        have h0 := hs _ _ (hk 0 x e rfl rfl)
        refine ⟨fun j x' e' h1 h2 h3 h4 => ?_, fun h1 => ?_⟩
        · cases j with
          | zero => simp at h1 h2; subst h1; subst h2; simp [Instr.findNow, h0, h3]
          | succ j =>
            have hf := h4 0 x (by omega) rfl
            have := i1 j x' e' (by simpa using h1) (by simpa using h2) h3 fun j' y hj hy => h4 (j' + 1) y (by omega) (by simpa using hy)
            simp only [Instr.findNow, h0, hf, this]
            congr 3; omega
        · simp only [Instr.findNow, h0, h1 x (by simp)]
          exact i2 fun y hy => h1 y (by simp [hy])
  have ask : (∀ q u, KeyV P t i w FB q u → (Op.equal t v u).run P w = .ok (PV.keq p q) w) → ∀ (es : List (PV × PV)) (en : List MapEntry) (o : Nat) (hl : en.length = es.length) (hk : ∀ (j : Nat) x e, es[j]? = some x → en[j]? = some e → KeyV P t i w FB x.1 e.key),
      (∀ (j : Nat) x e, es[j]? = some x → en[j]? = some e → PV.keq p x.1 = true → (∀ j' x', j' < j → es[j']? = some x' → PV.keq p x'.1 = false) → (Instr.findAsking t v en o).run P w = .ok (some (o + j, e.val)) w) ∧
      ((∀ x ∈ es, PV.keq p x.1 = false) → (Instr.findAsking t v en o).run P w = .ok none w) := by
    intro hs es
    induction es with
    | nil => intro en o hl hk; cases en with
      | nil => exact ⟨fun j x e h1 => by simp at h1, fun _ => by simp [Instr.findAsking]⟩
      | cons => simp at hl
    | cons x es ih =>
      intro en o hl hk
      cases en with
      | nil => simp at hl
      | cons e en =>
        obtain ⟨i1, i2⟩ := ih en (o + 1) (by simpa using hl) fun j x e h1 h2 => hk (j + 1) x e (by simpa using h1) (by simpa using h2)
        have h0 := hs _ _ (hk 0 x e rfl rfl)
        refine ⟨fun j x' e' h1 h2 h3 h4 => ?_, fun h1 => ?_⟩
        · cases j with
          | zero => simp at h1 h2; subst h1; subst h2; simp [Instr.findAsking, h0, h3]
          | succ j =>
            have hf := h4 0 x (by omega) rfl
            have := i1 j x' e' (by simpa using h1) (by simpa using h2) h3 fun j' y hj hy => h4 (j' + 1) y (by omega) (by simpa using hy)
            rw [show o + (j + 1) = o + 1 + j by omega]
            simp [Instr.findAsking, h0, hf, this]
        · have := i2 fun y hy => h1 y (by simp [hy])
          simp [Instr.findAsking, h0, h1 x (by simp), this]
  intro es en hl hk
  rcases (h.eq hi h).2 with ⟨k, hu, _⟩ | ⟨hw, _⟩
  · have hs : ∀ q u, KeyV P t i w FB q u → Instr.sameNow (.int k) v u = some (PV.keq p q) := fun q u hq => by
      rcases (h.eq hi hq).2 with ⟨k', hu', e⟩ | ⟨hw, _⟩
      · rw [hu] at hu'; cases hu'; exact e
      · rw [hu] at hw; cases hw
    obtain ⟨n1, n2⟩ := now k hs es en 0 hl hk
    refine ⟨fun j x e h1 h2 h3 h4 => ?_, fun h1 => ?_⟩
    · have := n1 j x e h1 h2 h3 h4
      rw [Nat.zero_add] at this
      exact MapKept.run_findKey hu this
    · exact MapKept.run_findKey hu (n2 h1)
  · have hs : ∀ q u, KeyV P t i w FB q u → (Op.equal t v u).run P w = .ok (PV.keq p q) w := fun q u hq => by
      rcases (h.eq hi hq).2 with ⟨k', hu', e⟩ | ⟨_, e⟩
      · rw [hu'] at hw; cases hw
      · exact e
    obtain ⟨n1, n2⟩ := ask hs es en 0 hl hk
    rw [run_findKey_eq w hw]
    refine ⟨fun j x e h1 h2 h3 h4 => ?_, n2⟩
    have := n1 j x e h1 h2 h3 h4
    rw [Nat.zero_add] at this
    exact this
end

theorem out_makeMap (hΓ : GOK P Γ) (h : StI E n s L a w F β) (hf : ∀ v ups, K v ups → ∀ x ∈ ups, base ≤ x.1.key → FreeAt L x.1.key) {t : TypeId} (hk : opSem Γ P wr W LK L base (.makeMap t none) K) : Out P E n s L a K ((Instr.makeMap t none).run P w) := by
  simp only [opSem] at hk
  obtain ⟨_, _, _, _, _, _, _, hk⟩ := mapK_ok hΓ hk
  have hfree : L base = .free := (hf _ _ hk (base, .map []) (by simp) (Nat.le_refl _)).1
  have hr : (Instr.makeMap t none).run P w = .ok (.map (some w.heap.size)) (w.alloc (.map #[] 0)) := by
    have hn : (newObj (.map #[] 0)).run P w = .ok w.heap.size (w.alloc (.map #[] 0)) := rfl
    simp [Instr.makeMap, hn]
  rw [hr]
  have hst := h.alloc (w' := w.alloc (.map #[] 0)) (.map #[] 0) (.map []) base 0 rfl rfl rfl rfl hfree ⟨w.heap.size, #[], 0, by rw [upd_same], push_new w _, rfl, fun i x e e1 => by simp at e1, fun i e e1 => by simp at e1, fun i j e e' e1 => by simp at e1⟩ trivial (fun j hj => hj.elim)
  refine ⟨.map base, _, F, _, hk, hst, .map (by rw [upd_same]), fun k hk => ?_⟩
  obtain rfl : (base : Hd) = k := hk
  show upd L base _ base ≠ _
  rw [upd_same]; exact fun e => by cases e

/-- A map's entries, and where they lie. -/
theorem entriesK_ok (hL : ∀ h K, LK h K → K (L h)) (h : StI E n s L a w F β) {v : AV} {x : Value} (hx : VR w (FBof E.Bor F) β v x) {K' : List (PV × PV) → Prop} (hk : entriesK LK v K') :
    ∃ es b en clock, K' es ∧ x = .map (some b) ∧ w.heap[b]? = some (.map en clock) ∧ en.size = es.length ∧ (∀ (i : Nat) (x : PV × PV) (e : MapEntry), es[i]? = some x → en[i]? = some e → PR w (FBof E.Bor F) x.1 e.key ∧ PR w (FBof E.Bor F) x.2 e.val) := by
  unfold entriesK at hk
  split at hk
  · rename_i hd
    have hk := hL hd _ hk
    have hb := h.blks hd
    generalize hB : L hd = B at hk hb
    split at hk
    · rename_i es
      obtain ⟨b, en, clock, h1, h2, h3, h4, h5, h6⟩ := hb
      cases hx with | map hb' =>
      rw [h1] at hb'; cases hb'
      exact ⟨es, b, en, clock, hk, rfl, h2, h3, h4⟩
    · exact hk.elim
  · rename_i m es
    cases hx with | p hx =>
    cases hx with | mp _ _ b clock en hb hm hl hk' hv hbo hd =>
    exact ⟨es, b, en, clock, hk, rfl, hm, hl, fun i x e e1 e2 => ⟨hk' i x e e1 e2, hv i x e e1 e2⟩⟩
  · exact hk.elim

theorem zeroV_ok (hΓ : GOK P Γ) {e : TypeId} {i : TI} (hi : Γ e = some i) {K' : PV → Prop} (hk : zeroK i K') : ∃ z zv, K' z ∧ (∀ w, (zeroValue e).run P w = .ok zv w) ∧ ∀ w FB, PR w FB z zv := by
  obtain ⟨info, zv, h1, h2, h3, h4, h5, h6, h7⟩ := (hΓ e i hi).info
  have hz : ∀ w, (zeroValue e).run P w = .ok zv w := fun w => by simp [zeroValue, typeInfo, h1, h4]
  have hza := (hΓ e i hi).zagg info zv h1 h4
  unfold zeroK at hk
  split at hk
  · rename_i ha
    obtain ⟨arr, rfl⟩ := hza.1 ha
    refine ⟨_, _, hk, hz, fun w FB => .agg _ _ (hΓ e i hi).plain (by rw [h6]; exact h5) fun j c v e1 e2 => h7 w FB j c v e1 e2⟩
  · rename_i ha
    split at hk
    · rename_i z hz'
      refine ⟨z, zv, hk, hz, fun w FB => h7 w FB 0 z zv (by rw [hz']; rfl) (by rw [hza.2 ha]; rfl)⟩
    · exact hk.elim

theorem out_lookup (hΓ : GOK P Γ) (hW : ∀ x K, W x K → K (rho s x)) (hL : ∀ h K, LK h K → K (L h)) (h : StI E n s L a w F β) {t : TypeId} {x y : Operand} {ok : Bool} (hk : opSem Γ P wr W LK L base (.lookup t x y ok) K) :
    Out P E n s L a K ((Instr.lookup t (a.eval x) (a.eval y) ok).run P w) := by
  simp only [opSem] at hk
  have hx := h.ev x
  have hy := h.ev y
  have hk := hW y _ (hW x _ hk)
  generalize rho s x = vx at hk hx
  generalize rho s y = vy at hk hy
  generalize a.eval x = ax at hx
  generalize a.eval y = ay at hy
  obtain ⟨kt, ki, et, ei, hu, hki, hei, hk⟩ := mapK_ok hΓ hk
  obtain ⟨key, hk, hp⟩ := asP_ok hk
  have hkey := hp _ _ _ _ hy
  obtain ⟨hkb, hk⟩ := cond_not hk
  obtain ⟨es, b, en, clock, hk, rfl, hb, hl, hr⟩ := entriesK_ok hL h hx hk
  obtain ⟨hks, hk⟩ := hk
  have kv : KeyV P kt ki w (FBof E.Bor F) key ay := ⟨hkb, hkey⟩
  have hkv : ∀ (j : Nat) x e, es[j]? = some x → en.toList[j]? = some e → KeyV P kt ki w (FBof E.Bor F) x.1 e.key := fun j x e e1 e2 => ⟨hks x (List.mem_of_getElem? e1), (hr j x e e1 (by simpa using e2)).1⟩
  obtain ⟨f1, f2⟩ := findKey_ok (hΓ kt ki hki) kv es en.toList (by simpa using hl) hkv
  have hck := kv.check (hΓ kt ki hki) en.isEmpty
  have hget := MapKept.run_getObj_map (P := P) hb
  cases hk with
  | yes i e h1 he hf hk =>
    have hi : i < en.size := by rw [hl]; exact (List.getElem?_eq_some_iff.1 h1).1
    have h2 : en.toList[i]? = some en[i] := by simp [hi]
    have hfi := f1 i e _ h1 h2 he hf
    have hval := (hr i e en[i] h1 (by simp [hi])).2
    cases ok with
    | true =>
      have : (Instr.lookup t (.map (some b)) ay true).run P w = .ok (.tuple #[en[i].val, .bool true]) w := by
        simp [Instr.lookup, run_underlying hu, hget, hck, hfi]
      rw [this]
      refine .same h hk (.tup _ _ rfl fun j c v e1 e2 => ?_) fun k hk => ?_
      · match j, e1, e2 with
        | 0, e1, e2 => cases e1; cases e2; exact .p hval
        | 1, e1, e2 => cases e1; cases e2; exact .tf true
      · simp only [AV.men, AV.menL, or_self] at hk
    | false =>
      have : (Instr.lookup t (.map (some b)) ay false).run P w = .ok en[i].val w := by
        simp [Instr.lookup, run_underlying hu, hget, hck, hfi]
      rw [this]
      exact .same h hk (.p hval) fun k hk => by simp only [AV.men] at hk
  | no h1 hk =>
    have hfi := f2 h1
    obtain ⟨z, zv, hk, hz, hzr⟩ := zeroV_ok hΓ hei hk
    cases ok with
    | true =>
      have : (Instr.lookup t (.map (some b)) ay true).run P w = .ok (.tuple #[zv, .bool false]) w := by
        simp [Instr.lookup, run_underlying hu, hget, hck, hfi, hz]
      rw [this]
      refine .same h hk (.tup _ _ rfl fun j c v e1 e2 => ?_) fun k hk => ?_
      · match j, e1, e2 with
        | 0, e1, e2 => cases e1; cases e2; exact .p (hzr _ _)
        | 1, e1, e2 => cases e1; cases e2; exact .tf false
      · simp only [AV.men, AV.menL, or_self] at hk
    | false =>
      have : (Instr.lookup t (.map (some b)) ay false).run P w = .ok zv w := by
        simp [Instr.lookup, run_underlying hu, hget, hck, hfi, hz]
      rw [this]
      exact .same h hk (.p (hzr _ _)) fun k hk => by simp only [AV.men] at hk

theorem out_update (hΓ : GOK P Γ) (hL : ∀ h K, LK h K → K (L h)) (h : StI E n s L a w F β) {t : TypeId} {vm vk vx : AV} {am ak ax : Value} (hm : VR w (FBof E.Bor F) β vm am) (hkk : VR w (FBof E.Bor F) β vk ak) (hx : VR w (FBof E.Bor F) β vx ax)
    (hk : updateK Γ LK t vm vk vx K) : ∃ w', (Instr.mapUpdate t am ak ax).run P w = .ok () w' ∧ Out P E n s L a K (.ok Go.undef w') := by
  unfold updateK at hk
  obtain ⟨kt, ki, et, ei, hu, hki, hei, hk⟩ := mapK_ok hΓ hk
  obtain ⟨key, hk, hp⟩ := asP_ok hk
  have hkey := hp _ _ _ _ hkk
  obtain ⟨val, hk, hp'⟩ := asP_ok hk
  have hval := hp' _ _ _ _ hx
  obtain ⟨hkb, hk⟩ := cond_not hk
  split at hk
  · rename_i hd _ _ _ _
    have hk := hL hd _ hk
    have hb := h.blks hd
    have hlv0 : ∀ es, L hd = .map es → (L hd).live := fun es e => by rw [e]; trivial
    generalize hB : L hd = B at hk hb
    split at hk
    · rename_i es
      have hlv := hlv0 es hB
      obtain ⟨b, en, clock, h1, h2, h3, h4, h5, h6⟩ := hb
      cases hm with | map hb' =>
      rw [h1] at hb'; cases hb'
      obtain ⟨hks, hk⟩ := hk
      have kv : KeyV P kt ki w (FBof E.Bor F) key ak := ⟨hkb, hkey⟩
      have hkv : ∀ (j : Nat) x e, es[j]? = some x → en.toList[j]? = some e → KeyV P kt ki w (FBof E.Bor F) x.1 e.key := fun j x e e1 e2 => ⟨hks x (List.mem_of_getElem? e1), (h4 j x e e1 (by simpa using e2)).1⟩
      obtain ⟨f1, f2⟩ := findKey_ok (hΓ kt ki hki) kv es en.toList (by simpa using h3) hkv
      have hck := kv.check (hΓ kt ki hki) false
      have hget := MapKept.run_getObj_map (P := P) h2
      have own := h.own hd b hlv h1
      -- the block, written
      have fin : ∀ (en' : Array MapEntry) (clock' : Nat) (es' : List (PV × PV)), K .undef [(hd, .map es')] → en'.size = es'.length → (∀ (i : Nat) (x : PV × PV) (e : MapEntry), es'[i]? = some x → en'[i]? = some e → PR w (FBof E.Bor F) x.1 e.key ∧ PR w (FBof E.Bor F) x.2 e.val) →
          (∀ (i : Nat) (e : MapEntry), en'[i]? = some e → e.born < clock') → (∀ (i j : Nat) (e e' : MapEntry), en'[i]? = some e → en'[j]? = some e' → e.born = e'.born → i = j) →
          Out P E n s L a K (.ok Go.undef { w with heap := w.heap.setIfInBounds b (.map en' clock') }) := by
        intro en' clock' es' hk q1 q2 q3 q4
        have hh : ∀ b', b' ≠ b → (w.heap.setIfInBounds b (.map en' clock'))[b']? = w.heap[b']? := (MapKept.heap_set h2).2
        have up : ∀ {p : PV} {x : Value}, PR w (FBof E.Bor F) p x → PR { w with heap := w.heap.setIfInBounds b (.map en' clock') } (FBof E.Bor F) p x := fun hp => hp.mono (fun _ _ => id) fun m b' hb' => hh b' (by
          intro e; subst e
          cases m
          · exact own.1 hb'
          · exact own.2.1 (h.bor _ hb'))
        refine ⟨.undef, _, F, β, hk, ?_, .undef, fun k hk => by simp only [AV.men] at hk⟩
        exact h.write (.map es') hd rfl rfl rfl (by simp) h1 hh hlv ⟨b, en', clock', h1, (MapKept.heap_set h2).1, q1, fun i x e e1 e2 => ⟨up (q2 i x e e1 e2).1, up (q2 i x e e1 e2).2⟩, q3, q4⟩ trivial (fun j hj => hj.elim)
      cases hk with
      | old i e es' g1 ge gf gs hk =>
        subst gs
        have hi : i < en.size := by rw [h3]; exact (List.getElem?_eq_some_iff.1 g1).1
        have g2 : en.toList[i]? = some en[i] := by simp [hi]
        have g2' : en[i]? = some en[i] := by simp [hi]
        have hfi := f1 i e _ g1 g2 ge gf
        have hee := (kv.eq (hΓ kt ki hki) (hkv i e _ g1 g2)).1 ge
        have hst := kv.stays
        have hr : (Instr.mapUpdate t (.map (some b)) ak ax).run P w = .ok () { w with heap := w.heap.setIfInBounds b (.map (en.modify i fun e => { e with key := ak, val := ax }) clock) } := by
          simp [Instr.mapUpdate, run_underlying hu, hget, hck, hfi, g2', ← hee.2, hst, MapKept.run_setObj_map _ h2]
        refine ⟨_, hr, fin _ _ _ hk (by simp [h3]) (fun j x e' e1 e2 => ?_) (fun j e' e1 => ?_) (fun j j' e1 e2 q1 q2 q3 => ?_)⟩
        · rw [Array.getElem?_modify] at e2
          by_cases hij : i = j
          · subst hij
            rw [if_pos rfl, g2'] at e2
            rw [List.getElem?_set_self (by rw [← h3]; exact hi)] at e1
            cases e1; cases e2
            exact ⟨hkey, hval⟩
          · rw [if_neg hij] at e2
            rw [List.getElem?_set_ne hij] at e1
            exact h4 j x e' e1 e2
        · rw [Array.getElem?_modify] at e1
          split at e1
          · rename_i hij; subst hij; rw [g2'] at e1; cases e1; exact h5 i en[i] g2'
          · exact h5 j e' e1
        · have born : ∀ (j : Nat) e', (en.modify i fun e => { e with key := ak, val := ax })[j]? = some e' → ∃ e'', en[j]? = some e'' ∧ e''.born = e'.born := by
            intro j e' hj
            rw [Array.getElem?_modify] at hj
            split at hj
            · rename_i hij; subst hij; rw [g2'] at hj; cases hj; exact ⟨_, g2', rfl⟩
            · exact ⟨_, hj, rfl⟩
          obtain ⟨x1, y1, z1⟩ := born j e1 q1
          obtain ⟨x2, y2, z2⟩ := born j' e2 q2
          exact h6 j j' x1 x2 y1 y2 (by rw [z1, z2]; exact q3)
      | new es' g1 gs hk =>
        subst gs
        have hfi := f2 g1
        have hr : (Instr.mapUpdate t (.map (some b)) ak ax).run P w = .ok () { w with heap := w.heap.setIfInBounds b (.map (en.push { key := ak, val := ax, born := clock }) (clock + 1)) } := by
          simp [Instr.mapUpdate, run_underlying hu, hget, hck, hfi, MapKept.run_setObj_map _ h2]
        have get : ∀ (j : Nat) e', (en.push { key := ak, val := ax, born := clock })[j]? = some e' → (j < en.size ∧ en[j]? = some e') ∨ (j = en.size ∧ e' = { key := ak, val := ax, born := clock }) := by
          intro j e' hj
          rw [Array.getElem?_push] at hj
          split at hj
          · rename_i hij; cases hj; exact .inr ⟨hij, rfl⟩
          · have := (Array.getElem?_eq_some_iff.1 hj).1; exact .inl ⟨this, hj⟩
        refine ⟨_, hr, fin _ _ _ hk (by simp [h3]) (fun j x e' e1 e2 => ?_) (fun j e' e1 => ?_) (fun j j' e1 e2 q1 q2 q3 => ?_)⟩
        · rcases get j e' e2 with ⟨hj, e2⟩ | ⟨hj, rfl⟩
          · rw [List.getElem?_append_left (by omega)] at e1
            exact h4 j x e' e1 e2
          · rw [List.getElem?_append_right (by omega)] at e1
            have : j - es.length = 0 := by omega
            rw [this] at e1
            cases e1
            exact ⟨hkey, hval⟩
        · rcases get j e' e1 with ⟨hj, e1⟩ | ⟨hj, rfl⟩
          · have := h5 j e' e1; omega
          · show clock < clock + 1; omega
        · rcases get j e1 q1 with ⟨hj, q1⟩ | ⟨hj, rfl⟩ <;> rcases get j' e2 q2 with ⟨hj', q2⟩ | ⟨hj', rfl⟩
          · exact h6 j j' e1 e2 q1 q2 q3
          · have := h5 j e1 q1; simp at q3; omega
          · have := h5 j' e2 q2; simp at q3; omega
          · omega
    · exact hk.elim
  · exact hk.elim

theorem out_range (hΓ : GOK P Γ) (h : StI E n s L a w F β) (hf : ∀ v ups, K v ups → ∀ x ∈ ups, base ≤ x.1.key → FreeAt L x.1.key) {t : TypeId} {v : AV} {x : Value} (hx : VR w (FBof E.Bor F) β v x) (hk : rangeOf Γ base t v K) :
    Out P E n s L a K ((Instr.range t x).run P w) := by
  unfold rangeOf at hk
  obtain ⟨kt, ki, et, ei, hu, hki, hei, hk⟩ := mapK_ok hΓ hk
  split at hk
  · rename_i m es _
    cases hx with | p hx =>
    cases hx with | mp _ _ b clock en hb hm hl hk' hv hbo hd =>
    have hfree : L base = .free := (hf _ _ hk (base, .iter m es []) (by simp) (Nat.le_refl _)).1
    have hget := MapKept.run_getObj_map (P := P) hm
    have hr : (Instr.range t (.map (some b))).run P w = .ok (.pointer (some ⟨w.heap.size, 0, none⟩)) (w.alloc (.mapIter (some b) clock #[] clock)) := by
      have hn : (newObj (.mapIter (some b) clock #[] clock)).run P w = .ok w.heap.size (w.alloc (.mapIter (some b) clock #[] clock)) := rfl
      simp [Instr.range, run_underlying hu, hget, hn]
    rw [hr]
    have hold : ∀ m b, FBof E.Bor F m b → (w.alloc (.mapIter (some b) clock #[] clock)).heap[b]? = w.heap[b]? := fun m b hb => push_old w _ (h.fblt m b hb)
    have hst := h.alloc (w' := w.alloc (.mapIter (some b) clock #[] clock)) (.mapIter (some b) clock #[] clock) (.iter m es []) base 0 rfl rfl rfl rfl hfree ⟨w.heap.size, b, en, clock, #[], by rw [upd_same], push_new w _, hb, by rw [push_old w _ (h.fblt m b hb)]; exact hm, hl,
      fun i x e e1 e2 => ⟨h.pr_alloc _ (hk' i x e e1 e2), h.pr_alloc _ (hv i x e e1 e2)⟩, hbo, hd, fun i e e1 => by simp⟩ trivial (fun j hj => hj.elim)
    refine ⟨.bptr base 0, _, F, _, hk, hst, .bptr (by rw [upd_same]), fun k hk => ?_⟩
    obtain rfl : (base : Hd) = k := hk
    show upd L base _ base ≠ _
    rw [upd_same]; exact fun e => by cases e
  · exact hk.elim

theorem run_choose_next (P : Program) (w : World) (n : Nat) (hn : 0 < n) : ∃ r w1, (choose (.mapNext n)).run P w = .ok r w1 ∧ r < n ∧ w1.heap = w.heap ∧ w1.os = w.os ∧ w1.tape = w.tape ∧ w1.output = w.output := by
  by_cases h : n ≤ 1
  · exact ⟨0, w, by simp [choose, Sem.run, Question.forced, h], hn, rfl, rfl, rfl, rfl⟩
  · exact ⟨w.tape w.drawn (.mapNext n) % n, { w with drawn := w.drawn + 1 }, by simp [choose, Sem.run, Question.forced, Question.cut, h], Nat.mod_lt _ hn, rfl, rfl, rfl, rfl⟩

theorem out_next (hL : ∀ h K, LK h K → K (L h)) (h : StI E n s L a w F β) {v : AV} {x : Value} (hx : VR w (FBof E.Bor F) β v x) (hk : nextK LK v K) (ty : TypeId) :
    ∃ y w', (Instr.next x false ty).run P w = .ok y w' ∧ Out P E n s L a K (.ok y w') := by
  unfold nextK at hk
  split at hk
  · rename_i hd
    have hk := hL hd _ hk
    have hb := h.blks hd
    have hlv0 : ∀ m es seen, L hd = .iter m es seen → (L hd).live := fun _ _ _ e => by rw [e]; trivial
    generalize hB : L hd = B at hk hb
    split at hk
    · rename_i m es seen
      have hlv := hlv0 _ _ _ hB
      obtain ⟨b, mb, en, clock, sb, h1, h2, h3, h4, h5, h6, h7, h8, h9⟩ := hb
      cases hx with | bptr hb' =>
      rw [h1] at hb'; cases hb'
      have own := h.own hd b hlv h1
      have hgi : (getObj b).run P w = .ok (.mapIter (some mb) clock sb clock) w := by simp [getObj, Sem.run, h2]
      have hgm := MapKept.run_getObj_map (P := P) h4
      have hall : ∀ e ∈ en.toList, e.born < clock := fun e he => by
        obtain ⟨i, hi⟩ := List.getElem?_of_mem he
        exact h7 i e (by simpa using hi)
      have hold : (en.filter fun e => !sb.contains e.born).filter (fun e => decide (e.born < clock)) = en.filter fun e => !sb.contains e.born := by
        rw [Array.filter_eq_self]
        intro e he
        have := Array.mem_filter.1 he
        exact decide_eq_true (hall e (Array.mem_toList_iff.2 this.1))
      have hnew : (en.filter fun e => !sb.contains e.born).filter (fun e => decide (e.born ≥ clock)) = #[] := by
        rw [Array.filter_eq_empty_iff]
        intro e he
        have := Array.mem_filter.1 he
        have := hall e (Array.mem_toList_iff.2 this.1)
        simp; omega
      have hno : (!sb.isEmpty && !en.isEmpty && en.all fun e => decide (e.born ≥ clock)) = false := by
        cases he : en.isEmpty with
        | true => simp
        | false =>
          have : en.all (fun e => decide (e.born ≥ clock)) = false := by
            rw [Bool.eq_false_iff]
            intro hall'
            have h0 : 0 < en.size := by
              rw [Nat.pos_iff_ne_zero]; intro e0
              rw [Array.isEmpty_iff_size_eq_zero.2 e0] at he; cases he
            have := Array.all_eq_true.1 hall' 0 h0
            have hb := h7 0 en[0] (by simp [h0])
            simp at this; omega
          simp [this]
      obtain ⟨hnx, hend⟩ := hk
      generalize hleft : (en.filter fun e => !sb.contains e.born) = left at hold hnew
      have hmem : ∀ e ∈ left.toList, ∃ i, en[i]? = some e ∧ i ∉ seen := fun e he => by
        rw [← hleft] at he
        obtain ⟨hm, hs⟩ := Array.mem_filter.1 (Array.mem_toList_iff.1 he)
        obtain ⟨i, hi⟩ := List.getElem?_of_mem (Array.mem_toList_iff.2 hm)
        have hi : en[i]? = some e := by simpa using hi
        refine ⟨i, hi, fun hsn => ?_⟩
        rw [(h9 i e hi).2 hsn] at hs
        cases hs
      have hcand : 0 < ((if left.isEmpty then #[none] else #[]) ++ (left ++ #[]).map some).size := by
        cases he : left.isEmpty with
        | true => simp; omega
        | false =>
          have : 0 < left.size := by
            rw [Nat.pos_iff_ne_zero]; intro e0
            rw [Array.isEmpty_iff_size_eq_zero.2 e0] at he; cases he
          simp; omega
      obtain ⟨r, w1, hr, hrl, e1, e2, e3, e4⟩ := run_choose_next P w _ hcand
      cases he : left.isEmpty with
      | true =>
        have hl0 : left = #[] := Array.isEmpty_iff.1 he
        subst hl0
        have hr0 : r = 0 := by simp at hrl; omega
        subst hr0
        have hrun : (Instr.next (.pointer (some ⟨b, 0, none⟩)) false ty).run P w = .ok (.tuple #[.bool false]) w1 := by
          simp only [Instr.next, Sem.run_bind, hgi, Result.andThen_ok, hgm, hno, Bool.false_eq_true, if_false, hleft, hold, hnew]
          simp at hr
          simp [hr]
        refine ⟨_, _, hrun, .tup [.tf false], [], F, β, hend fun i hi => ?_, h.still e2 e3 e4 e1, .tup _ _ rfl fun j c v q1 q2 => ?_, fun k hk => by simp only [AV.men, AV.menL, or_self] at hk⟩
        · apply Classical.byContradiction
          intro hns
          have hien : i < en.size := by omega
          have hie : en[i]? = some en[i] := by simp [hien]
          have hc : sb.contains en[i].born = false := by
            rw [Bool.eq_false_iff]; intro hc; exact hns ((h9 i _ hie).1 hc)
          have : en[i] ∈ (en.filter fun e => !sb.contains e.born) := Array.mem_filter.2 ⟨Array.getElem_mem hien, by rw [hc]; rfl⟩
          rw [hleft] at this
          simp at this
        · match j, q1, q2 with
          | 0, q1, q2 => cases q1; cases q2; exact .tf false
      | false =>
        have hsz : r < left.size := by simpa [he] using hrl
        obtain ⟨i, hi, his⟩ := hmem left[r] (by simp [Array.mem_toList_iff])
        have hies : i < es.length := by rw [← h5]; exact (Array.getElem?_eq_some_iff.1 hi).1
        have hie : es[i]? = some es[i] := List.getElem?_eq_getElem hies
        let o' : Obj := .mapIter (some mb) clock (sb.push left[r].born) clock
        have hset : (setObj b o').run P w1 = .ok () { w1 with heap := w1.heap.setIfInBounds b o' } := by simp [setObj, Sem.run, e1, h2]
        have hrun : (Instr.next (.pointer (some ⟨b, 0, none⟩)) false ty).run P w = .ok (.tuple #[.bool true, left[r].key, left[r].val]) { w1 with heap := w1.heap.setIfInBounds b o' } := by
          simp only [Instr.next, Sem.run_bind, hgi, Result.andThen_ok, hgm, hno, Bool.false_eq_true, if_false, hleft, hold, hnew]
          rw [he] at hr
          simp at hr
          simp [he, hr, hsz, hset, o'] at hset ⊢
        have hblt : b < w.heap.size := (Array.getElem?_eq_some_iff.1 h2).1
        have hh : ∀ b', b' ≠ b → (w1.heap.setIfInBounds b o')[b']? = w.heap[b']? := fun b' hne => by rw [e1]; simp [Ne.symm hne]
        have hsame : (w1.heap.setIfInBounds b o')[b]? = some o' := by rw [e1]; simp [hblt]
        have hne : ∀ m b', FBof E.Bor F m b' → b' ≠ b := fun m b' hb' => by
          intro e; subst e
          cases m
          · exact own.1 hb'
          · exact own.2.1 (h.bor _ hb')
        have up : ∀ {p : PV} {x : Value}, PR w (FBof E.Bor F) p x → PR { w1 with heap := w1.heap.setIfInBounds b o' } (FBof E.Bor F) p x := fun hp => hp.mono (fun _ _ => id) fun m b' hb' => hh b' (hne m b' hb')
        have hpr := h6 i es[i] left[r] hie hi
        have hst := h.write (w' := { w1 with heap := w1.heap.setIfInBounds b o' }) (.iter m es (seen ++ [i])) hd e2 e3 e4 (by simp [e1]) h1 hh hlv ⟨b, mb, en, clock, sb.push left[r].born, h1, hsame, h3, by rw [show ({ w1 with heap := w1.heap.setIfInBounds b o' } : World).heap[mb]? = w.heap[mb]? from hh mb (hne m mb h3)]; exact h4, h5,
          fun i x e q1 q2 => ⟨up (h6 i x e q1 q2).1, up (h6 i x e q1 q2).2⟩, h7, h8, fun j e q => by
            rw [Array.contains_push, Bool.or_eq_true, h9 j e q, List.mem_append, List.mem_singleton]
            refine or_congr Iff.rfl ⟨fun hb => ?_, fun hb => ?_⟩
            · exact h8 j i e left[r] q hi (by simpa using hb)
            · subst hb; rw [hi] at q; cases q; simp⟩ trivial (fun j hj => hj.elim)
        refine ⟨_, _, hrun, _, _, F, β, hnx i es[i] hie his, hst, .tup _ _ rfl fun j c v q1 q2 => ?_, fun k hk => by simp only [AV.men, AV.menL, or_self] at hk⟩
        match j, q1, q2 with
        | 0, q1, q2 => cases q1; cases q2; exact .tf true
        | 1, q1, q2 => cases q1; cases q2; exact .p (up hpr.1)
        | 2, q1, q2 => cases q1; cases q2; exact .p (up hpr.2)
    · exact hk.elim
  · exact hk.elim
end
end Go.Proofs.Ytkaooejeljdbnaa
