/- Structs of whole numbers and bools, held against each other. -/
import Derived.Laws.StructEq
import Derived.ChangeKeysEq
import Derived.Test.YtkaooejeljdbnaaTy
namespace Go.Proofs.Ytkaooejeljdbnaa
open Go
set_option linter.unusedVariables false

/-- A type of one cell: a bool, a whole number. -/
structure PrimT (P : Program) (t : TypeId) : Prop where
  u : P.underlying t = some .bool ∨ ∃ k, P.underlying t = some (.int k)
  ok : ∃ i, TyOK P t i ∧ i.d.agg = false

theorem PrimT.part {P : Program} {t : TypeId} (h : PrimT P t) {xs : Array Value} {o : Nat} {v : Value} (hv : xs[o]? = some v) (w : World) : (part t xs o).run P w = .ok v w := by
  obtain ⟨i, hi, ha⟩ := h.ok
  have hlt := (Array.getElem?_eq_some_iff.1 hv).1
  have hG : GOK P (fun s => cond (Nat.beq s t) (some i) none) := fun s j hs => by
    cases e : Nat.beq s t with
    | false => simp only [e] at hs; cases hs
    | true =>
      simp only [e] at hs
      cases hs
      rw [Nat.eq_of_beq_eq_true e]; exact hi
  have := run_part (t := t) hG (i := i) (by simp) xs o w (by rw [ha]; simp; omega)
  rw [this, ha]
  simp only [Bool.false_eq_true, if_false]
  rw [Array.getD_eq_getD_getElem?, hv]; rfl
theorem PrimT.eqInt {P : Program} {t : TypeId} (h : PrimT P t) {k : IntKind} {a b : Int} (w : World) (hk : ∃ k, P.underlying t = some (.int k)) (d : Nat) : (Op.equalIn (d + 1) t (.int k a) (.int k b)).run P w = .ok (a == b) w := by
  obtain ⟨k', hu⟩ := hk
  simp [Op.equalIn, run_underlying hu]
theorem PrimT.eqBool {P : Program} {t : TypeId} (h : PrimT P t) {a b : Bool} (w : World) (hk : P.underlying t = some .bool) (d : Nat) : (Op.equalIn (d + 1) t (.bool a) (.bool b)).run P w = .ok (a == b) w := by
  simp [Op.equalIn, run_underlying hk]

/-- Each field is one cell, of the kind of the zero value's cell. -/
inductive FitZ (P : Program) : Nat → List Field → List PV → Prop where
  | nil {o} : FitZ P o [] []
  | int {o f fs k z zs} (hn : f.name ≠ "_") (ho : f.offset = o) (hp : PrimT P f.type) (hk : ∃ k, P.underlying f.type = some (.int k)) (h : FitZ P (o + 1) fs zs) : FitZ P o (f :: fs) (.int k z :: zs)
  | bool {o f fs z zs} (hn : f.name ≠ "_") (ho : f.offset = o) (hp : PrimT P f.type) (hk : P.underlying f.type = some .bool) (h : FitZ P (o + 1) fs zs) : FitZ P o (f :: fs) (.bool z :: zs)

theorem eqFields_ok {P : Program} {w : World} {d : Nat} {xs ys : Array Value} {o : Nat} {fs : List Field} {zs : List PV} (hf : FitZ P o fs zs) : ∀ {l1 l2 : List Value} {r : Bool}, EqV l1 l2 r → KindV zs l1 →
    (∀ i v, l1[i]? = some v → xs[o + i]? = some v) → (∀ i v, l2[i]? = some v → ys[o + i]? = some v) → (Op.eqFields (d + 1) xs ys fs).run P w = .ok r w := by
  induction hf with
  | nil => intro l1 l2 r h hk _ _; cases hk; cases h; simp [Op.eqFields]
  | @int o f fs k z zs hn ho hp hu _ ih =>
    intro l1 l2 r h hk h1 h2
    cases hk with | @int _ _ a _ _ hk =>
    cases h with | @int _ _ b _ _ _ h =>
    have a1 := hp.part (h1 0 _ rfl) w
    have a2 := hp.part (h2 0 _ rfl) w
    rw [Nat.add_zero, ← ho] at a1 a2
    have a3 := fun a b => hp.eqInt (k := k) (a := a) (b := b) w hu d
    have a4 := ih h hk (fun i v e => by rw [show o + 1 + i = o + (i + 1) by omega]; exact h1 (i + 1) v (by simpa using e)) (fun i v e => by rw [show o + 1 + i = o + (i + 1) by omega]; exact h2 (i + 1) v (by simpa using e))
    rw [Op.eqFields, if_pos hn]
    simp only [Sem.run_bind, a1, a2, a3, Result.andThen_ok]
    cases hb : (a == b) <;> simp [a4]
  | @bool o f fs z zs hn ho hp hu _ ih =>
    intro l1 l2 r h hk h1 h2
    cases hk with | @bool _ a _ _ hk =>
    cases h with | @bool _ b _ _ _ h =>
    have a1 := hp.part (h1 0 _ rfl) w
    have a2 := hp.part (h2 0 _ rfl) w
    rw [Nat.add_zero, ← ho] at a1 a2
    have a3 := fun a b => hp.eqBool (a := a) (b := b) w hu d
    have a4 := ih h hk (fun i v e => by rw [show o + 1 + i = o + (i + 1) by omega]; exact h1 (i + 1) v (by simpa using e)) (fun i v e => by rw [show o + 1 + i = o + (i + 1) by omega]; exact h2 (i + 1) v (by simpa using e))
    rw [Op.eqFields, if_pos hn]
    simp only [Sem.run_bind, a1, a2, a3, Result.andThen_ok]
    cases hb : (a == b) <;> simp [a4]

theorem checkPrim {P : Program} {t : TypeId} (hp : PrimT P t) {v : Value} (hv : (∃ k n, v = .int k n) ∨ ∃ b, v = .bool b) (b : Bool) (d : Nat) (w : World) : (Instr.checkKey b (d + 1) t v).run P w = .ok () w := by
  unfold Instr.checkKey
  rcases hp.u with hu | ⟨k, hu⟩ <;> rcases hv with ⟨k', n, rfl⟩ | ⟨b', rfl⟩ <;> simp [run_underlying hu]
theorem kindV_prim {zs : List PV} {l : List Value} (h : KindV zs l) : ∀ (i : Nat) v, l[i]? = some v → (∃ k n, v = .int k n) ∨ ∃ b, v = .bool b := by
  induction h with
  | nil => intro i v e; simp at e
  | int h ih => intro i v e; cases i with
    | zero => simp at e; exact .inl ⟨_, _, e.symm⟩
    | succ i => exact ih i v (by simpa using e)
  | bool h ih => intro i v e; cases i with
    | zero => simp at e; exact .inr ⟨_, e.symm⟩
    | succ i => exact ih i v (by simpa using e)
theorem FitZ.prim {P : Program} {o : Nat} {fs : List Field} {zs : List PV} (hf : FitZ P o fs zs) : zs.length = fs.length ∧ ∀ (i : Nat) f, fs[i]? = some f → f.name ≠ "_" ∧ f.offset = o + i ∧ PrimT P f.type := by
  induction hf with
  | nil => exact ⟨rfl, fun i f e => by simp at e⟩
  | int hn ho hp hk _ ih =>
    refine ⟨by simp [ih.1], fun i f e => ?_⟩
    cases i with
    | zero => simp at e; subst e; exact ⟨hn, by omega, hp⟩
    | succ i => have := ih.2 i f (by simpa using e); exact ⟨this.1, by rw [this.2.1]; omega, this.2.2⟩
  | bool hn ho hp hk _ ih =>
    refine ⟨by simp [ih.1], fun i f e => ?_⟩
    cases i with
    | zero => simp at e; subst e; exact ⟨hn, by omega, hp⟩
    | succ i => have := ih.2 i f (by simpa using e); exact ⟨this.1, by rw [this.2.1]; omega, this.2.2⟩

theorem KindV.len {zs : List PV} {l : List Value} (h : KindV zs l) : l.length = zs.length := by
  induction h with
  | nil => rfl
  | int _ ih => simp [ih]
  | bool _ ih => simp [ih]
theorem tyok_eq {P : Program} {t : TypeId} {i : TI} (h : TyOK P t { i with eq := false }) {fs : Array Field} (hu : P.underlying t = some (.struct fs)) (hp : P.stoodInHeld t = false) (hg : P.eqGuardType P.depth t = false) (hf : FitZ P 0 fs.toList i.zero) : TyOK P t i := by
  refine ⟨h.desc, h.info, h.plain, fun _ => ⟨hg, fun w xs ys r he hk => ?_⟩, fun _ w b xs hk => ?_, h.zagg, h.zrow⟩
  rotate_left
  · show (Instr.checkKey b (9999 + 1) t (.agg xs.toArray)).run P w = .ok () w
    rw [Instr.checkKey]
    simp only [Sem.run_bind, run_underlying hu, Result.andThen_ok]
    rw [← Array.forIn_toList]
    obtain ⟨hzl, hfs⟩ := hf.prim
    have hxl : xs.length = fs.toList.length := by rw [hk.len, hzl]
    have each : ∀ f ∈ fs.toList, f.name ≠ "_" ∧ ∃ v, (part f.type xs.toArray f.offset).run P w = .ok v w ∧ (Instr.checkKey b (9998 + 1) f.type v).run P w = .ok () w := fun f hm => by
      obtain ⟨i, hi⟩ := List.getElem?_of_mem hm
      obtain ⟨h1, h2, h3⟩ := hfs i f hi
      have hil : i < xs.length := by rw [hxl]; exact (List.getElem?_eq_some_iff.1 hi).1
      have hx : xs[i]? = some xs[i] := List.getElem?_eq_getElem hil
      exact ⟨h1, xs[i], h3.part (by rw [h2, Nat.zero_add]; simp) w, checkPrim h3 (kindV_prim hk i _ hx) b 9998 w⟩
    generalize fs.toList = L at each
    induction L with
    | nil => simp
    | cons f L ih =>
      obtain ⟨hn, v, p1, p2⟩ := each f (by simp)
      simp only [List.forIn_cons, Sem.run_bind, hn, ne_eq, not_false_eq_true, if_true, Result.andThen_ok, p1, p2, Sem.run_pure]
      exact ih (fun y hy => each y (by simp [hy]))
  have hfs : P.fieldsOf t = fs := by simp [Program.fieldsOf, hu]
  show (Op.equalIn (9998 + 1 + 1) t (.agg xs.toArray) (.agg ys.toArray)).run P w = .ok r w
  rw [run_equalIn_struct (P := P) w (9998 + 1) t _ _ (by rw [hfs]; exact hu) hp, hfs]
  exact eqFields_ok hf he hk (fun i v e => by simpa using e) (fun i v e => by simpa using e)

/-! #### arrays of whole numbers -/
theorem eqItems_ok {P : Program} {w : World} {d : Nat} {e : TypeId} {k : IntKind} (hp : PrimT P e) (hu : P.underlying e = some (.int k)) (hc : P.cellsOf e = 1) {xs ys : Array Value} : ∀ (m o : Nat) {l1 l2 : List Value} {r : Bool}, EqV l1 l2 r → KindV (List.replicate m (.int k 0)) l1 →
    (∀ i v, l1[i]? = some v → xs[o + i]? = some v) → (∀ i v, l2[i]? = some v → ys[o + i]? = some v) → (Op.eqItems (d + 1) e (P.cellsOf e) xs ys (List.range' o m)).run P w = .ok r w := by
  intro m
  induction m with
  | zero => intro o l1 l2 r h hk _ _; cases hk; cases h; simp [Op.eqItems]
  | succ m ih =>
    intro o l1 l2 r h hk h1 h2
    rw [List.replicate_succ] at hk
    cases hk with | @int _ _ a _ _ hk =>
    cases h with | @int _ _ b _ _ _ h =>
    have a1 := hp.part (h1 0 _ rfl) w
    have a2 := hp.part (h2 0 _ rfl) w
    rw [Nat.add_zero] at a1 a2
    have a3 := fun a b => hp.eqInt (k := k) (a := a) (b := b) w ⟨k, hu⟩ d
    have a4 := ih (o + 1) h hk (fun i v e => by rw [show o + 1 + i = o + (i + 1) by omega]; exact h1 (i + 1) v (by simpa using e)) (fun i v e => by rw [show o + 1 + i = o + (i + 1) by omega]; exact h2 (i + 1) v (by simpa using e))
    rw [List.range'_succ]
    simp only [hc] at a4
    simp only [Op.eqItems, Sem.run_bind, hc, Nat.mul_one, a1, a2, a3, Result.andThen_ok]
    cases hb : (a == b) <;> simp [a4]

theorem tyok_eqA {P : Program} {t : TypeId} {i : TI} (h : TyOK P t { i with eq := false }) {e : TypeId} {n : Nat} {k : IntKind} (hu : P.underlying t = some (.array n e)) (hg : P.eqGuardType P.depth t = false) (hp : PrimT P e) (he : P.underlying e = some (.int k)) (hc : P.cellsOf e = 1) (hz : i.zero = List.replicate n (.int k 0)) : TyOK P t i := by
  obtain ⟨i', hi', _⟩ := hp.ok
  obtain ⟨info, z, hi, _⟩ := hi'.info
  refine ⟨h.desc, h.info, h.plain, fun _ => ⟨hg, fun w xs ys r hxy hk => ?_⟩, fun _ w b xs hk => ?_, h.zagg, h.zrow⟩
  rotate_left
  · show (Instr.checkKey b (9999 + 1) t (.agg xs.toArray)).run P w = .ok () w
    rw [Instr.checkKey]
    simp only [Sem.run_bind, run_underlying hu, Result.andThen_ok]
    simp only [Std.Legacy.Range.forIn_eq_forIn_range', Std.Legacy.Range.size, Nat.sub_zero, Nat.add_one_sub_one, Nat.div_one]
    have hxl : xs.length = n := by rw [hk.len, hz]; simp
    have hsz : (sizeOf e).run P w = .ok 1 w := by
      have hcells : info.size = 1 := by
        have := hc
        simp only [Program.cellsOf, hi] at this
        simpa using this
      simp [sizeOf, typeInfo, hi, hcells]
    have each : ∀ j ∈ List.range' 0 n, ∃ v, (part e xs.toArray (j * 1)).run P w = .ok v w ∧ (Instr.checkKey b (9998 + 1) e v).run P w = .ok () w := fun j hj => by
      have hj' : j < xs.length := by rw [hxl]; simpa using hj
      have hx : xs[j]? = some xs[j] := List.getElem?_eq_getElem hj'
      exact ⟨xs[j], hp.part (by rw [Nat.mul_one]; simp) w, checkPrim hp (kindV_prim hk j _ hx) b 9998 w⟩
    generalize List.range' 0 n = L at each
    induction L with
    | nil => simp
    | cons j L ih =>
      obtain ⟨v, p1, p2⟩ := each j (by simp)
      simp only [List.forIn_cons, Sem.run_bind, hsz, Result.andThen_ok, p1, p2, Sem.run_pure]
      exact ih (fun y hy => each y (by simp [hy]))
  show (Op.equalIn (9998 + 1 + 1) t (.agg xs.toArray) (.agg ys.toArray)).run P w = .ok r w
  rw [run_equalIn_array (P := P) (w := w) (9998 + 1) _ _ hu hi, List.range_eq_range']
  rw [hz] at hk
  exact eqItems_ok hp he hc n 0 hxy hk (fun i v e => by simpa using e) (fun i v e => by simpa using e)
end Go.Proofs.Ytkaooejeljdbnaa
