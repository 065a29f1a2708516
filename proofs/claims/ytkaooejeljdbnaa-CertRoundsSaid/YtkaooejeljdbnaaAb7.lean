/- Each operation does to the machine what 'opSem' says (fifth part). -/
import Derived.Test.YtkaooejeljdbnaaAb6
namespace Go.Proofs.Ytkaooejeljdbnaa
open Go
set_option linter.unusedVariables false
set_option linter.unusedSimpArgs false

section
variable {P : Program} {Γ : Tab} {E : Env} {n : Nat} {s : Nat → AV} {L : Hd → Blk} {a : Act} {w : World} {F : Nat → Prop} {β : Hd → Option Nat × Nat} {K : AV → List (Hd × Blk) → Prop}
  {W : Operand → (AV → Prop) → Prop} {LK : Hd → (Blk → Prop) → Prop} {wr : FuncId → Bool} {base : Nat}

theorem out_wrap (h : StI E n s L a w F β) {k : IntKind} {e : Int} (hk : SWrap k e fun z => K (.p (.int k z)) []) : Out P E n s L a K (.ok (.int k (k.wrap e)) w) := by
  cases hk with | mk z hz hk => rw [hz]; exact .int h hk

theorem out_intOp (h : StI E n s L a w F β) {t : TypeId} {op : BinOp} {k : IntKind} {x y : Int} (hk : intOp op k x y K) :
    Out P E n s L a K ((binOp op t (.int k x) (.int k y)).run P w) := by
  cases op <;> simp only [intOp] at hk
  case add => simpa [binOp, Op.intArith] using out_wrap h hk
  case sub => simpa [binOp, Op.intArith] using out_wrap h hk
  case mul => simpa [binOp, Op.intArith] using out_wrap h hk
  case quo => cases hk with | mk h0 hk => simpa [binOp, Op.intDiv, h0] using out_wrap h hk
  case rem => cases hk with | mk h0 hk => cases hk with | mk z hz hk => simpa [binOp, Op.intDiv, h0, hz] using Out.int h hk
  case and => simpa [binOp, Op.intBits] using out_wrap h hk
  case or => simpa [binOp, Op.intBits] using out_wrap h hk
  case xor => simpa [binOp, Op.intBits] using out_wrap h hk
  case andNot => simpa [binOp, Op.intBits] using out_wrap h hk
  all_goals (simp only [binOp, ne_eq, not_true_eq_false, if_false, Op.intCmp]; exact Out.bool h hk)

theorem eqCells_ok {w FB} : ∀ {xs ys : List PV} {K' : Bool → Prop} {va vb : List Value}, eqCells xs ys K' → va.length = xs.length → vb.length = ys.length →
    (∀ (i : Nat) c v, xs[i]? = some c → va[i]? = some v → PR w FB c v) → (∀ (i : Nat) c v, ys[i]? = some c → vb[i]? = some v → PR w FB c v) → ∃ r, K' r ∧ EqV va vb r := by
  intro xs
  induction xs with
  | nil =>
    intro ys K' va vb hk h1 h2 _ _
    cases ys with
    | nil =>
      have e1 : va = [] := List.length_eq_zero_iff.1 (by simpa using h1)
      have e2 : vb = [] := List.length_eq_zero_iff.1 (by simpa using h2)
      subst e1; subst e2
      exact ⟨true, hk, .nil⟩
    | cons y ys => simp only [eqCells] at hk
  | cons x xs ih =>
    intro ys K' va vb hk h1 h2 g1 g2
    cases ys with
    | nil => cases x <;> simp only [eqCells] at hk
    | cons y ys =>
      cases va with
      | nil => simp at h1
      | cons a va =>
        cases vb with
        | nil => simp at h2
        | cons b vb =>
          have ha := g1 0 x a rfl rfl
          have hb := g2 0 y b rfl rfl
          have r1 : ∀ (i : Nat) c v, xs[i]? = some c → va[i]? = some v → PR w FB c v := fun i c v e1 e2 => g1 (i + 1) c v (by simpa using e1) (by simpa using e2)
          have r2 : ∀ (i : Nat) c v, ys[i]? = some c → vb[i]? = some v → PR w FB c v := fun i c v e1 e2 => g2 (i + 1) c v (by simpa using e1) (by simpa using e2)
          cases x with
          | int k p =>
            cases y with
            | int k' q =>
              simp only [eqCells] at hk
              split at hk
              · subst_vars
                cases ha; cases hb
                obtain ⟨r, hr, he⟩ := ih hk (by simpa using h1) (by simpa using h2) r1 r2
                exact ⟨_, hr, .int he⟩
              · exact hk.elim
            | _ => simp only [eqCells] at hk
          | bool p =>
            cases y with
            | bool q =>
              simp only [eqCells] at hk
              cases ha; cases hb
              obtain ⟨r, hr, he⟩ := ih hk (by simpa using h1) (by simpa using h2) r1 r2
              exact ⟨_, hr, .bool he⟩
            | _ => simp only [eqCells] at hk
          | _ => cases y <;> simp only [eqCells] at hk

theorem sameK_ok {w FB} : ∀ {zs xs : List PV} {va : List Value}, sameK zs xs = true → va.length = xs.length → (∀ (i : Nat) c v, xs[i]? = some c → va[i]? = some v → PR w FB c v) → KindV zs va := by
  intro zs
  induction zs with
  | nil =>
    intro xs va h hl hr
    cases xs with
    | nil => cases va with
      | nil => exact .nil
      | cons => simp at hl
    | cons x xs => cases x <;> cases h
  | cons z zs ih =>
    intro xs va h hl hr
    cases xs with
    | nil => cases z <;> cases h
    | cons x xs =>
      cases va with
      | nil => simp at hl
      | cons v va =>
        have h0 := hr 0 x v rfl rfl
        have hr' : ∀ (i : Nat) c v, xs[i]? = some c → va[i]? = some v → PR w FB c v := fun i c v' e1 e2 => hr (i + 1) c v' (by simpa using e1) (by simpa using e2)
        have hl' : va.length = xs.length := by simpa using hl
        cases z with
        | int k n =>
          cases x with
          | int k' n' =>
            simp only [sameK, Bool.and_eq_true, decide_eq_true_eq] at h
            obtain ⟨rfl, h⟩ := h
            cases h0
            exact .int (ih h hl' hr')
          | _ => cases h
        | bool b =>
          cases x with
          | bool b' =>
            cases h0
            exact .bool (ih h hl' hr')
          | _ => cases h
        | _ => cases x <;> cases h
theorem EqV.len {xs ys : List Value} {r : Bool} (h : EqV xs ys r) : xs.length = ys.length := by induction h <;> simp [*]

theorem guard_int {op : BinOp} {t : TypeId} {x y : Operand} {k k' : IntKind} {a b : Int} : (eqGuard op t x y (.int k a) (.int k' b)).run P w = .ok () w := by
  unfold eqGuard; cases op <;> simp
theorem guard_bool {op : BinOp} {t : TypeId} {x y : Operand} {a b : Bool} : (eqGuard op t x y (.bool a) (.bool b)).run P w = .ok () w := by
  unfold eqGuard; cases op <;> simp

theorem run_eq_bool {t : TypeId} (hu : P.underlying t = some .bool) (x y : Bool) (w : World) : (Op.equal t (.bool x) (.bool y)).run P w = .ok (x == y) w := by
  have key : ∀ d, (Op.equalIn (d + 1) t (.bool x) (.bool y)).run P w = .ok (x == y) w := fun d => by simp [Op.equalIn, run_underlying hu]
  exact key 9999

theorem Sem.run_seq {α β : Type} (x : Sem α) (f : α → Sem β) (P : Program) (w w' : World) (v : α) (h : x.run P w = .ok v w') : (x >>= f).run P w = (f v).run P w' := by
  simp [h]

theorem out_intBin (h : StI E n s L a w F β) {op : BinOp} {t : TypeId} {x y : Operand} {k k' : IntKind} {p q : Int} (hk : intBin op k p k' q K) :
    Out P E n s L a K ((do eqGuard op t x y (.int k p) (.int k' q); binOp op t (.int k p) (.int k' q) : Sem Value).run P w) := by
  rw [Sem.run_seq _ _ _ _ _ _ guard_int]
  have other : (if k = k' then intOp op k p q K else False) → Out P E n s L a K ((binOp op t (.int k p) (.int k' q)).run P w) := by
    intro hk
    split at hk
    · subst_vars; exact out_intOp h hk
    · exact hk.elim
  cases op
  case shl => obtain ⟨h0, hk⟩ := hk; simpa [binOp, Op.shift, Int.not_lt.2 h0] using out_wrap h hk
  case shr => obtain ⟨h0, ⟨z, hz, hk⟩⟩ := hk; simpa [binOp, Op.shift, Int.not_lt.2 h0, hz] using Out.int h hk
  all_goals exact other hk

theorem out_aggBin (hΓ : GOK P Γ) (h : StI E n s L a w F β) {op : BinOp} {t : TypeId} {x y : Operand} {i : TI} (hi : Γ t = some i) {xs ys : List PV} {ax ay : Value} (hx : PR w (FBof E.Bor F) (.agg xs) ax)
    (hy : PR w (FBof E.Bor F) (.agg ys) ay) (hk : aggBin i op xs ys K) : Out P E n s L a K ((do eqGuard op t x y ax ay; binOp op t ax ay : Sem Value).run P w) := by
  cases hx with | agg _ va ho hl hr =>
  cases hy with | agg _ vb ho' hl' hr' =>
  unfold aggBin at hk
  split at hk
  · rename_i he
    cases hsz : sameK i.zero xs with
    | false => rw [hsz] at hk; exact hk.elim
    | true =>
      rw [hsz] at hk
      have hsz : KindV i.zero va.toList := sameK_ok hsz (by simpa using hl) (fun i c v e1 e2 => hr i c v e1 (by simpa using e2))
      have go : ∀ (K' : Bool → Prop), eqCells xs ys K' → ∃ r, K' r ∧ EqV va.toList vb.toList r := fun K' hk =>
        eqCells_ok hk (by simpa using hl) (by simpa using hl') (fun i c v e1 e2 => hr i c v e1 (by simpa using e2)) (fun i c v e1 e2 => hr' i c v e1 (by simpa using e2))
      obtain ⟨g1, g2⟩ := (hΓ t _ hi).eqs he
      cases op <;> first | exact hk.elim | skip
      case eql =>
        obtain ⟨r, hk, he⟩ := go _ hk
        have hq := g2 w va.toList vb.toList r he hsz
        have hg : (eqGuard .eql t x y (.agg va) (.agg vb)).run P w = .ok () w := by simp [eqGuard, g1]
        rw [Sem.run_seq _ _ _ _ _ _ hg]
        simp only [Array.toArray_toList] at hq
        simp [binOp, hq]
        exact Out.bool h hk
      case neq =>
        obtain ⟨r, hk, he⟩ := go _ hk
        have hq := g2 w va.toList vb.toList r he hsz
        have hg : (eqGuard .neq t x y (.agg va) (.agg vb)).run P w = .ok () w := by simp [eqGuard, g1]
        rw [Sem.run_seq _ _ _ _ _ _ hg]
        simp only [Array.toArray_toList] at hq
        simp [binOp, hq]
        exact Out.bool h hk
  · exact hk.elim

theorem out_boolBin (hΓ : GOK P Γ) (h : StI E n s L a w F β) {op : BinOp} {t : TypeId} {x y : Operand} {i : TI} (hi : Γ t = some i) {p q : Bool} (hk : boolBin i op p q K) :
    Out P E n s L a K ((do eqGuard op t x y (.bool p) (.bool q); binOp op t (.bool p) (.bool q) : Sem Value).run P w) := by
  unfold boolBin at hk
  split at hk
  · rename_i hd
    have hu : P.underlying t = some .bool := by have := (hΓ t _ hi).desc; rw [hd] at this; exact this
    rw [Sem.run_seq _ _ _ _ _ _ guard_bool]
    cases op <;> first | exact hk.elim | skip
    · simp [binOp, run_eq_bool hu]; exact Out.bool h hk
    · simp [binOp, run_eq_bool hu]; exact Out.bool h hk
  · exact hk.elim

theorem out_bin (hΓ : GOK P Γ) (hW : ∀ x K, W x K → K (rho s x)) (h : StI E n s L a w F β) {op : BinOp} {t : TypeId} {x y : Operand} (hk : W x fun a => W y fun b => binK Γ op t a b K) :
    Out P E n s L a K ((do eqGuard op t x y (a.eval x) (a.eval y); binOp op t (a.eval x) (a.eval y) : Sem Value).run P w) := by
  have hx := h.ev x
  have hy := h.ev y
  have hk := hW y _ (hW x _ hk)
  generalize rho s x = vx at hk hx
  generalize rho s y = vy at hk hy
  generalize a.eval x = ax at hx
  generalize a.eval y = ay at hy
  unfold binK at hk
  split at hk
  · split at hk
    · cases hx with | p hx => cases hx with | int k p =>
      cases hy with | p hy => cases hy with | int k' q =>
      exact out_intBin h hk
    · exact hk.elim
  · split at hk
    · split at hk
      · rename_i hi
        exact out_aggBin hΓ h hi hx.pOf hy.pOf hk
      · exact hk.elim
    · exact hk.elim
  · split at hk
    · rename_i hi
      obtain ⟨b, e, hk⟩ := hy.boolOf hk
      subst e
      cases hx with | p hx => cases hx with | bool p =>
      exact out_boolBin hΓ h hi hk
    · exact hk.elim
  · split at hk
    · rename_i hi
      obtain ⟨b, e, hk⟩ := hy.boolOf hk
      subst e
      cases hx with | tf p =>
      exact out_boolBin hΓ h hi hk
    · exact hk.elim
  · exact hk.elim

theorem out_tf (h : StI E n s L a w F β) {b : Bool} (hk : K (.tf b) []) : Out P E n s L a K (.ok (.bool b) w) := .same h hk (.tf b) fun k hk => by simp only [AV.men] at hk

theorem run_eq_nil {t e : TypeId} (hu : P.underlying t = some (.slice e)) (b : Option Addr) (l c : Nat) (w : World) : (Op.equal t (.slice b l c) (.slice none 0 0)).run P w = .ok b.isNone w := by
  have key : ∀ d, (Op.equalIn (d + 1) t (.slice b l c) (.slice none 0 0)).run P w = .ok b.isNone w := fun d => by cases b <;> simp [Op.equalIn, run_underlying hu]
  exact key 9999

theorem guard_slice {op : BinOp} {t : TypeId} {x y : Operand} {a b : Option Addr} {k l m n : Nat} : (eqGuard op t x y (.slice a k l) (.slice b m n)).run P w = .ok () w := by
  unfold eqGuard; cases op <;> simp

/-- What is known of whether a slice is nil. -/
theorem nil_known {w FB β} {v : AV} {x : Value} (hv : VR w FB β v x) : (∀ m W es, v = .p (.sl m W es) → ∃ b c, x = .slice b es.length c ∧ (es.length ≠ 0 → b.isNone = false)) ∧ (v = .emp → ∃ b c, x = .slice b 0 c) ∧
    (∀ h W o l, v = .vec h W o l → ∃ b c, x = .slice b l c ∧ (l ≠ 0 → b.isNone = false)) := by
  refine ⟨fun m W es e => ?_, fun e => ?_, fun h W o l e => ?_⟩
  · subst e
    cases hv with | p hv =>
    cases hv with
    | nil _ _ ad => exact ⟨ad, 0, rfl, fun h => absurd rfl h⟩
    | sl _ _ _ b off cap => exact ⟨some ⟨b, off, none⟩, cap, rfl, fun _ => rfl⟩
  · subst e
    cases hv with
    | empn => exact ⟨none, 0, rfl⟩
    | emp b off => exact ⟨_, 0, rfl⟩
  · subst e
    cases hv with
    | vec hb hc hm ho => exact ⟨_, _, rfl, fun _ => rfl⟩
    | vecn a ha hb => exact ⟨a, 0, rfl, fun h => absurd rfl h⟩

theorem out_nil (hΓ : GOK P Γ) (hW : ∀ x K, W x K → K (rho s x)) (h : StI E n s L a w F β) {op : BinOp} {t : TypeId} {x : Operand} (hk : W x fun a => nilK Γ op t a K) :
    Out P E n s L a K ((do eqGuard op t x (.const (.slice none 0 0)) (a.eval x) (.slice none 0 0); binOp op t (a.eval x) (.slice none 0 0) : Sem Value).run P w) := by
  have hx := h.ev x
  have hk := hW x _ hk
  generalize rho s x = vx at hk hx
  generalize a.eval x = ax at hx
  obtain ⟨n1, n2, n3⟩ := nil_known hx
  have go : ∀ (b : Option Addr) (l c : Nat) (K' : Bool → Prop), (l ≠ 0 → b.isNone = false) → SNil l K' → K' b.isNone := by
    intro b l c K' hb hk
    obtain ⟨h1, h2⟩ := hk
    by_cases e : l = 0
    · obtain ⟨g1, g2⟩ := h2 e
      cases b <;> assumption
    · rw [hb e]; exact h1 e
  have key : ∀ K', nilOf vx K' → ∃ b l c, ax = .slice b l c ∧ K' b.isNone := by
    intro K' hk
    unfold nilOf at hk
    split at hk
    · obtain ⟨b, c, rfl, hb⟩ := n1 _ _ _ rfl; exact ⟨b, _, c, rfl, go b _ c _ hb hk⟩
    · obtain ⟨b, c, rfl⟩ := n2 rfl; exact ⟨b, _, c, rfl, go b _ c _ (fun h => absurd rfl h) hk⟩
    · obtain ⟨b, c, rfl, hb⟩ := n3 _ _ _ _ rfl; exact ⟨b, _, c, rfl, go b _ c _ hb hk⟩
    · exact hk.elim
  unfold nilK at hk
  split at hk
  · rename_i i hi
    split at hk
    · rename_i e hd
      have hu : P.underlying t = some (.slice e) := by have := (hΓ t _ hi).desc; rw [hd] at this; exact this
      cases op <;> first | exact hk.elim | skip
      · obtain ⟨b, l, c, rfl, hk⟩ := key _ hk
        rw [Sem.run_seq _ _ _ _ _ _ guard_slice]
        simp [binOp, run_eq_nil hu]
        exact out_tf h hk
      · obtain ⟨b, l, c, rfl, hk⟩ := key _ hk
        rw [Sem.run_seq _ _ _ _ _ _ guard_slice]
        simp [binOp, run_eq_nil hu]
        exact out_tf h (by cases b <;> exact hk)
    · exact hk.elim
  · exact hk.elim

theorem out_un (hW : ∀ x K, W x K → K (rho s x)) (h : StI E n s L a w F β) {op : UnOp} {t : TypeId} {x : Operand} (hk : opSem Γ P wr W LK L base (.unOp op t x) K) :
    Out P E n s L a K ((Op.unary op (a.eval x)).run P w) := by
  simp only [opSem] at hk
  have hx := h.ev x
  have hk := hW x _ hk
  generalize rho s x = vx at hk hx
  generalize a.eval x = ax at hx
  split at hk
  · cases hx with | p hx => cases hx with | int k p => simpa [Op.unary, Op.intArith] using out_wrap h hk
  · cases hx with | p hx => cases hx with | int k p => simpa [Op.unary, Op.intBits] using out_wrap h hk
  · cases hx with | p hx => cases hx with | bool b => simpa [Op.unary] using Out.bool h hk
  · cases hx with | tf b => simpa [Op.unary] using out_tf h hk
  · exact hk.elim

theorem out_convert (hΓ : GOK P Γ) (hW : ∀ x K, W x K → K (rho s x)) (h : StI E n s L a w F β) {src dst : TypeId} {x : Operand} (hk : opSem Γ P wr W LK L base (.convert src dst x) K) :
    Out P E n s L a K ((convert src dst (a.eval x)).run P w) := by
  simp only [opSem] at hk
  have hx := h.ev x
  have hk := hW x _ hk
  generalize rho s x = vx at hk hx
  generalize a.eval x = ax at hx
  unfold convK at hk
  split at hk
  · split at hk
    · rename_i i hi
      split at hk
      · rename_i j hj
        split at hk
        · rename_i k hd
          cases hx with | p hx => cases hx with | int k' p =>
          have hu : P.underlying dst = some (.int k) := by have := (hΓ dst _ hi).desc; rw [hd] at this; exact this
          have hs : ∃ d, P.underlying src = some d := by
            have := (hΓ src _ hj).desc
            cases hd' : j.d with
            | struct fs => rw [hd'] at this; obtain ⟨f, h1, _⟩ := this; exact ⟨_, h1⟩
            | other => rw [hd'] at this; obtain ⟨d, h1, _⟩ := this; exact ⟨_, h1⟩
            | _ => rw [hd'] at this; exact ⟨_, this⟩
          obtain ⟨d, hs⟩ := hs
          simp [convert, run_underlying hu, run_underlying hs, Conv.intToInt]
          exact out_wrap h hk
        · exact hk.elim
      · exact hk.elim
    · exact hk.elim
  · exact hk.elim

theorem out_makeFunc (hW : ∀ x K, W x K → K (rho s x)) (h : StI E n s L a w F β) {f : FuncId} {fs cs : Array Operand} (hk : opSem Γ P wr W LK L base (.makeFunc (.func f) fs cs) K) :
    Out P E n s L a K ((Instr.makeFunc (.func f) (fs.map a.eval) (cs.map a.eval)).run P w) := by
  simp only [opSem] at hk
  have ev : ∀ (xs : List Operand) (K' : List AV → Prop), evalL W xs K' → K' (xs.map (rho s)) := by
    intro xs
    induction xs with
    | nil => intro K' h; exact h
    | cons x xs ih => intro K' h; exact ih _ (hW x _ h)
  have hk := ev _ _ (ev _ _ hk)
  have rel : ∀ (xs : Array Operand) (i : Nat) c v, (xs.toList.map (rho s))[i]? = some c → (xs.map a.eval)[i]? = some v → VR w (FBof E.Bor F) β c v := by
    intro xs i c v e1 e2
    simp only [List.getElem?_map, Array.getElem?_toList, Array.getElem?_map] at e1 e2
    cases e : xs[i]? with
    | none => rw [e] at e1; cases e1
    | some x => rw [e] at e1 e2; cases e1; cases e2; exact h.ev x
  have men : ∀ (xs : Array Operand) (k : Hd), AV.menL (xs.toList.map (rho s)) k → L k ≠ .free := by
    intro xs k
    generalize xs.toList = l
    induction l with
    | nil => simp [AV.menL]
    | cons x l ih =>
      simp only [List.map_cons, AV.menL]
      rintro (h' | h')
      · exact h.evm x k h'
      · exact ih h'
  refine .same h hk (.fn f _ _ _ _ (by simp) (rel fs) (by simp) (rel cs)) fun k hk => ?_
  simp only [AV.men] at hk
  rcases hk with hk | hk
  · exact men fs k hk
  · exact men cs k hk

theorem out_extract (hW : ∀ x K, W x K → K (rho s x)) (h : StI E n s L a w F β) {x : Operand} {i : Nat} (hk : opSem Γ P wr W LK L base (.extract x i) K) :
    Out P E n s L a K ((Instr.extract (a.eval x) i).run P w) := by
  simp only [opSem] at hk
  have hx := h.ev x
  have hm := h.evm x
  have hk := hW x _ hk
  generalize rho s x = vx at hk hx hm
  generalize a.eval x = ax at hx
  split at hk
  · rename_i cs
    cases hx with | tup _ vs hl hr =>
    obtain ⟨c, hc, hk⟩ := getC_ok hk
    have hi : i < vs.size := by rw [hl]; exact (List.getElem?_eq_some_iff.1 hc).1
    simp [Instr.extract, hi]
    exact .same h hk (hr i c _ hc (by simp [hi])) fun k hk => hm k (by simp only [AV.men]; exact AV.menL_mem (List.mem_of_getElem? hc) hk)
  · exact hk.elim
end
end Go.Proofs.Ytkaooejeljdbnaa
