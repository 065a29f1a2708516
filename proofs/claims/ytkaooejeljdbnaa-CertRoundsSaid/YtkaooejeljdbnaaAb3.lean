/- Each operation does to the machine what 'opSem' says (first part). -/
import Derived.Test.YtkaooejeljdbnaaAb2
namespace Go.Proofs.Ytkaooejeljdbnaa
open Go
set_option linter.unusedVariables false
set_option linter.unusedSimpArgs false

def cval : Value → AV
  | .int k n => .p (.int k n)
  | .bool b => .tf b
  | .slice none 0 0 => .emp
  | .pointer none => .p (.raw (.pointer none))
  | .map none => .p (.raw (.map none))
  | .nilFunc => .p (.raw .nilFunc)
  | .string b => .p (.raw (.string b))
  | _ => .any

def rho (s : Nat → AV) : Operand → AV
  | .tmp t => s t
  | .const v => cval v
  | .global _ => .any
  | .func f => .fn f [] []

theorem cval_rel (w FB β) (v : Value) : VR w FB β (cval v) v := by
  unfold cval
  split <;> first | exact .p (.int _ _) | exact .tf _ | exact .empn | exact .p (.raw _ rfl) | exact .any _
theorem cval_men (v : Value) (k : Hd) : ¬ (cval v).men k := by
  unfold cval
  split <;> exact fun h => by simp only [AV.men] at h

section
variable {E : Env} {n : Nat} {s : Nat → AV} {L : Hd → Blk} {a : Act} {w : World} {F : Nat → Prop} {β : Hd → Option Nat × Nat}

theorem StI.ev (h : StI E n s L a w F β) (x : Operand) : VR w (FBof E.Bor F) β (rho s x) (a.eval x) := by
  cases x with
  | tmp t => exact h.slots t
  | const v => exact cval_rel _ _ _ v
  | global g => exact .any _
  | func f => exact .fn f [] [] #[] #[] rfl (by simp) rfl (by simp)

theorem StI.evm (h : StI E n s L a w F β) (x : Operand) (k : Hd) (hk : (rho s x).men k) : L k ≠ .free := by
  cases x with
  | tmp t => exact h.ms t k hk
  | const v => exact (cval_men v k hk).elim
  | global g => simp only [rho, AV.men] at hk
  | func f => simp only [rho, AV.men, AV.menL, or_self] at hk
end

def updPool (L : Hd → Blk) (h : Hd) (P : Blk) : Hd → Blk :=
  match h with
  | .t n => fun g => match g with
    | .t m => if m = n then .dead else L (.t m)
    | .r m k => if m = n then P.row k else L (.r m k)
  | .r n k => upd L (.r n k) P
/-- A block is laid at its place; a pool's rows beside it. -/
def updB (L : Hd → Blk) (h : Hd) (B : Blk) : Hd → Blk :=
  match B with
  | .pool T W rows => updPool L h (.pool T W rows)
  | B => upd L h B
theorem updB_live {L : Hd → Blk} {h : Hd} {B : Blk} (hB : B.live) : updB L h B = upd L h B := by cases B <;> first | rfl | exact hB.elim
def applyUps (L : Hd → Blk) (ups : List (Hd × Blk)) : Hd → Blk := ups.foldl (fun L x => updB L x.1 x.2) L

/-- What one operation comes to: a value, a world, the blocks. -/
def Out (P : Program) (E : Env) (n : Nat) (s : Nat → AV) (L : Hd → Blk) (a : Act) (K : AV → List (Hd × Blk) → Prop) : Result Value → Prop
  | .ok x w' => ∃ v ups F β, K v ups ∧ StI E n s (applyUps L ups) a w' F β ∧ VR w' (FBof E.Bor F) β v x ∧ ∀ k, v.men k → applyUps L ups k ≠ .free
  | .halt _ _ => False

section
variable {P : Program} {E : Env} {n : Nat} {s : Nat → AV} {L : Hd → Blk} {a : Act} {w : World} {F : Nat → Prop} {β : Hd → Option Nat × Nat} {K : AV → List (Hd × Blk) → Prop}

theorem Out.same (h : StI E n s L a w F β) {v : AV} {x : Value} (hk : K v []) (hv : VR w (FBof E.Bor F) β v x) (hm : ∀ k, v.men k → L k ≠ .free) : Out P E n s L a K (.ok x w) :=
  ⟨v, [], F, β, hk, h, hv, hm⟩

theorem Out.int (h : StI E n s L a w F β) {k : IntKind} {z : Int} (hk : K (.p (.int k z)) []) : Out P E n s L a K (.ok (.int k z) w) :=
  .same h hk (.p (.int k z)) fun k hk => by simp only [AV.men] at hk

theorem Out.bool (h : StI E n s L a w F β) {b : Bool} (hk : SCmp b fun v => K v []) : Out P E n s L a K (.ok (.bool b) w) := by
  cases hk with
  | sym hk => exact .same h hk (.p (.bool b)) fun k hk => by simp only [AV.men] at hk
  | yes hb hk => subst hb; exact .same h hk (.tf true) fun k hk => by simp only [AV.men] at hk
  | no hb hk => subst hb; exact .same h hk (.tf false) fun k hk => by simp only [AV.men] at hk

/-- A new block of cells. -/
theorem Out.new (h : StI E n s L a w F β) (arr : Array Value) (T : TypeId) (B : Blk) (base cap : Nat) {v : AV} {x : Value} (hk : K v [(base, B)]) (hfree : L base = .free)
    (hO : Own (w.alloc (.cells arr T)) (FBof E.Bor F) (upd β base (some w.heap.size, cap)) base B) (hlive : B.live) (hmen : ∀ j, B.men j → L j ≠ .free)
    (hv : VR (w.alloc (.cells arr T)) (FBof E.Bor F) (upd β base (some w.heap.size, cap)) v x) (hm : ∀ k, v.men k → k = base ∨ L k ≠ .free) : Out P E n s L a K (.ok x (w.alloc (.cells arr T))) := by
  refine ⟨v, _, F, _, hk, by show StI E n s (updB L base B) a _ F _; rw [updB_live hlive]; exact h.alloc (.cells arr T) B base cap rfl rfl rfl rfl hfree hO hlive hmen, hv, fun k hk => ?_⟩
  show updB L base B k ≠ .free
  rw [updB_live hlive]
  by_cases e : k = base
  · subst e; rw [upd_same]; exact Blk.live_ne hlive
  · rw [upd_other _ _ e]; exact (hm k hk).resolve_left e
end

/-! #### lists in sight -/
theorem getC_ok {cs : List AV} {i : Nat} {K : AV → Prop} (h : getC cs i K) : ∃ c, cs[i]? = some c ∧ K c := by
  induction cs generalizing i with
  | nil => simp only [getC] at h
  | cons c cs ih =>
    cases i with
    | zero => exact ⟨c, rfl, h⟩
    | succ i => exact ih (by simpa only [getC] using h)
theorem getPV_ok {cs : List PV} {i : Nat} {K : PV → Prop} (h : getPV cs i K) : ∃ c, cs[i]? = some c ∧ K c := by
  induction cs generalizing i with
  | nil => simp only [getPV] at h
  | cons c cs ih =>
    cases i with
    | zero => exact ⟨c, rfl, h⟩
    | succ i => exact ih (by simpa only [getPV] using h)
theorem mapPK_ok {cs : List PV} {K : List AV → Prop} (h : mapPK cs K) : K (cs.map .p) := by
  induction cs generalizing K with
  | nil => exact h
  | cons c cs ih => exact ih (K := fun l => K (.p c :: l)) h
theorem rebuild_ok {cs : List AV} {K : List AV → Prop} (h : allP.rebuild cs K) : K cs := by
  induction cs generalizing K with
  | nil => exact h
  | cons c cs ih => exact ih (K := fun l => K (c :: l)) h

/-- A list of trees that stands for a list of cells. -/
def AsP (cs : List AV) (l : List PV) : Prop := l.length = cs.length ∧ (∀ (i : Nat) c p, cs[i]? = some c → l[i]? = some p → c.one = true → p.one = true) ∧ ∀ w FB β (i : Nat) c p v, cs[i]? = some c → l[i]? = some p → VR w FB β c v → PR w FB p v

theorem AsP.cons {cs : List AV} {l : List PV} (h : AsP cs l) {c : AV} {p : PV} (ho : c.one = true → p.one = true) (hc : ∀ w FB β v, VR w FB β c v → PR w FB p v) : AsP (c :: cs) (p :: l) := by
  refine ⟨by simp [h.1], fun i c' p' h1 h2 => ?_, fun w FB β i c' p' v h1 h2 hv => ?_⟩
  · cases i with
    | zero => simp at h1 h2; subst h1; subst h2; exact ho
    | succ i => exact h.2.1 i c' p' (by simpa using h1) (by simpa using h2)
  cases i with
  | zero => simp at h1 h2; subst h1; subst h2; exact hc w FB β v hv
  | succ i => exact h.2.2 w FB β i c' p' v (by simpa using h1) (by simpa using h2) hv

theorem VR.pOf {w FB β} {p : PV} {v : Value} (h : VR w FB β (.p p) v) : PR w FB p v := by cases h; assumption
theorem VR.tfOf {w FB β} {b : Bool} {v : Value} (h : VR w FB β (.tf b) v) : PR w FB (.bool b) v := by cases h; exact .bool b

theorem allP_ok {cs : List AV} {K : List PV → Prop} {J : List AV → Prop} (h : allP cs K J) : (∃ l, K l ∧ AsP cs l) ∨ J cs := by
  induction cs generalizing K J with
  | nil => exact .inl ⟨[], h, rfl, by simp, by simp⟩
  | cons c cs ih =>
    have other : (allP.rebuild cs fun l => J (c :: l)) → (∃ l, K l ∧ AsP (c :: cs) l) ∨ J (c :: cs) := fun h => .inr (rebuild_ok (K := fun l => J (c :: l)) h)
    cases c with
    | p v =>
      rcases ih (K := fun l => K (v :: l)) (J := fun l => J (.p v :: l)) h with ⟨l, hk, hl⟩ | hj
      · exact .inl ⟨_, hk, hl.cons (fun h => h) fun _ _ _ _ => VR.pOf⟩
      · exact .inr hj
    | tf b =>
      rcases ih (K := fun l => K (.bool b :: l)) (J := fun l => J (.tf b :: l)) h with ⟨l, hk, hl⟩ | hj
      · exact .inl ⟨_, hk, hl.cons (fun _ => rfl) fun _ _ _ _ => VR.tfOf⟩
      · exact .inr hj
    | _ => exact other h

theorem AsP.rel {cs : List AV} {l : List PV} (h : AsP cs l) {w FB β} {arr : Array Value} (hone : ∀ c ∈ cs, c.one = true) (hl : arr.size = cs.length) (hc : ∀ (i : Nat) c v, cs[i]? = some c → arr[i]? = some v → VR w FB β c v) : PR w FB (.agg l) (.agg arr) := by
  refine .agg l arr (fun p hp => ?_) (by rw [hl, h.1]) fun i p v h1 h2 => ?_
  · obtain ⟨i, hi⟩ := List.getElem?_of_mem hp
    have hi' : i < cs.length := by rw [← h.1]; exact (List.getElem?_eq_some_iff.1 hi).1
    exact h.2.1 i cs[i] p (List.getElem?_eq_getElem hi') hi (hone _ (List.getElem_mem hi'))
  have hi : i < cs.length := by rw [← h.1]; exact (List.getElem?_eq_some_iff.1 h1).1
  exact h.2.2 w FB β i cs[i] p v (List.getElem?_eq_getElem hi) h1 (hc i _ v (List.getElem?_eq_getElem hi) h2)

theorem mkAgg_ok {cs : List AV} {K : AV → Prop} (h : mkAgg cs K) : ∃ r, K r ∧ (∀ w FB β (arr : Array Value), (∀ c ∈ cs, c.one = true) → arr.size = cs.length → (∀ (i : Nat) c v, cs[i]? = some c → arr[i]? = some v → VR w FB β c v) → VR w FB β r (.agg arr)) ∧ ∀ k, r.men k → AV.menL cs k := by
  rcases allP_ok h with ⟨l, hk, hl⟩ | hk
  · exact ⟨_, hk, fun w FB β arr h0 h1 h2 => .p (hl.rel h0 h1 h2), fun k hk => by simp only [AV.men] at hk⟩
  · exact ⟨_, hk, fun w FB β arr h0 h1 h2 => .agg cs arr h0 h1 h2, fun k hk => by simpa only [AV.men] using hk⟩

theorem rangeK_ok {cs : List AV} {o n : Nat} {K : List AV → Prop} (h : rangeK cs o n K) : o + n ≤ cs.length ∨ n = 0 → K ((cs.drop o).take n) := by
  induction cs generalizing o n K with
  | nil =>
    cases o with
    | zero => cases n with
      | zero => exact fun _ => h
      | succ n => simp only [rangeK] at h
    | succ o => simp only [rangeK] at h
  | cons c cs ih =>
    intro hl
    cases o with
    | zero => cases n with
      | zero => exact h
      | succ n =>
        have := ih (o := 0) (n := n) (K := fun l => K (c :: l)) (by simpa only [rangeK] using h) (by simp at hl ⊢; omega)
        simpa using this
    | succ o =>
      have := ih (o := o) (n := n) (K := K) (by simpa only [rangeK] using h) (by simp at hl ⊢; omega)
      simpa using this

theorem rangeK_len {cs : List AV} {o n : Nat} {K : List AV → Prop} (h : rangeK cs o n K) : o + n ≤ cs.length := by
  induction cs generalizing o n K with
  | nil =>
    cases o with
    | zero => cases n with
      | zero => simp
      | succ n => simp only [rangeK] at h
    | succ o => simp only [rangeK] at h
  | cons c cs ih =>
    cases o with
    | zero => cases n with
      | zero => simp
      | succ n =>
        have := ih (o := 0) (n := n) (K := fun l => K (c :: l)) (by simpa only [rangeK] using h)
        simp at this ⊢; omega
    | succ o =>
      have := ih (o := o) (n := n) (K := K) (by simpa only [rangeK] using h)
      simp; omega

theorem rangeP_ok {cs : List PV} {o n : Nat} {K : List PV → Prop} (h : rangeP cs o n K) : o + n ≤ cs.length ∧ K ((cs.drop o).take n) := by
  induction cs generalizing o n K with
  | nil =>
    cases o with
    | zero => cases n with
      | zero => exact ⟨by simp, h⟩
      | succ n => simp only [rangeP] at h
    | succ o => simp only [rangeP] at h
  | cons c cs ih =>
    cases o with
    | zero => cases n with
      | zero => exact ⟨by simp, h⟩
      | succ n =>
        have := ih (o := 0) (n := n) (K := fun l => K (c :: l)) (by simpa only [rangeP] using h)
        exact ⟨by simp at this ⊢; omega, by simpa using this.2⟩
    | succ o =>
      have := ih (o := o) (n := n) (K := K) (by simpa only [rangeP] using h)
      exact ⟨by simp at this ⊢; omega, by simpa using this.2⟩

theorem spliceK_ok {cs : List AV} {o : Nat} {vs : List AV} {K : List AV → Prop} (h : spliceK cs o vs K) : o + vs.length ≤ cs.length ∧ K (cs.take o ++ vs ++ cs.drop (o + vs.length)) := by
  induction cs generalizing o vs K with
  | nil =>
    cases vs with
    | nil => cases o with
      | zero => exact ⟨by simp, by simpa using (show K [] from h)⟩
      | succ o => simp only [spliceK] at h
    | cons v vs => cases o <;> simp only [spliceK] at h
  | cons c cs ih =>
    cases o with
    | zero => cases vs with
      | nil => exact ⟨by simp, by simpa using rebuild_ok (show allP.rebuild (c :: cs) K from h)⟩
      | cons v vs =>
        have := ih (o := 0) (vs := vs) (K := fun l => K (v :: l)) (by simpa only [spliceK] using h)
        exact ⟨by simp at this ⊢; omega, by simpa using this.2⟩
    | succ o =>
      have := ih (o := o) (vs := vs) (K := fun l => K (c :: l)) (by cases vs <;> simpa only [spliceK] using h)
      refine ⟨by simp at this ⊢; omega, ?_⟩
      have e : o + 1 + vs.length = (o + vs.length) + 1 := by omega
      rw [e]
      simpa using this.2

section
variable {Γ : Tab} {P : Program}

/-- A value that a slot's value stands for, as a tree. -/
theorem asP_ok {t : TypeId} {v : AV} {K : PV → Prop} (h : asP Γ t v K) : ∃ p, K p ∧ ∀ w FB β x, VR w FB β v x → PR w FB p x := by
  unfold asP at h
  split at h
  · exact ⟨_, h, fun _ _ _ _ => VR.pOf⟩
  · exact ⟨_, h, fun _ _ _ _ => VR.tfOf⟩
  · split at h
    · split at h
      · refine ⟨_, h, fun w FB β x hv => ?_⟩
        cases hv with
        | empn => exact .nil _ _ _
        | emp b off => exact PR.sl false _ [] b off 0 (fun _ _ => Go.undef) (Nat.le_refl _) (fun h => absurd rfl h) (by simp) (by simp) (by simp) (by simp)
      · exact h.elim
    · exact h.elim
  · rcases allP_ok h with ⟨l, hk, hl⟩ | hk
    · refine ⟨_, hk, fun w FB β x hv => ?_⟩
      cases hv with | agg _ arr h0 h1 h2 => exact hl.rel h0 h1 h2
    · exact hk.elim
  · rcases allP_ok h with ⟨l, hk, hl⟩ | hk
    · refine ⟨_, hk, fun w FB β x hv => ?_⟩
      cases hv with
      | fn _ _ _ fs arr hfl _ h1 h2 =>
        have : fs = #[] := by cases fs; simpa using hfl
        subst this
        refine .fn _ l arr (by rw [h1, hl.1]) fun i p v h1' h2' => ?_
        have hi : i < l.length := (List.getElem?_eq_some_iff.1 h1').1
        rw [hl.1] at hi
        exact hl.2.2 w FB β i _ p v (List.getElem?_eq_getElem hi) h1' (h2 i _ v (List.getElem?_eq_getElem hi) h2')
    · exact hk.elim
  · exact h.elim

theorem PR.cells {w FB} {p : PV} {x : Value} (h : PR w FB p x) : x.cells.size = p.cells.length ∧ (∀ c ∈ p.cells, c.one = true) ∧ ∀ (i : Nat) c y, p.cells[i]? = some c → x.cells[i]? = some y → PR w FB c y := by
  have one : ∀ {p : PV} {x : Value}, p.one = true → x.cells = #[x] → PR w FB p x → x.cells.size = p.cells.length ∧ (∀ c ∈ p.cells, c.one = true) ∧ ∀ (i : Nat) c y, p.cells[i]? = some c → x.cells[i]? = some y → PR w FB c y := by
    intro p x h1 h2 h
    rw [PV.cells_one h1, h2]
    refine ⟨rfl, by simpa using h1, fun i c y e1 e2 => ?_⟩
    cases i with
    | zero => simp at e1 e2; subst e1; subst e2; exact h
    | succ i => simp at e1
  cases h with
  | agg cs vs h0 hl h => exact ⟨hl, h0, h⟩
  | int k n => exact one rfl rfl (.int k n)
  | bool b => exact one rfl rfl (.bool b)
  | nil m W ad => exact one rfl rfl (.nil m W ad)
  | sl m W es b off cap vals hc hb hW h0 hv hr => exact one rfl rfl (.sl m W es b off cap vals hc hb hW h0 hv hr)
  | pel m e b off vals hb h0 hv hr => exact one rfl rfl (.pel m e b off vals hb h0 hv hr)
  | fn f caps vs hl h => exact one rfl rfl (.fn f caps vs hl h)
  | mp m es b clock en hb hm hl hk hv hbo hd => exact one rfl rfl (.mp m es b clock en hb hm hl hk hv hbo hd)
  | raw v h => exact one rfl (oneCell_cells h) (.raw x h)

theorem VR.one {w FB β} {c : AV} {x : Value} (h : VR w FB β c x) (ho : c.one = true) : x.cells.size = [c].length ∧ (∀ c' ∈ [c], c'.one = true) ∧ ∀ (i : Nat) c' y, [c][i]? = some c' → x.cells[i]? = some y → VR w FB β c' y := by
  rw [oneCell_cells (h.oneCell ho)]
  refine ⟨rfl, by simpa using ho, fun i c y e1 e2 => ?_⟩
  cases i with
  | zero => simp at e1 e2; subst e1; subst e2; exact h
  | succ i => simp at e1

theorem cellsOf_ok {t : TypeId} {v : AV} {K : List AV → Prop} (h : cellsOf Γ t v K) : ∃ cs, K cs ∧ (∀ w FB β x, VR w FB β v x → x.cells.size = cs.length ∧ (∀ c ∈ cs, c.one = true) ∧ ∀ (i : Nat) c y, cs[i]? = some c → x.cells[i]? = some y → VR w FB β c y) ∧ ∀ k, AV.menL cs k → v.men k := by
  have menP : ∀ (l : List PV) k, ¬ AV.menL (l.map .p) k := by
    intro l k
    induction l with
    | nil => simp [AV.menL]
    | cons p l ih => simp only [List.map_cons, AV.menL, AV.men, false_or]; exact ih
  unfold cellsOf at h
  split at h
  · refine ⟨_, mapPK_ok h, fun w FB β x hv => ?_, fun k hk => (menP _ k hk).elim⟩
    obtain ⟨h1, h0, h2⟩ := hv.pOf.cells
    refine ⟨by rw [h1]; simp [PV.cells], by simpa [PV.cells, AV.one] using h0, fun i c y e1 e2 => ?_⟩
    rw [List.getElem?_map] at e1
    cases e : (‹List PV›)[i]? with
    | none => rw [e] at e1; cases e1
    | some p => rw [e] at e1; cases e1; exact .p (h2 i p y e e2)
  · rename_i v hna
    refine ⟨_, h, fun w FB β x hv => ?_, fun k hk => by simp only [AV.menL, AV.men, or_self] at hk⟩
    have e : v.one = true := by cases v <;> first | rfl | exact (hna _ rfl).elim
    exact hv.one e
  · refine ⟨_, h, fun w FB β x hv => hv.one rfl, fun k hk => by simpa only [AV.menL, or_false] using hk⟩
  · have h' := h
    obtain ⟨p, ⟨hk, ho⟩, hp⟩ := asP_ok (Γ := Γ) (t := t) (v := .emp) (K := fun p => K [.p p] ∧ p.one = true) (by
      simp only [asP] at h' ⊢
      split at h'
      · split at h'
        · exact ⟨h', rfl⟩
        · exact h'.elim
      · exact h'.elim)
    exact ⟨_, hk, fun w FB β x hv => (VR.p (hp w FB β x hv)).one ho, fun k hk => by simp only [AV.menL, AV.men, or_self] at hk⟩
  · refine ⟨_, h, fun w FB β x hv => by cases hv with | agg _ arr h0 h1 h2 => exact ⟨h1, h0, h2⟩, fun k hk => by simpa only [AV.men] using hk⟩
  · refine ⟨_, h, fun w FB β x hv => hv.one rfl, fun k hk => by simpa only [AV.menL, or_false] using hk⟩
  · refine ⟨_, h, fun w FB β x hv => hv.one rfl, fun k hk => by simpa only [AV.menL, or_false] using hk⟩
  · refine ⟨_, h, fun w FB β x hv => hv.one rfl, fun k hk => by simpa only [AV.menL, or_false] using hk⟩
  · refine ⟨_, h, fun w FB β x hv => hv.one rfl, fun k hk => by simpa only [AV.menL, or_false] using hk⟩
  · refine ⟨_, h, fun w FB β x hv => hv.one rfl, fun k hk => by simpa only [AV.menL, or_false] using hk⟩
  · exact h.elim

theorem VR.boolOf {w FB β} {v : AV} {x : Value} {K : Bool → Prop} (hv : VR w FB β v x) (h : boolOf v K) : ∃ b, x = .bool b ∧ K b := by
  unfold Go.Proofs.Ytkaooejeljdbnaa.boolOf at h
  split at h
  · cases hv; exact ⟨_, rfl, h⟩
  · cases hv with | p h' => cases h'; exact ⟨_, rfl, h⟩
  · exact h.elim
end

end Go.Proofs.Ytkaooejeljdbnaa
