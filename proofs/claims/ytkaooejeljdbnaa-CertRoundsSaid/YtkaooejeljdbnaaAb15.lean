/- Each operation does to the machine what 'opSem' says (last part): all of them. -/
import Derived.Test.YtkaooejeljdbnaaAbM
namespace Go.Proofs.Ytkaooejeljdbnaa
open Go
set_option linter.unusedVariables false
set_option linter.unusedSimpArgs false

def putS (s : Nat → AV) (d : Option Tmp) (v : AV) : Nat → AV :=
  match d with
  | some d => upd s d v
  | none => s

section
variable {P : Program} {Γ : Tab} {E : Env} {n : Nat} {s : Nat → AV} {L : Hd → Blk} {a : Act} {w : World} {K : AV → List (Hd × Blk) → Prop}
  {W : Operand → (AV → Prop) → Prop} {LK : Hd → (Blk → Prop) → Prop} {wr : FuncId → Bool} {base : Nat}

/-- What is asked behind an operation. -/
def After (E : Env) (n : Nat) (s : Nat → AV) (L : Hd → Blk) (d : Option Tmp) (K : AV → List (Hd × Blk) → Prop) (a : Act) (w : World) : Prop :=
  ∃ v ups, K v ups ∧ St E n (putS s d v) (applyUps L ups) a w

theorem After.of_out {d : Option Tmp} (hd : ∀ t, d = some t → t < n) {x : Value} {w' : World} (h : Out P E n s L a K (.ok x w')) : After E n s L d K (a.put d x) w' := by
  obtain ⟨v, ups, F, β, hk, hst, hv, hm⟩ := h
  refine ⟨v, ups, hk, F, β, ?_⟩
  cases d with
  | none => exact hst
  | some t => exact hst.put (hd t rfl) hv hm

theorem op_ok (hΓ : GOK P Γ) (hW : ∀ x K, W x K → K (rho s x)) (hL : ∀ h K, LK h K → K (L h)) (h : St E n s L a w) (hfree : ∀ v ups, K v ups → ∀ x ∈ ups, base ≤ x.1.key → FreeAt L x.1.key) (o : Oper)
    (hd : ∀ t, o.dst = some t → t < n) (Q : Exit → Act → World → Prop) (hk : opSem Γ P wr W LK L base o.op K) : o.wp P a w (After E n s L o.dst K) Q := by
  obtain ⟨F, β, h⟩ := h
  -- a value
  have val : ∀ sm : Sem Value, (execOp a.eval o).run P w = (do pure (.value (← sm)) : Sem Next).run P w → Out P E n s L a K (sm.run P w) → o.wp P a w (After E n s L o.dst K) Q := by
    intro sm e hout
    unfold Oper.wp
    rw [e]
    cases hr : sm.run P w with
    | halt x w' => rw [hr] at hout; exact hout.elim
    | ok x w' =>
      rw [hr] at hout
      have : (do pure (.value (← sm)) : Sem Next).run P w = .ok (.value x) w' := by simp [hr]
      rw [this]
      exact After.of_out hd hout
  obtain ⟨dst, op, ty, pos, after, guard⟩ := o
  cases op <;> simp only [opSem] at hk
  case move x => exact val (pure (a.eval x)) (by simp [execOp]) (by simpa using out_move (P := P) hW h hk)
  case assign x => exact val (pure (a.eval x)) (by simp [execOp]) (by simpa using out_move (P := P) hW h hk)
  case pick c x y => exact val (do pure (if ← asBool (a.eval c) then a.eval x else a.eval y)) (by simp only [execOp]; cases hb : (asBool (a.eval c)).run P w <;> simp [hb]) (out_pick (Γ := Γ) (wr := wr) (LK := LK) (base := base) hW h (by simpa only [opSem] using hk))
  case alloc t => exact val _ rfl (out_alloc (wr := wr) (W := W) (LK := LK) hΓ h hfree (by simpa only [opSem] using hk))
  case box t x => exact val _ rfl (out_box (Γ := Γ) (wr := wr) (LK := LK) hW h hfree (by simpa only [opSem] using hk))
  case build t ps => exact val _ rfl (out_build (wr := wr) (LK := LK) (base := base) hΓ hW h (by simpa only [opSem] using hk))
  case buildSlice t m ps => exact val _ rfl (out_buildSlice (wr := wr) (LK := LK) hΓ hW h hfree (by simpa only [opSem] using hk))
  case load t x => exact val _ rfl (out_load (wr := wr) (base := base) hΓ hW hL h (by simpa only [opSem] using hk))
  case store t x y =>
    obtain ⟨w', hr, hout⟩ := out_store (wr := wr) (base := base) hΓ hW hL h (t := t) (x := x) (y := y) (by simpa only [opSem] using hk)
    unfold Oper.wp
    have : (execOp a.eval { dst := dst, op := .store t x y, type := ty, pos := pos, after := after, guard := guard }).run P w = .ok .skip w' := by simp [execOp, hr]
    rw [this]
    exact After.of_out hd hout
  case binOp op t x y t' =>
    cases hy : isNil y with
    | true =>
      rw [hy] at hk
      have : y = .const (.slice none 0 0) := by
        unfold isNil at hy
        split at hy
        · rfl
        · cases hy
      subst this
      exact val _ rfl (out_nil hΓ hW h hk)
    | false =>
      rw [hy] at hk
      exact val _ rfl (out_bin hΓ hW h hk)
  case unOp op t x => exact val _ rfl (out_un (t := t) (Γ := Γ) (wr := wr) (LK := LK) (base := base) hW h (by simpa only [opSem] using hk))
  case nilCheck x =>
    have hk := hW x _ hk
    have hv := h.ev x
    have hm := h.evm x
    generalize hrho : rho s x = v at hk hv hm
    have key : ∀ ad, a.eval x = .pointer (some ad) → K v [] → VR w (FBof E.Bor F) β v (a.eval x) → (∀ k, v.men k → L k ≠ .free) → Oper.wp P { dst := dst, op := .nilCheck x, type := ty, pos := pos, after := after, guard := guard } a w (After E n s L dst K) Q := fun ad e hk hv hm => by
      refine val (pure (a.eval x)) (by simp [execOp, e]) ?_
      exact .same h hk hv hm
    cases v with
    | bptr hd o =>
      have hv2 := hv
      generalize hx : a.eval x = y at hv2
      cases hv2 with | bptr hb => exact key _ hx hk hv hm
    | eptr hd Wd i o =>
      have hv2 := hv
      generalize hx : a.eval x = y at hv2
      cases hv2 with | eptr hb => exact key _ hx hk hv hm
    | p pv =>
      cases pv with
      | pel m e =>
        have hv2 := hv
        generalize hx : a.eval x = y at hv2
        cases hv2 with | p hv2 =>
        cases hv2 with | pel _ _ b off vals hb hone hv3 hr => exact key _ hx hk hv hm
      | _ => exact hk.elim
    | _ => exact hk.elim
  case convert src t x => exact val _ rfl (out_convert (wr := wr) (LK := LK) (base := base) hΓ hW h (by simpa only [opSem] using hk))
  case makeFunc fn fs cs =>
    cases fn <;> simp only [opSem] at hk
    exact val _ rfl (out_makeFunc (Γ := Γ) (wr := wr) (LK := LK) (base := base) hW h (by simpa only [opSem] using hk))
  case makeSlice t l c => exact val _ rfl (out_make (wr := wr) (LK := LK) hΓ hW h hfree (by simpa only [opSem] using hk))
  case slice t x lo hi mx => exact val _ rfl (out_slice (wr := wr) (LK := LK) (base := base) hΓ hW h (by simpa only [opSem] using hk))
  case fieldAddr t x f => exact val _ rfl (out_fieldAddr (wr := wr) (LK := LK) (base := base) hΓ hW h (by simpa only [opSem] using hk))
  case field t x f => exact val _ rfl (out_field (wr := wr) (LK := LK) (base := base) hΓ hW h (by simpa only [opSem] using hk))
  case indexAddr t x i => exact val _ rfl (out_indexAddr (wr := wr) (LK := LK) (base := base) hΓ hW h (by simpa only [opSem] using hk))
  case index t x i => exact val _ rfl (out_index (wr := wr) (LK := LK) (base := base) hΓ hW h (by simpa only [opSem] using hk))
  case extract x i => exact val _ rfl (out_extract (Γ := Γ) (wr := wr) (LK := LK) (base := base) hW h (by simpa only [opSem] using hk))
  case makeMap t r =>
    cases r with
    | none => exact val _ rfl (out_makeMap (wr := wr) (W := W) (LK := LK) hΓ h hfree (by simpa only [opSem] using hk))
    | some r => exact hk.elim
  case mapUpdate t m k x =>
    obtain ⟨w', hr, hout⟩ := out_update (Γ := Γ) hΓ hL h (h.ev m) (h.ev k) (h.ev x) (hW x _ (hW k _ (hW m _ hk)))
    unfold Oper.wp
    have : (execOp a.eval { dst := dst, op := .mapUpdate t m k x, type := ty, pos := pos, after := after, guard := guard }).run P w = .ok .skip w' := by simp [execOp, hr]
    rw [this]
    exact After.of_out hd hout
  case insert t m k x =>
    obtain ⟨w', hr, hout⟩ := out_update (Γ := Γ) hΓ hL h (h.ev m) (h.ev k) (h.ev x) (hW x _ (hW k _ (hW m _ hk)))
    unfold Oper.wp
    have : (execOp a.eval { dst := dst, op := .insert t m k x, type := ty, pos := pos, after := after, guard := guard }).run P w = .ok .skip w' := by simp [execOp, hr]
    rw [this]
    exact After.of_out hd hout
  case lookup t x k ok => exact val _ rfl (out_lookup (wr := wr) (base := base) hΓ hW hL h (by simpa only [opSem] using hk))
  case range t x => exact val _ rfl (out_range hΓ h hfree (h.ev x) (hW x _ hk))
  case next x str =>
    cases str with
    | true => exact hk.elim
    | false =>
      obtain ⟨y, w', hr, hout⟩ := out_next hL h (h.ev x) (hW x _ hk) ty
      exact val (Instr.next (a.eval x) false ty) rfl (by rw [hr]; exact hout)
  case call c =>
    obtain ⟨f, xs, ts⟩ := c
    cases f with
    | builtin b =>
      obtain ⟨v, w', hr, hout⟩ := out_builtin (wr := wr) (ty := ty) (cs := xs.map fun | .const _ => true | _ => false) hΓ hW hL h hfree (b := b) (xs := xs) (ts := ts) (by simpa only [opSem] using hk)
      unfold Oper.wp
      have : (execOp a.eval { dst := dst, op := .call ⟨.builtin b, xs, ts⟩, type := ty, pos := pos, after := after, guard := guard }).run P w = .ok (.value v) w' := by
        simp only [execOp, resolve]
        simp only [Sem.run_bind, Sem.run_pure, Result.andThen_ok, invoke]
        exact hr
      rw [this]
      exact After.of_out hd hout
    | invoke r m => simp only [opSem] at hk
    | value f =>
      simp only [opSem] at hk
      have hfv := h.ev f
      have hfm := h.evm f
      obtain ⟨htl, hk⟩ := cond_beq hk
      have hk := hW f _ hk
      generalize rho s f = vf at hk hfv hfm
      -- the call
      have go : ∀ (fid : FuncId) (fs cs : Array Value) (args : List AV) (vals : List Value), a.eval f = .func (.func fid) fs cs → SCall P (wr fid) fid args L base K → vals = fs.toList ++ xs.toList.map a.eval ++ cs.toList → vals.length = args.length →
          (∀ (i : Nat) c x, args[i]? = some c → vals[i]? = some x → VR w (FBof (CallBor E L β (wr fid)) F) β c x) → (∀ k, AV.menL args k → L k ≠ .free) →
          Oper.wp P { dst := dst, op := .call ⟨.value f, xs, ts⟩, type := ty, pos := pos, after := after, guard := guard } a w (After E n s L dst K) Q := by
        intro fid fs cs args vals e1 hc e2 e3 e4 e5
        obtain ⟨⟨fn, g1, g2, g3⟩, hcall⟩ := call_ok h hc hfree vals e3 e4 e5
        unfold Oper.wp
        have hargs : fs ++ xs.map a.eval ++ cs = vals.toArray := by
          rw [e2]; apply Array.ext'; simp
        have : (execOp a.eval { dst := dst, op := .call ⟨.value f, xs, ts⟩, type := ty, pos := pos, after := after, guard := guard }).run P w = .ok (.enter fid vals.toArray) w := by
          simp only [execOp, resolve, e1, Deferred.ofValue]
          simp only [Sem.run_bind, Sem.run_pure, Result.andThen_ok, invoke, hargs, callFunc, run_program, g1, g2, g3]
          rfl
        rw [this]
        refine hcall.mono fun e w' hpost => ?_
        obtain ⟨v, rfl, hout⟩ := hpost
        exact After.of_out hd hout
      -- what is handed over
      have hev : ∀ (l : List Operand) (i : Nat) c x, (l.map (rho s))[i]? = some c → (l.map a.eval)[i]? = some x → VR w (FBof E.Bor F) β c x := by
        intro l i c x e1 e2
        simp only [List.getElem?_map] at e1 e2
        cases e : l[i]? with
        | none => rw [e] at e1; cases e1
        | some y => rw [e] at e1 e2; cases e1; cases e2; exact h.ev y
      have zipr : ∀ (ts : List TypeId) (l : List AV) (xs : List Value), (∀ (i : Nat) c x, l[i]? = some c → xs[i]? = some x → VR w (FBof E.Bor F) β c x) → ∀ (i : Nat) c x, (ts.zip l)[i]? = some c → xs[i]? = some x → VR w (FBof E.Bor F) β c.2 x := by
        intro ts l xs hr i c x e1 e2
        rw [List.getElem?_zip_eq_some] at e1
        exact hr i c.2 x e1.2 e2
      have zipm : ∀ (ts : List TypeId) (l : List Operand) c, c ∈ ts.zip (l.map (rho s)) → ∀ k, c.2.men k → L k ≠ .free := by
        intro ts l c hc k hk
        obtain ⟨x, hx, e⟩ := List.mem_map.1 (List.of_mem_zip hc).2
        rw [← e] at hk
        exact h.evm x k hk
      split at hk
      · rename_i fid fs cs
        cases hfe : a.eval f <;> rw [hfe] at hfv <;> try (cases hfv; done)
        rename_i fn fsv csv
        cases hfv with | fn _ _ _ _ _ hfl hf' hcl hc' =>
        have hk := eval_vals h hW _ _ hk
        have hz : (ts.toList.zip (xs.toList.map (rho s))).length = xs.toList.length := by simp [htl]
        obtain ⟨args, hk, hl1, hl2, hl3⟩ := lendL_ok hL h (wr fid) _ (fsv.toList ++ (xs.toList.map a.eval ++ csv.toList)) _ hk (by simp [hz, hfl, hcl]) (fun i c x e1 e2 => by
          by_cases h1 : i < fs.length
          · rw [List.getElem?_append_left (by simpa using h1)] at e1
            rw [List.getElem?_append_left (by simp [hfl, h1])] at e2
            rw [List.getElem?_map] at e1
            cases e : fs[i]? with
            | none => rw [e] at e1; cases e1
            | some d => rw [e] at e1; cases e1; exact hf' i d x e (by simpa using e2)
          · rw [List.getElem?_append_right (by simp; omega)] at e1
            rw [List.getElem?_append_right (by simp [hfl]; omega)] at e2
            simp only [List.length_map, Array.length_toList, hfl] at e1 e2
            by_cases h2 : i - fs.length < xs.toList.length
            · rw [List.getElem?_append_left (by rw [hz]; exact h2)] at e1
              rw [List.getElem?_append_left (by simpa using h2)] at e2
              exact zipr _ _ _ (hev xs.toList) _ c x e1 e2
            · rw [List.getElem?_append_right (by rw [hz]; omega), hz] at e1
              rw [List.getElem?_append_right (by simp at h2 ⊢; omega)] at e2
              simp only [List.length_map] at e2
              rw [List.getElem?_map] at e1
              cases e : cs[i - fs.length - xs.toList.length]? with
              | none => rw [e] at e1; cases e1
              | some d => rw [e] at e1; cases e1; exact hc' _ d x e (by simpa using e2))
        refine go fid fsv csv args _ hfe hk (by simp) (by rw [hl1]; simp [hz, hfl, hcl]) hl2 fun k hk => ?_
        obtain ⟨c, hc, hcm⟩ := hl3 k hk
        rcases List.mem_append.1 hc with hc | hc
        · obtain ⟨v, hv, rfl⟩ := List.mem_map.1 hc
          exact hfm k (by simp only [AV.men]; exact .inl (AV.menL_mem hv hcm))
        · rcases List.mem_append.1 hc with hc | hc
          · exact zipm _ _ c hc k hcm
          · obtain ⟨v, hv, rfl⟩ := List.mem_map.1 hc
            exact hfm k (by simp only [AV.men]; exact .inr (AV.menL_mem hv hcm))
      · rename_i fid cs
        obtain ⟨csv, hfe, hcl, hc'⟩ : ∃ csv, a.eval f = .func (.func fid) #[] csv ∧ csv.size = cs.length ∧ ∀ (i : Nat) c v, cs[i]? = some c → csv[i]? = some v → PR w (FBof E.Bor F) c v := by
          generalize a.eval f = fv at hfv
          cases hfv with | p hfv => cases hfv with | fn _ _ vs hl hr => exact ⟨vs, rfl, hl, hr⟩
        have hk := eval_vals h hW _ _ hk
        have hz : (ts.toList.zip (xs.toList.map (rho s))).length = xs.toList.length := by simp [htl]
        obtain ⟨args, hk, hl1, hl2, hl3⟩ := lendL_ok hL h (wr fid) _ (xs.toList.map a.eval ++ csv.toList) _ hk (by simp [hz, hcl]) (fun i c x e1 e2 => by
            by_cases h2 : i < xs.toList.length
            · rw [List.getElem?_append_left (by rw [hz]; exact h2)] at e1
              rw [List.getElem?_append_left (by simpa using h2)] at e2
              exact zipr _ _ _ (hev xs.toList) _ c x e1 e2
            · rw [List.getElem?_append_right (by rw [hz]; omega), hz] at e1
              rw [List.getElem?_append_right (by simp at h2 ⊢; omega)] at e2
              simp only [List.length_map] at e2
              rw [List.getElem?_map] at e1
              cases e : cs[i - xs.toList.length]? with
              | none => rw [e] at e1; cases e1
              | some d => rw [e] at e1; cases e1; exact .p (hc' _ d x e (by simpa using e2)))
        refine go fid #[] csv args _ hfe hk (by simp) (by rw [hl1]; simp [hz, hcl]) hl2 fun k hk => ?_
        obtain ⟨c, hc, hcm⟩ := hl3 k hk
        rcases List.mem_append.1 hc with hc | hc
        · exact zipm _ _ c hc k hcm
        · obtain ⟨v, hv, rfl⟩ := List.mem_map.1 hc
          simp only [AV.men] at hcm
      · exact hk.elim
  all_goals exact hk.elim
end
end Go.Proofs.Ytkaooejeljdbnaa
