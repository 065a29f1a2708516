/- Each operation does to the machine what 'opSem' says (fourth part). -/
import Derived.Test.YtkaooejeljdbnaaAb5
namespace Go.Proofs.Ytkaooejeljdbnaa
open Go
set_option linter.unusedVariables false
set_option linter.unusedSimpArgs false

section
variable {P : Program} {Γ : Tab} {E : Env} {n : Nat} {s : Nat → AV} {L : Hd → Blk} {a : Act} {w : World} {F : Nat → Prop} {β : Hd → Option Nat × Nat} {K : AV → List (Hd × Blk) → Prop}
  {W : Operand → (AV → Prop) → Prop} {LK : Hd → (Blk → Prop) → Prop} {wr : FuncId → Bool} {base : Nat}

theorem foldl_splice (off : Nat) : ∀ (vs : List Value) (k : Nat) (cells : Array Value), off + k + vs.length ≤ cells.size →
    ((vs.zipIdx k).foldl (fun cs x => cs.setIfInBounds (off + x.2) x.1) cells).toList = cells.toList.take (off + k) ++ vs ++ cells.toList.drop (off + k + vs.length) := by
  intro vs
  induction vs with
  | nil => intro k cells _; simp
  | cons v vs ih =>
    intro k cells h
    simp only [List.length_cons] at h
    simp only [List.zipIdx_cons, List.foldl_cons]
    rw [ih (k + 1) _ (by simp; omega)]
    simp only [Array.toList_setIfInBounds]
    have hk : off + k < cells.toList.length := by simp; omega
    rw [show off + (k + 1) = off + k + 1 by omega, List.take_succ_eq_append_getElem (by simpa using hk), List.getElem_set_self, List.take_set_of_le (Nat.le_refl _), List.drop_set_of_lt (by omega)]
    simp only [List.append_assoc, List.singleton_append, List.length_cons]
    congr 3
    omega

theorem fill_one (place : Nat → Option (Nat × Nat)) (cells : Array Value) (i : Nat) (v : Value) (rest : List (Nat × Value)) (off : Nat) (hp : place i = some (off, v.cells.size)) (hl : off + v.cells.size ≤ cells.size) :
    Instr.fill place cells ((i, v) :: rest) = Instr.fill place (cells.toList.take off ++ v.cells.toList ++ cells.toList.drop (off + v.cells.size)).toArray rest := by
  have hf := foldl_splice off v.cells.toList 0 cells (by simpa using hl)
  simp only [Nat.add_zero, Array.length_toList] at hf
  have e : v.cells.zipIdx.foldl (fun cs (x : Value × Nat) => cs.setIfInBounds (off + x.2) x.1) cells = (cells.toList.take off ++ v.cells.toList ++ cells.toList.drop (off + v.cells.size)).toArray := by
    apply Array.ext'
    rw [← hf, ← Array.foldl_toList]
    simp [Array.toList_zipIdx]
  simp only [Instr.fill, hp]
  rw [if_neg (by simp; omega)]
  exact congrArg (fun c => Instr.fill place c rest) e

theorem fill_ok (hΓ : GOK P Γ) (hW : ∀ x K, W x K → K (rho s x)) (h : StI E n s L a w F β) (place : Nat → Option (Nat × TypeId)) (place' : Nat → Option (Nat × Nat))
    (hp : ∀ i off t ti, place i = some (off, t) → Γ t = some ti → place' i = some (off, ti.size)) : ∀ (parts : List (Nat × Operand)) (cs : List AV) (K' : List AV → Prop) (cells : Array Value), buildK Γ W place parts cs K' →
    cells.size = cs.length → (∀ c ∈ cs, c.one = true) → (∀ (i : Nat) c v, cs[i]? = some c → cells[i]? = some v → VR w (FBof E.Bor F) β c v) → (∀ k, AV.menL cs k → L k ≠ .free) →
    ∃ cells' cs', Instr.fill place' cells (parts.map fun x => (x.1, a.eval x.2)) = some cells' ∧ K' cs' ∧ cells'.size = cs'.length ∧ (∀ c ∈ cs', c.one = true) ∧
      (∀ (i : Nat) c v, cs'[i]? = some c → cells'[i]? = some v → VR w (FBof E.Bor F) β c v) ∧ (∀ k, AV.menL cs' k → L k ≠ .free) := by
  intro parts
  induction parts with
  | nil => intro cs K' cells hk h1 h2 h3 h4; exact ⟨cells, cs, rfl, hk, h1, h2, h3, h4⟩
  | cons x parts ih =>
    obtain ⟨i, x⟩ := x
    intro cs K' cells hk h1 h2 h3 h4
    simp only [buildK] at hk
    split at hk
    · rename_i off t hpl
      have hk := hW x _ hk
      obtain ⟨vs, hk, hc, hm⟩ := cellsOf_ok hk
      obtain ⟨c1, c0, c2⟩ := hc _ _ _ _ (h.ev x)
      split at hk
      · rename_i ti hti
        cases hsz : Nat.beq vs.length ti.size with
        | false => rw [hsz] at hk; exact hk.elim
        | true =>
          rw [hsz] at hk
          have hsz := Nat.eq_of_beq_eq_true hsz
          obtain ⟨hlen, hk⟩ := spliceK_ok (K := fun cs' => buildK Γ W place parts cs' K') hk
          have hone := fill_one place' cells i (a.eval x) (parts.map fun x => (x.1, a.eval x.2)) off (by rw [hp i off t ti hpl hti, c1, hsz]) (by rw [c1, h1]; exact hlen)
          rw [List.map_cons, hone]
          refine ih _ K' _ hk (by simp [c1, h1]; try omega) (fun c hc => ?_) (fun j c v e1 e2 => ?_) (fun k hk => ?_)
          · simp only [List.mem_append] at hc
            rcases hc with (hc | hc) | hc
            · exact h2 c (List.mem_of_mem_take hc)
            · exact c0 c hc
            · exact h2 c (List.mem_of_mem_drop hc)
          · rw [splice_get _ _ _ _ hlen] at e1
            simp only [List.getElem?_toArray] at e2
            have e := splice_get cells.toList (a.eval x).cells.toList off j (by simp [c1, h1]; omega)
            simp only [Array.length_toList, c1] at e
            rw [c1, e] at e2
            split at e1
            · rename_i hj; rw [if_pos hj] at e2; exact h3 j c v e1 (by simpa using e2)
            · rename_i hj
              rw [if_neg hj] at e2
              split at e1
              · rename_i hj'; rw [if_pos hj'] at e2; exact c2 (j - off) c v e1 (by simpa using e2)
              · rename_i hj'; rw [if_neg hj'] at e2; exact h3 j c v e1 (by simpa using e2)
          · have key : ∀ l : List AV, AV.menL l k → ∃ c, c ∈ l ∧ c.men k := by
              intro l
              induction l with
              | nil => intro h; simp only [AV.menL] at h
              | cons c l ih =>
                intro h
                simp only [AV.menL] at h
                rcases h with h | h
                · exact ⟨c, by simp, h⟩
                · obtain ⟨c', h1, h2⟩ := ih h; exact ⟨c', by simp [h1], h2⟩
            obtain ⟨c, hc, hcm⟩ := key _ hk
            simp only [List.mem_append] at hc
            rcases hc with (hc | hc) | hc
            · exact h4 k (AV.menL_mem (List.mem_of_mem_take hc) hcm)
            · exact h.evm x k (hm k (AV.menL_mem hc hcm))
            · exact h4 k (AV.menL_mem (List.mem_of_mem_drop hc) hcm)
      · exact hk.elim
    · exact hk.elim

theorem out_build (hΓ : GOK P Γ) (hW : ∀ x K, W x K → K (rho s x)) (h : StI E n s L a w F β) {t : TypeId} {parts : Array (Nat × Operand)} (hk : opSem Γ P wr W LK L base (.build t parts) K) :
    Out P E n s L a K ((Instr.build t (parts.map fun (i, x) => (i, a.eval x))).run P w) := by
  simp only [opSem] at hk
  have hp : (parts.map fun (i, x) => (i, a.eval x)).toList = parts.toList.map fun x => (x.1, a.eval x.2) := by simp
  -- what both kinds share
  have go : ∀ (i : TI) (place : Nat → Option (Nat × TypeId)) (place' : Nat → Option (Nat × Nat)) (z : Value), Γ t = some i → z.cells.size = i.size → i.zero.length = i.size →
      (∀ w FB (j : Nat) c v, i.zero[j]? = some c → z.cells[j]? = some v → PR w FB c v) →
      (∀ i off t ti, place i = some (off, t) → Γ t = some ti → place' i = some (off, ti.size)) →
      (mapPK i.zero fun zs => buildK Γ W place parts.toList zs fun cs => mkAgg cs fun v => K v []) →
      (∀ cells, Instr.fill place' z.cells (parts.toList.map fun x => (x.1, a.eval x.2)) = some cells → P.built t ((parts.map fun (i, x) => (i, a.eval x)).toList) = some cells) →
      Out P E n s L a K ((Instr.build t (parts.map fun (i, x) => (i, a.eval x))).run P w) := by
    intro i place place' z hi z1 z2 z3 hpl hk hb
    have hk := mapPK_ok hk
    obtain ⟨cells, cs, hf, hk, c1, c2, c3, c4⟩ := fill_ok hΓ hW h place place' hpl parts.toList _ _ z.cells hk (by rw [z1]; simp [z2])
      (fun c hc => by obtain ⟨p, hp, rfl⟩ := List.mem_map.1 hc; exact (hΓ t i hi).plain p hp)
      (fun j c v e1 e2 => by
        rw [List.getElem?_map] at e1
        cases e : i.zero[j]? with
        | none => rw [e] at e1; cases e1
        | some p => rw [e] at e1; cases e1; exact .p (z3 w _ j p v e e2)) (fun k hk => (menL_map_p _ k hk).elim)
    rw [run_build w t _ cells (hb cells hf)]
    obtain ⟨r, hk, hr, hrm⟩ := mkAgg_ok hk
    exact .same h hk (hr _ _ _ _ c2 c1 c3) fun k hk => c4 k (hrm k hk)
  split at hk
  · rename_i fs sz by_ zero eq hi
    obtain ⟨info, z, h1, h2, h3, h4, h5, h6, h7⟩ := (hΓ t _ hi).info
    obtain ⟨fields, hu, hfs⟩ := (hΓ t _ hi).desc
    cases hall : (fs.all fun f => (Γ f.2).isSome) with
    | false => rw [hall] at hk; exact hk.elim
    | true =>
      rw [hall] at hk
      rw [List.all_eq_true] at hall
      have hplaces : ∀ (l : List Field), (∀ f ∈ l, (Γ f.type).isSome = true) → ∃ places, l.mapM (fun f => (P.info? f.type).map fun i => (f.offset, i.size)) = some places ∧
          ∀ (i : Nat) off ft ti, (l.map fun f => (f.offset, f.type))[i]? = some (off, ft) → Γ ft = some ti → places[i]? = some (off, ti.size) := by
        intro l
        induction l with
        | nil => intro _; exact ⟨[], by simp, by simp⟩
        | cons f l ih =>
          intro hf
          obtain ⟨places, hm, hpl⟩ := ih fun g hg => hf g (by simp [hg])
          obtain ⟨ti, hti⟩ := Option.isSome_iff_exists.1 (hf f (by simp))
          obtain ⟨inf, zz, g1, g2, _⟩ := (hΓ f.type ti hti).info
          refine ⟨(f.offset, inf.size) :: places, by simp [List.mapM_cons, g1, hm], fun i off ft ti' e1 e2 => ?_⟩
          cases i with
          | zero => simp at e1; obtain ⟨rfl, rfl⟩ := e1; rw [hti] at e2; cases e2; simp [g2]
          | succ i => simpa using hpl i off ft ti' (by simpa using e1) e2
      obtain ⟨places, hm, hpl⟩ := hplaces fields.toList (fun f hf => by
        have := hall (f.offset, f.type) (by rw [← hfs]; exact List.mem_map.2 ⟨f, hf, rfl⟩)
        exact this)
      refine go _ (fun i => fs[i]?) (fun i => places.toArray[i]?) z hi h5 h6 h7 (fun i off ft ti e1 e2 => ?_) hk fun cells hf => ?_
      · rw [← hfs] at e1
        simpa using hpl i off ft ti e1 e2
      · simp only [Program.built, h1, hu, h4, hm, hp]; exact hf
  · rename_i m e sz by_ zero eq hi
    obtain ⟨info, z, h1, h2, h3, h4, h5, h6, h7⟩ := (hΓ t _ hi).info
    have hu : P.underlying t = some (.array m e) := (hΓ t _ hi).desc
    split at hk
    · rename_i i hie
      obtain ⟨info', z', g1, g2, _⟩ := (hΓ e i hie).info
      refine go _ (fun j => some (j * i.size, e)) (fun j => some (j * i.size, i.size)) z hi h5 h6 h7 (fun j off ft ti e1 e2 => ?_) hk fun cells hf => ?_
      · cases e1; rw [hie] at e2; cases e2; rfl
      · simp only [Program.built, h1, hu, h4, g1, g2, hp]; exact hf
    · exact hk.elim
  · exact hk.elim

theorem elems_ok (hΓ : GOK P Γ) (hW : ∀ x K, W x K → K (rho s x)) (h : StI E n s L a w F β) (e : TypeId) (size N : Nat) : ∀ (parts : List (Nat × Operand)) (k : Nat) (K' : List PV → Prop) (cells : Array Value),
    elemsK Γ W e size k parts K' → cells.size = N → (k + parts.length) * size ≤ N →
    ∃ cells' es, Instr.fill (fun i => some (i * size, size)) cells (parts.map fun x => (x.1, a.eval x.2)) = some cells' ∧ K' es ∧ es.length = parts.length ∧ cells'.size = N ∧ (∀ e ∈ es, e.cells.length = size ∧ ∀ c ∈ e.cells, c.one = true) ∧
      (∀ j, j < k * size → cells'[j]? = cells[j]?) ∧ (∀ (i : Nat) e (j : Nat) c v, es[i]? = some e → e.cells[j]? = some c → cells'[(k + i) * size + j]? = some v → PR w (FBof E.Bor F) c v) := by
  intro parts
  induction parts with
  | nil => intro k K' cells hk h1 h2; exact ⟨cells, [], rfl, hk, rfl, h1, by simp, fun _ _ => rfl, by simp⟩
  | cons x parts ih =>
    obtain ⟨i, x⟩ := x
    intro k K' cells hk h1 h2
    simp only [elemsK] at hk
    cases hi : Nat.beq i k with
    | false => rw [hi] at hk; exact hk.elim
    | true =>
      rw [hi] at hk
      have hi := Nat.eq_of_beq_eq_true hi
      subst hi
      obtain ⟨v', hk, hv'⟩ := asP_ok (hW x _ hk)
      have hp := hv' _ _ _ _ (h.ev x)
      obtain ⟨c1, c0, c2⟩ := hp.cells
      cases hsz : Nat.beq v'.cells.length size with
      | false => rw [hsz] at hk; exact hk.elim
      | true =>
        rw [hsz] at hk
        have hsz := Nat.eq_of_beq_eq_true hsz
        simp only [cond_true] at hk
        have hroom : i * size + size ≤ N := by
          have : (i + 1) * size ≤ (i + (parts.length + 1)) * size := Nat.mul_le_mul_right _ (by omega)
          rw [Nat.add_mul i 1, Nat.one_mul] at this
          simp only [List.length_cons] at h2
          omega
        have hone := fill_one (fun i => some (i * size, size)) cells i (a.eval x) (parts.map fun x => (x.1, a.eval x.2)) (i * size) (by rw [c1, hsz]) (by rw [c1, hsz, h1]; exact hroom)
        rw [List.map_cons, hone]
        have hsz' : (cells.toList.take (i * size) ++ (a.eval x).cells.toList ++ cells.toList.drop (i * size + (a.eval x).cells.size)).toArray.size = N := by simp [c1, hsz, h1]; omega
        obtain ⟨cells', es, hf, hk, g1, g2, g3, g4, g5⟩ := ih (i + 1) (fun l => K' (v' :: l)) _ hk hsz' (by rw [show i + 1 + parts.length = i + (parts.length + 1) by omega]; exact h2)
        have eg : ∀ j, (cells.toList.take (i * size) ++ (a.eval x).cells.toList ++ cells.toList.drop (i * size + (a.eval x).cells.size)).toArray[j]? = if j < i * size then cells.toList[j]? else if j < i * size + size then (a.eval x).cells.toList[j - i * size]? else cells.toList[j]? := by
          intro j
          have := splice_get cells.toList (a.eval x).cells.toList (i * size) j (by simp [c1, hsz, h1]; exact hroom)
          simp only [Array.length_toList, c1, hsz] at this
          rw [List.getElem?_toArray, c1, hsz, this]
        refine ⟨cells', v' :: es, hf, hk, by simp [g1], g2, fun e' he' => ?_, fun j hj => ?_, fun i' e' j c v e1 e2 e3 => ?_⟩
        · rcases List.mem_cons.1 he' with rfl | he'
          · exact ⟨hsz, c0⟩
          · exact g3 e' he'
        · rw [g4 j (by rw [Nat.add_mul]; omega), eg, if_pos hj]; simp
        · cases i' with
          | zero =>
            simp at e1; subst e1
            have hj : j < size := by rw [← hsz]; exact (List.getElem?_eq_some_iff.1 e2).1
            rw [Nat.add_zero, g4 _ (by rw [Nat.add_mul]; omega), eg, if_neg (by omega), if_pos (by omega)] at e3
            have : i * size + j - i * size = j := by omega
            rw [this] at e3
            exact c2 j c v e2 (by simpa using e3)
          | succ i' => exact g5 i' e' j c v (by simpa using e1) e2 (by rw [show i + 1 + i' = i + (i' + 1) by omega]; exact e3)

theorem rows_ok (hW : ∀ x K, W x K → K (rho s x)) (h : StI E n s L a w F β) (e : TypeId) (N : Nat) : ∀ (parts : List (Nat × Operand)) (k : Nat) (K' : List AV → Prop) (cells : Array Value),
    rowsK Γ W e k parts K' → cells.size = N → k + parts.length ≤ N →
    ∃ cells' cs, Instr.fill (fun i => some (i * 1, 1)) cells (parts.map fun x => (x.1, a.eval x.2)) = some cells' ∧ K' cs ∧ cs.length = parts.length ∧ cells'.size = N ∧ (∀ c ∈ cs, c.one = true) ∧ (∀ k, AV.menL cs k → L k ≠ .free) ∧
      (∀ j, j < k → cells'[j]? = cells[j]?) ∧ (∀ (i : Nat) c v, cs[i]? = some c → cells'[k + i]? = some v → VR w (FBof E.Bor F) β c v) := by
  intro parts
  induction parts with
  | nil => intro k K' cells hk h1 h2; exact ⟨cells, [], rfl, hk, rfl, h1, by simp, fun k hk => by simp only [AV.menL] at hk, fun _ _ => rfl, by simp⟩
  | cons x parts ih =>
    obtain ⟨i, x⟩ := x
    intro k K' cells hk h1 h2
    simp only [rowsK] at hk
    cases hi : Nat.beq i k with
    | false => rw [hi] at hk; exact hk.elim
    | true =>
      rw [hi] at hk
      have hi := Nat.eq_of_beq_eq_true hi
      subst hi
      obtain ⟨c, hk, ho, hv, hm⟩ := rowEl_ok (hW x _ hk)
      have hp := hv _ _ _ _ (h.ev x)
      have hcl := oneCell_cells (hp.oneCell ho)
      simp only [List.length_cons] at h2
      have hone := fill_one (fun i => some (i * 1, 1)) cells i (a.eval x) (parts.map fun x => (x.1, a.eval x.2)) (i * 1) (by rw [hcl]; rfl) (by rw [hcl, h1]; simp; omega)
      rw [List.map_cons, hone]
      have hsz' : (cells.toList.take (i * 1) ++ (a.eval x).cells.toList ++ cells.toList.drop (i * 1 + (a.eval x).cells.size)).toArray.size = N := by rw [hcl]; simp [h1]; omega
      obtain ⟨cells', cs, hf, hk, g1, g2, g3, gm, g4, g5⟩ := ih (i + 1) (fun l => K' (c :: l)) _ hk hsz' (by omega)
      have eg : ∀ j, (cells.toList.take (i * 1) ++ (a.eval x).cells.toList ++ cells.toList.drop (i * 1 + (a.eval x).cells.size)).toArray[j]? = if j < i * 1 then cells.toList[j]? else if j < i * 1 + 1 then (a.eval x).cells.toList[j - i * 1]? else cells.toList[j]? := by
        intro j
        have := splice_get cells.toList (a.eval x).cells.toList (i * 1) j (by rw [hcl]; simp [h1]; omega)
        simp only [Array.length_toList] at this
        rw [List.getElem?_toArray, this, hcl]
        rfl
      refine ⟨cells', c :: cs, hf, hk, by simp [g1], g2, fun e' he' => ?_, fun k hk => ?_, fun j hj => ?_, fun i' c' v e1 e3 => ?_⟩
      · rcases List.mem_cons.1 he' with rfl | he'
        · exact ho
        · exact g3 e' he'
      · simp only [AV.menL] at hk
        exact hk.elim (fun hk => h.evm x k (hm k hk)) (gm k)
      · rw [g4 j (by omega), eg, if_pos (by omega)]; simp
      · cases i' with
        | zero =>
          simp at e1; subst e1
          rw [Nat.add_zero, g4 _ (by omega), eg, if_neg (by omega), if_pos (by omega), hcl] at e3
          simp at e3
          rw [← e3]; exact hp
        | succ i' => exact g5 i' c' v (by simpa using e1) (by rw [show i + 1 + i' = i + (i' + 1) by omega]; exact e3)

theorem evalL_some (hW : ∀ x K, W x K → K (rho s x)) : ∀ (xs : List Operand) (J : List AV → Prop), evalL W xs J → ∃ vs, J vs := by
  intro xs
  induction xs with
  | nil => exact fun J h => ⟨_, h⟩
  | cons x xs ih => exact fun J h => (ih _ (hW x _ h)).elim fun vs h => ⟨_, h⟩

theorem out_buildSlice (hΓ : GOK P Γ) (hW : ∀ x K, W x K → K (rho s x)) (h : StI E n s L a w F β) (hf : ∀ v ups, K v ups → ∀ x ∈ ups, base ≤ x.1.key → FreeAt L x.1.key) {t : TypeId} {m : Nat} {parts : Array (Nat × Operand)}
    (hk : opSem Γ P wr W LK L base (.buildSlice t m parts) K) : Out P E n s L a K ((Instr.buildSlice t m (parts.map fun (i, x) => (i, a.eval x))).run P w) := by
  simp only [opSem] at hk
  split at hk
  · rename_i e _ _ _ _ hi
    have hu : P.underlying t = some (.slice e) := (hΓ t _ hi).desc
    split at hk
    · rename_i i hie
      have hsz := size_run hΓ hie
      obtain ⟨z, hz, z1, z2, z3⟩ := zero_run hΓ hie
      have hk' : (m = 0 ∧ parts.toList = [] ∧ K .emp []) ∨ (elemsK Γ W e i.size 0 parts.toList fun es => cond (Nat.beq es.length m && (Nat.ble (m * i.size) 1000 && Nat.ble 1 (m * i.size))) (K (.vec base i.size 0 m) [(base, .vec e i.size es)]) False) ∨
          (i.size = 1 ∧ rowsK Γ W e 0 parts.toList fun cs => cond (Nat.beq cs.length m && (Nat.ble m 1000 && Nat.ble 1 m)) (K (.vec base 1 0 m) [(base, .rows e cs)]) False) := by
        split at hk
        · exact .inl ⟨rfl, by assumption, hk⟩
        · split at hk
          · rename_i hrow
            have h1 : i.size = 1 := by
              unfold TI.isRow at hrow
              split at hrow
              · exact Nat.eq_of_beq_eq_true hrow
              · cases hrow
            obtain ⟨vs, hk⟩ := evalL_some hW _ _ hk
            split at hk
            · exact .inr (.inr ⟨h1, hk⟩)
            · exact .inr (.inl hk)
          · exact .inr (.inl hk)
      rcases hk' with ⟨hm, hp, hk⟩ | hk | ⟨h1, hk⟩
      · -- none at all
        have hp : parts = #[] := by cases parts; simpa using hp
        subst hp
        subst hm
        have hr : (Instr.buildSlice t 0 (#[].map fun (i, x) => (i, a.eval x))).run P w = .ok (.slice (some ⟨w.heap.size, 0, none⟩) 0 0) (w.alloc (.cells #[] e)) := by
          have e0 : (Array.map (fun x => (default : Value)) (Array.range 0)) = #[] := Array.map_empty
          simp [Instr.buildSlice, run_underlying hu, hsz, Instr.fill, newRow]
          exact congrArg (fun c => w.alloc (Obj.cells c e)) e0
        rw [hr]
        exact ⟨.emp, [], F, β, hk, h.push (.cells #[] e) rfl rfl rfl rfl, .emp _ _, fun k hk => by simp only [AV.men] at hk⟩
      · have key : ∀ es : List PV, (bif Nat.beq es.length m && (Nat.ble (m * i.size) 1000 && Nat.ble 1 (m * i.size)) then K (.vec base i.size 0 m) [(base, .vec e i.size es)] else False) → es.length = m ∧ (m * i.size ≤ 1000 ∧ 1 ≤ m * i.size) ∧ K (.vec base i.size 0 m) [(base, .vec e i.size es)] := by
          intro es hk
          cases hb : Nat.beq es.length m && (Nat.ble (m * i.size) 1000 && Nat.ble 1 (m * i.size)) with
          | false => rw [hb] at hk; exact hk.elim
          | true =>
            rw [hb] at hk
            simp only [Bool.and_eq_true] at hb
            exact ⟨Nat.eq_of_beq_eq_true hb.1, ⟨Nat.le_of_ble_eq_true hb.2.1, Nat.le_of_ble_eq_true hb.2.2⟩, hk⟩
        -- the elements
        have hes : ∃ cells' es, Instr.fill (fun j => some (j * i.size, i.size)) ((Array.range (m * i.size)).map fun x => z.cells[x % z.cells.size]!) (parts.toList.map fun x => (x.1, a.eval x.2)) = some cells' ∧
            (es.length = m ∧ (m * i.size ≤ 1000 ∧ 1 ≤ m * i.size) ∧ K (.vec base i.size 0 m) [(base, .vec e i.size es)]) ∧ cells'.size = m * i.size ∧ (∀ e ∈ es, e.cells.length = i.size ∧ ∀ c ∈ e.cells, c.one = true) ∧
            (∀ (j : Nat) e (o : Nat) c v, es[j]? = some e → e.cells[o]? = some c → cells'[j * i.size + o]? = some v → PR w (FBof E.Bor F) c v) := by
          by_cases hlen : parts.toList.length = m
          · obtain ⟨cells', es, hf, hk, g1, g2, g3, g4, g5⟩ := elems_ok hΓ hW h e i.size (m * i.size) parts.toList 0 _ ((Array.range (m * i.size)).map fun x => z.cells[x % z.cells.size]!) hk (by simp) (by rw [Nat.zero_add, hlen]; exact Nat.le_refl _)
            exact ⟨cells', es, hf, key es hk, g2, g3, fun j e o c v e1 e2 e3 => g5 j e o c v e1 e2 (by rw [Nat.zero_add]; exact e3)⟩
          · -- not as many parts: nothing is said
            have : ∀ (ps : List (Nat × Operand)) (k : Nat) (J : List PV → Prop), elemsK Γ W e i.size k ps J → ∃ es, J es ∧ es.length = ps.length := by
              intro ps
              induction ps with
              | nil => intro k J hj; exact ⟨[], hj, rfl⟩
              | cons x ps ih =>
                obtain ⟨q, x⟩ := x
                intro k J hj
                simp only [elemsK] at hj
                cases hq : Nat.beq q k with
                | false => rw [hq] at hj; exact hj.elim
                | true =>
                  rw [hq] at hj
                  obtain ⟨v', hj, _⟩ := asP_ok (hW x _ hj)
                  cases hs : Nat.beq v'.cells.length i.size with
                  | false => rw [hs] at hj; exact hj.elim
                  | true =>
                    rw [hs] at hj
                    obtain ⟨es, h1, h2⟩ := ih _ _ hj
                    exact ⟨_, h1, by simp [h2]⟩
            obtain ⟨es, h1, h2⟩ := this _ _ _ hk
            exact (hlen (h2 ▸ (key es h1).1)).elim
        obtain ⟨cells', es, hfl, ⟨hl, hle, hk⟩, g2, g3, g5⟩ := hes
        have hm1 : ¬ (m * i.size > 2 ^ 24) := by omega
        have hr : (Instr.buildSlice t m (parts.map fun (i, x) => (i, a.eval x))).run P w = .ok (.slice (some ⟨w.heap.size, 0, none⟩) m m) (w.alloc (.cells cells' e)) := by
          have h0 : ¬ m * i.size = 0 := by omega
          · simp [Instr.buildSlice, run_underlying hu, hsz, h0, hz, newRow]
            rw [if_neg (by omega)]
            simp [hfl]
        rw [hr]
        have hfree : L base = .free := (hf _ _ hk (base, .vec e i.size es) (by simp) (Nat.le_refl _)).1
        refine .new h cells' e (.vec e i.size es) base m hk hfree ⟨g3, by rw [upd_same]; omega, .inr ⟨w.heap.size, cells', by rw [upd_same], push_new w _, by rw [upd_same]; exact g2, fun j e' o c v e1 e2 e3 => h.pr_alloc _ (g5 j e' o c v e1 e2 e3)⟩⟩ trivial (fun j hj => hj.elim) ?_ (fun k hk => .inl hk.symm)
        have := VR.vec (w := w.alloc (.cells cells' e)) (FB := FBof E.Bor F) (β := upd β base (some w.heap.size, m)) (h := base) (W := i.size) (off := 0) (len := m) (b := w.heap.size) (o := 0) (c := m) (by rw [upd_same]) (Nat.le_refl _) (by rw [upd_same]; omega) (fun _ => by simp)
        exact this
      · -- rows of the call's own
        have hlen : ∀ (ps : List (Nat × Operand)) (k : Nat) (J : List AV → Prop), rowsK Γ W e k ps J → ∃ cs, J cs ∧ cs.length = ps.length := by
          intro ps
          induction ps with
          | nil => intro k J hj; exact ⟨[], hj, rfl⟩
          | cons x ps ih =>
            obtain ⟨q, x⟩ := x
            intro k J hj
            simp only [rowsK] at hj
            cases hq : Nat.beq q k with
            | false => rw [hq] at hj; exact hj.elim
            | true =>
              rw [hq] at hj
              obtain ⟨c, hj, _⟩ := rowEl_ok (hW x _ hj)
              obtain ⟨cs, h1, h2⟩ := ih _ _ hj
              exact ⟨_, h1, by simp [h2]⟩
        have key : ∀ cs : List AV, (bif Nat.beq cs.length m && (Nat.ble m 1000 && Nat.ble 1 m) then K (.vec base 1 0 m) [(base, .rows e cs)] else False) → cs.length = m ∧ (m ≤ 1000 ∧ 1 ≤ m) ∧ K (.vec base 1 0 m) [(base, .rows e cs)] := by
          intro cs hk
          cases hb : Nat.beq cs.length m && (Nat.ble m 1000 && Nat.ble 1 m) with
          | false => rw [hb] at hk; exact hk.elim
          | true =>
            rw [hb] at hk
            simp only [Bool.and_eq_true] at hb
            exact ⟨Nat.eq_of_beq_eq_true hb.1, ⟨Nat.le_of_ble_eq_true hb.2.1, Nat.le_of_ble_eq_true hb.2.2⟩, hk⟩
        have hpl : parts.toList.length = m := by
          obtain ⟨cs, h1, h2⟩ := hlen _ _ _ hk
          exact h2 ▸ (key cs h1).1
        obtain ⟨cells', cs, hfl, hk, g1, g2, g3, gm, _, g5⟩ := rows_ok hW h e m parts.toList 0 _ ((Array.range (m * i.size)).map fun x => z.cells[x % z.cells.size]!) hk (by simp [h1]) (by omega)
        obtain ⟨hl, hle, hk⟩ := key cs hk
        have hr : (Instr.buildSlice t m (parts.map fun (i, x) => (i, a.eval x))).run P w = .ok (.slice (some ⟨w.heap.size, 0, none⟩) m m) (w.alloc (.cells cells' e)) := by
          have h0 : ¬ m = 0 := by omega
          rw [h1] at hfl
          · simp [Instr.buildSlice, run_underlying hu, hsz, h1, h0, hz, newRow]
            rw [if_neg (by omega)]
            simp at hfl
            simp [hfl]
        rw [hr]
        have hfree : L base = .free := (hf _ _ hk (base, .rows e cs) (by simp) (Nat.le_refl _)).1
        refine .new h cells' e (.rows e cs) base m hk hfree ⟨g3, by rw [upd_same]; omega, .inr ⟨w.heap.size, cells', by rw [upd_same], push_new w _, by rw [upd_same]; exact g2, fun j c v e1 e2 => h.vr_alloc _ hfree _ (g5 j c v e1 (by rw [Nat.zero_add]; exact e2)) fun k hk => gm k (AV.menL_mem (List.mem_of_getElem? e1) hk)⟩⟩ trivial (fun j hj => gm j hj) ?_ (fun k hk => .inl hk.symm)
        have := VR.vec (w := w.alloc (.cells cells' e)) (FB := FBof E.Bor F) (β := upd β base (some w.heap.size, m)) (h := base) (W := 1) (off := 0) (len := m) (b := w.heap.size) (o := 0) (c := m) (by rw [upd_same]) (Nat.le_refl _) (by rw [upd_same]; omega) (fun _ => by simp)
        exact this
    · exact hk.elim
  · exact hk.elim
end
end Go.Proofs.Ytkaooejeljdbnaa
