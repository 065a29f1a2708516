/- Each operation does to the machine what 'opSem' says (second part): one lemma an operation. -/
import Derived.Test.YtkaooejeljdbnaaAb3
namespace Go.Proofs.Ytkaooejeljdbnaa
open Go
set_option linter.unusedVariables false
set_option linter.unusedSimpArgs false

section
variable {P : Program} {Γ : Tab} (hΓ : GOK P Γ)
include hΓ

theorem agg_iff {t : TypeId} {i : TI} (h : Γ t = some i) (w : World) : (isAgg t).run P w = .ok i.d.agg w := by
  have := (hΓ t i h).desc
  unfold isAgg
  cases hd : i.d with
  | other =>
    rw [hd] at this
    obtain ⟨d, h1, h2⟩ := this
    cases d <;> first | exact h2.elim | (simp [run_underlying h1, Ty.agg]; done)
  | struct fs => rw [hd] at this; obtain ⟨fields, h1, _⟩ := this; simp [run_underlying h1, Ty.agg]
  | _ => rw [hd] at this; simp [run_underlying this, Ty.agg]

theorem size_run {t : TypeId} {i : TI} (h : Γ t = some i) (w : World) : (sizeOf t).run P w = .ok i.size w := by
  obtain ⟨info, z, h1, h2, _⟩ := (hΓ t i h).info
  simp [sizeOf, typeInfo, h1, h2]

theorem zero_run {t : TypeId} {i : TI} (h : Γ t = some i) : ∃ z, (∀ w, (zeroValue t).run P w = .ok z w) ∧ z.cells.size = i.size ∧ i.zero.length = i.size ∧ ∀ w FB (j : Nat) c v, i.zero[j]? = some c → z.cells[j]? = some v → PR w FB c v := by
  obtain ⟨info, z, h1, h2, h3, h4, h5, h6, h7⟩ := (hΓ t i h).info
  exact ⟨z, fun w => by simp [zeroValue, typeInfo, h1, h4], h5, h6, h7⟩

theorem info_of {t : TypeId} {i : TI} (h : Γ t = some i) : ∃ info z, P.info? t = some info ∧ info.size = i.size ∧ info.bytes = i.bytes ∧ info.zero = some z ∧ z.cells.size = i.size := by
  obtain ⟨info, z, h1, h2, h3, h4, h5, h6, h7⟩ := (hΓ t i h).info
  exact ⟨info, z, h1, h2, h3, h4, h5⟩
end

section
variable {P : Program} {Γ : Tab} {E : Env} {n : Nat} {s : Nat → AV} {L : Hd → Blk} {a : Act} {w : World} {F : Nat → Prop} {β : Hd → Option Nat × Nat} {K : AV → List (Hd × Blk) → Prop}
  {W : Operand → (AV → Prop) → Prop} {LK : Hd → (Blk → Prop) → Prop}

theorem out_move (hW : ∀ x K, W x K → K (rho s x)) (h : StI E n s L a w F β) {x : Operand} (hk : W x fun v => K v []) : Out P E n s L a K (.ok (a.eval x) w) :=
  .same h (hW _ _ hk) (h.ev x) (h.evm x)

theorem menL_map_p (l : List PV) (k : Hd) : ¬ AV.menL (l.map .p) k := by
  induction l with
  | nil => simp [AV.menL]
  | cons p l ih => simp only [List.map_cons, AV.menL, AV.men, false_or]; exact ih

variable {wr : FuncId → Bool} {base : Nat}

theorem out_pick (hW : ∀ x K, W x K → K (rho s x)) (h : StI E n s L a w F β) {c x y : Operand} (hk : opSem Γ P wr W LK L base (.pick c x y) K) :
    Out P E n s L a K ((do pure (if ← asBool (a.eval c) then a.eval x else a.eval y) : Sem Value).run P w) := by
  have hc := h.ev c
  have hk := hW c _ hk
  generalize rho s c = vc at hk hc
  generalize a.eval c = xc at hc
  split at hk
  · cases hc; simp [asBool]; exact out_move hW h hk
  · cases hc; simp [asBool]; exact out_move hW h hk
  · rename_i t
    cases hc with | p hc => cases hc
                            cases t
                            · simp [asBool]; exact out_move hW h hk
                            · simp [asBool]; exact out_move hW h hk
  · exact hk.elim

theorem push_old (w : World) (o : Obj) {b : Nat} (h : b < w.heap.size) : (w.alloc o).heap[b]? = w.heap[b]? := by
  show (w.heap.push o)[b]? = _
  rw [Array.getElem?_push, if_neg (by omega)]
theorem push_new (w : World) (o : Obj) : (w.alloc o).heap[w.heap.size]? = some o := by
  show (w.heap.push o)[w.heap.size]? = _
  rw [Array.getElem?_push, if_pos rfl]

theorem StI.fblt (h : StI E n s L a w F β) : ∀ m b, FBof E.Bor F m b → b < w.heap.size := by
  intro m b hb
  cases m
  · exact h.flt b hb
  · exact Nat.lt_of_lt_of_le (h.keeplt b (h.bor b hb)) h.size

theorem StI.vr_alloc (h : StI E n s L a w F β) (o : Obj) (hfree : L base = .free) (r : Option Nat × Nat) {v : AV} {x : Value} (hv : VR w (FBof E.Bor F) β v x) (hm : ∀ k, v.men k → L k ≠ .free) :
    VR (w.alloc o) (FBof E.Bor F) (upd β base r) v x :=
  hv.mono (fun _ _ => id) (fun m b hb => push_old w o (h.fblt m b hb)) fun k hk => upd_other _ _ fun e => hm k hk (e ▸ hfree)

theorem StI.pr_alloc (h : StI E n s L a w F β) (o : Obj) {v : PV} {x : Value} (hv : PR w (FBof E.Bor F) v x) : PR (w.alloc o) (FBof E.Bor F) v x :=
  hv.mono (fun _ _ => id) (fun m b hb => push_old w o (h.fblt m b hb))

theorem out_box0 (h : StI E n s L a w F β) (hf : ∀ v ups, K v ups → ∀ x ∈ ups, base ≤ x.1.key → FreeAt L x.1.key) {t : TypeId} {arr : Array Value} {cs : List AV} (hk : K (.bptr base 0) [(base, .box t cs)])
    (hone : ∀ c ∈ cs, c.one = true) (hl : arr.size = cs.length) (hc : ∀ (i : Nat) c v, cs[i]? = some c → arr[i]? = some v → VR w (FBof E.Bor F) β c v) (hm : ∀ k, AV.menL cs k → L k ≠ .free) :
    Out P E n s L a K (.ok (.pointer (some ⟨w.heap.size, 0, none⟩)) (w.alloc (.cells arr t))) := by
  have hfree : L base = .free := (hf _ _ hk (base, .box t cs) (by simp) (Nat.le_refl _)).1
  refine .new h arr t (.box t cs) base 0 hk hfree ⟨hone, w.heap.size, arr, by rw [upd_same], push_new w _, hl, fun i c v h1 h2 => ?_⟩ trivial (fun j hj => hm j hj) (.bptr (by rw [upd_same])) (fun k hk => .inl hk.symm)
  exact h.vr_alloc _ hfree _ (hc i c v h1 h2) fun k hk => hm k (AV.menL_mem (List.mem_of_getElem? h1) hk)

theorem out_alloc (hΓ : GOK P Γ) (h : StI E n s L a w F β) (hf : ∀ v ups, K v ups → ∀ x ∈ ups, base ≤ x.1.key → FreeAt L x.1.key) {t : TypeId} (hk : opSem Γ P wr W LK L base (.alloc t) K) :
    Out P E n s L a K ((Instr.alloc t true (.tuple #[])).run P w) := by
  simp only [opSem] at hk
  split at hk
  · rename_i i hi
    obtain ⟨z, hz, h1, h2, h3⟩ := zero_run hΓ hi
    have hk := mapPK_ok hk
    have hr : (Instr.alloc t true (.tuple #[])).run P w = .ok (.pointer (some ⟨w.heap.size, 0, none⟩)) (w.alloc (.cells z.cells t)) := by
      simp [Instr.alloc, hz, newVar, newRow]
    rw [hr]
    refine out_box0 h hf hk (fun c hc => ?_) (by rw [h1]; simp [h2]) (fun j c v e1 e2 => ?_) fun k hk => (menL_map_p _ k hk).elim
    · obtain ⟨p, hp, rfl⟩ := List.mem_map.1 hc; exact (hΓ t i hi).plain p hp
    · rw [List.getElem?_map] at e1
      cases e : i.zero[j]? with
      | none => rw [e] at e1; cases e1
      | some p => rw [e] at e1; cases e1; exact .p (h3 w _ j p v e e2)
  · exact hk.elim

theorem out_box (hW : ∀ x K, W x K → K (rho s x)) (h : StI E n s L a w F β) (hf : ∀ v ups, K v ups → ∀ x ∈ ups, base ≤ x.1.key → FreeAt L x.1.key) {t : TypeId} {x : Operand} (hk : opSem Γ P wr W LK L base (.box t x) K) :
    Out P E n s L a K ((Instr.box t (a.eval x)).run P w) := by
  obtain ⟨cs, hk, hc, hm⟩ := cellsOf_ok (hW x _ hk)
  obtain ⟨h1, h0, h2⟩ := hc _ _ _ _ (h.ev x)
  have hr : (Instr.box t (a.eval x)).run P w = .ok (.pointer (some ⟨w.heap.size, 0, none⟩)) (w.alloc (.cells (a.eval x).cells t)) := by
    simp [Instr.box, newVar, newRow]
  rw [hr]
  exact out_box0 h hf hk h0 h1 h2 fun k hk => h.evm x k (hm k hk)

theorem run_loadAt (hΓ : GOK P Γ) {t : TypeId} {i : TI} (hi : Γ t = some i) (w : World) (b off : Nat) (f : Nat → Value) (hc : ∀ j, j < (if i.d.agg then i.size else 1) → w.cell? ⟨b, off + j, none⟩ = some (f j)) :
    (Instr.loadAt t (.pointer (some ⟨b, off, none⟩))).run P w = .ok (if i.d.agg then .agg ((List.range i.size).map f).toArray else f 0) w := by
  have ha := agg_iff hΓ hi w
  have hs := size_run hΓ hi w
  cases e : i.d.agg with
  | true =>
    rw [e] at ha hc
    have hl := run_loadCells (P := P) w ⟨b, off, none⟩ i.size f (fun j hj => by rw [Addr.add_lit]; exact hc j (by simpa using hj))
    simp [Instr.loadAt, Instr.sureAddr, loadVar, ha, hs, hl]
  | false =>
    rw [e] at ha hc
    have h0 := hc 0 (by simp)
    simp only [Nat.add_zero] at h0
    simp [Instr.loadAt, Instr.sureAddr, loadVar, ha, h0]

theorem range_get (f : Nat → Value) (m i : Nat) (v : Value) (h : ((List.range m).map f).toArray[i]? = some v) : i < m ∧ v = f i := by
  simp only [List.getElem?_toArray, List.getElem?_map, List.getElem?_range'] at h
  by_cases hi : i < m
  · rw [List.getElem?_range hi] at h; cases h; exact ⟨hi, rfl⟩
  · rw [List.getElem?_eq_none (by simp; omega)] at h; cases h

theorem menL_sub {cs l : List AV} (h : ∀ c ∈ l, c ∈ cs) {k : Hd} (hk : AV.menL l k) : AV.menL cs k := by
  induction l with
  | nil => simp only [AV.menL] at hk
  | cons c l ih =>
    simp only [AV.menL] at hk
    rcases hk with hk | hk
    · exact AV.menL_mem (h c (by simp)) hk
    · exact ih (fun c hc => h c (by simp [hc])) hk

/-- An operation that leaves all as it is. -/
inductive OutS (L : Hd → Blk) (w : World) (FB : Bool → Nat → Prop) (β : Hd → Option Nat × Nat) (K : AV → List (Hd × Blk) → Prop) : Result Value → Prop
  | mk {v : AV} {x : Value} (hk : K v []) (hv : VR w FB β v x) (hm : ∀ k, v.men k → L k ≠ .free) : OutS L w FB β K (.ok x w)

theorem load_ok (hΓ : GOK P Γ) (hW : ∀ x K, W x K → K (rho s x)) (hL : ∀ h K, LK h K → K (L h)) (h : StI E n s L a w F β) {t : TypeId} {x : Operand} (hk : opSem Γ P wr W LK L base (.load t x) K) :
    OutS L w (FBof E.Bor F) β K ((Instr.loadAt t (a.eval x)).run P w) := by
  have hx := h.ev x
  have hm := h.evm x
  have hk := hW x _ hk
  generalize rho s x = v at hk hx hm
  generalize a.eval x = y at hx
  split at hk
  · -- a variable's block
    rename_i hd off
    have hk := hL hd _ hk
    have hb := h.blks hd
    have hmb := h.mb hd
    generalize hB : L hd = B at hk hb hmb
    split at hk
    · rename_i T cs i hi
      obtain ⟨h0, b, arr, g1, g2, g3, g4⟩ := hb
      cases hx with | @bptr _ _ b' hb' =>
      rw [g1] at hb'; cases hb'
      have cell : ∀ j, off + j < cs.length → w.cell? ⟨b, off + j, none⟩ = some (arr.getD (off + j) Go.undef) := fun j hj => by
        simp only [World.cell?, g2]; simp [Array.getD, g3, hj]
      split at hk
      · rename_i ha
        have hlen := rangeK_len hk
        have hk := rangeK_ok hk (.inl hlen)
        obtain ⟨r, hk, hr, hrm⟩ := mkAgg_ok hk
        have hrun := run_loadAt hΓ hi w b off (fun j => arr.getD (off + j) Go.undef) (fun j hj => cell j (by rw [ha] at hj; simp at hj; omega))
        rw [hrun, ha]
        simp only [if_true]
        refine .mk hk (hr _ _ _ _ (fun c hc => h0 c (List.mem_of_mem_drop (List.mem_of_mem_take hc))) (by simp; omega) fun j c v e1 e2 => ?_) fun k hk => hmb k (menL_sub (fun c hc => List.mem_of_mem_drop (List.mem_of_mem_take hc)) (hrm k hk))
        obtain ⟨hj, rfl⟩ := range_get _ _ _ _ e2
        rw [List.getElem?_take_of_lt hj, List.getElem?_drop] at e1
        exact g4 _ c _ e1 (by simp [Array.getD, g3, (List.getElem?_eq_some_iff.1 e1).1])
      · rename_i ha
        obtain ⟨c, hc, hk⟩ := getC_ok hk
        have hlt := (List.getElem?_eq_some_iff.1 hc).1
        have hrun := run_loadAt hΓ hi w b off (fun j => arr.getD (off + j) Go.undef) (fun j hj => cell j (by rw [ha] at hj; simp at hj; omega))
        rw [hrun, ha]
        simp only [Bool.false_eq_true, if_false, Nat.add_zero]
        exact .mk hk (g4 off c _ hc (by simp [Array.getD, g3, hlt])) fun k hk => hmb k (AV.menL_mem (List.mem_of_getElem? hc) hk)
    · exact hk.elim
  · -- an element of a row
    rename_i hd Wd i off
    have hk := hL hd _ hk
    have hb := h.blks hd
    have hmb := h.mb hd
    generalize hB : L hd = B at hk hb
    split at hk
    · rename_i T W' es ti hi
      cases hWd : Nat.beq Wd W' with
      | false => rw [hWd] at hk; exact hk.elim
      | true =>
        rw [hWd] at hk
        have hWd := Nat.eq_of_beq_eq_true hWd
        subst hWd
        simp only [cond_true] at hk
        cases hk with | mk j e hij he hk =>
        have hij : i = j := by omega
        subst hij
        obtain ⟨q1, q2, q3⟩ := hb
        cases hx with | @eptr _ _ _ _ b hb' =>
        obtain ⟨arr, g1, g2, g3, g4⟩ : ∃ arr, (β hd).1 = some b ∧ w.heap[b]? = some (.cells arr T (0, 0)) ∧ arr.size = (β hd).2 * Wd ∧ ∀ (i : Nat) e (j : Nat) c v, es[i]? = some e → e.cells[j]? = some c → arr[i * Wd + j]? = some v → PR w (FBof E.Bor F) c v := by
          rcases q3 with q3 | ⟨b', arr, g1, g2, g3, g4⟩
          · rw [q3.1] at hb'; cases hb'
          · rw [g1] at hb'; cases hb'; exact ⟨arr, g1, g2, g3, g4⟩
        have hlt := (List.getElem?_eq_some_iff.1 he).1
        obtain ⟨hw, hone⟩ := q1 e (List.mem_of_getElem? he)
        have hin : ∀ j, j < Wd → i * Wd + j < arr.size := fun j hj => by
          rw [g3]
          have : (i + 1) * Wd ≤ (β hd).2 * Wd := Nat.mul_le_mul_right _ (by omega)
          rw [Nat.add_mul] at this; omega
        have cell : ∀ j, j < Wd → w.cell? ⟨b, i * Wd + j, none⟩ = some (arr.getD (i * Wd + j) Go.undef) := fun j hj => by
          simp only [World.cell?, g2]; simp [Array.getD, hin j hj]
        cases ha : ti.d.agg with
        | true =>
          simp only [ha] at hk
          cases off with
          | succ o =>
            cases e with
            | agg cs =>
              obtain ⟨hle, hk⟩ := rangeP_ok hk
              have hcl : cs.length = Wd := hw
              have hrun := run_loadAt hΓ hi w b (i * Wd + (o + 1)) (fun j => arr.getD (i * Wd + (o + 1) + j) Go.undef) (fun j hj => by
                rw [ha] at hj; simp at hj
                have := cell ((o + 1) + j) (by omega)
                rwa [← Nat.add_assoc] at this)
              rw [hrun, ha]
              simp only [if_true]
              refine .mk hk (.p (.agg _ _ (fun c hc => hone c (List.mem_of_mem_drop (List.mem_of_mem_take hc))) (by simp; omega) fun j c v e1 e2 => ?_)) fun k hk => by simp only [AV.men] at hk
              obtain ⟨hj, rfl⟩ := range_get _ _ _ _ e2
              rw [List.getElem?_take_of_lt hj, List.getElem?_drop] at e1
              have hin := hin ((o + 1) + j) (by omega)
              rw [← Nat.add_assoc] at hin
              have gs : ∀ m, m < arr.size → arr[m]? = some (arr.getD m Go.undef) := fun m hm => by simp [Array.getD, hm]
              exact g4 i _ ((o + 1) + j) c _ he e1 (by rw [← Nat.add_assoc]; exact gs _ hin)
            | _ => exact hk.elim
          | zero =>
            cases e with
            | agg cs =>
              cases hsz : Nat.beq ti.size Wd with
              | false =>
                rw [hsz] at hk
                have hk : rangeP cs 0 ti.size fun l => K (.p (.agg l)) [] := hk
                obtain ⟨hle, hk⟩ := rangeP_ok hk
                have hcl : cs.length = Wd := hw
                have hrun := run_loadAt hΓ hi w b (i * Wd + 0) (fun j => arr.getD (i * Wd + 0 + j) Go.undef) (fun j hj => by
                  rw [ha] at hj; simp at hj
                  have := cell (0 + j) (by omega)
                  rwa [← Nat.add_assoc] at this)
                rw [hrun, ha]
                simp only [if_true]
                refine .mk hk (.p (.agg _ _ (fun c hc => hone c (List.mem_of_mem_drop (List.mem_of_mem_take hc))) (by simp; omega) fun j c v e1 e2 => ?_)) fun k hk => by simp only [AV.men] at hk
                obtain ⟨hj, rfl⟩ := range_get _ _ _ _ e2
                rw [List.getElem?_take_of_lt hj, List.getElem?_drop] at e1
                have hin := hin (0 + j) (by omega)
                rw [← Nat.add_assoc] at hin
                have gs : ∀ m, m < arr.size → arr[m]? = some (arr.getD m Go.undef) := fun m hm => by simp [Array.getD, hm]
                exact g4 i _ (0 + j) c _ he e1 (by rw [← Nat.add_assoc]; exact gs _ hin)
              | true =>
                rw [hsz] at hk
                have hsz := Nat.eq_of_beq_eq_true hsz
                have hrun := run_loadAt hΓ hi w b (i * Wd + 0) (fun j => arr.getD (i * Wd + j) Go.undef) (fun j hj => by rw [ha] at hj; simp at hj; simpa using cell j (by omega))
                rw [hrun, ha]
                simp only [if_true]
                refine .mk hk (.p (.agg cs _ hone (by simp [hsz]; exact hw.symm) fun j c v e1 e2 => ?_)) fun k hk => by simp only [AV.men] at hk
                obtain ⟨hj, rfl⟩ := range_get _ _ _ _ e2
                exact g4 i _ j c _ he e1 (by simp [Array.getD, hin j (by omega)])
            | _ => exact hk.elim
        | false =>
          have hk : getPV e.cells off fun c => K (.p c) [] := by simpa only [ha] using hk
          obtain ⟨c, hc, hk⟩ := getPV_ok hk
          have hofl := (List.getElem?_eq_some_iff.1 hc).1
          rw [hw] at hofl
          have hrun := run_loadAt hΓ hi w b (i * Wd + off) (fun j => arr.getD (i * Wd + off + j) Go.undef) (fun j hj => by rw [ha] at hj; simp at hj; subst hj; simpa using cell off hofl)
          rw [hrun, ha]
          simp only [Bool.false_eq_true, if_false, Nat.add_zero]
          exact .mk hk (.p (g4 i _ off c _ he hc (by simp [Array.getD, hin off hofl]))) fun k hk => by simp only [AV.men] at hk
    · rename_i T cs ti hi
      cases hcond : (Nat.beq Wd 1 && (Nat.beq off 0 && !ti.d.agg)) with
      | false => rw [hcond] at hk; exact hk.elim
      | true =>
        rw [hcond] at hk
        have hk2 : SIdxA cs i fun c => K c [] := hk
        clear hk
        simp only [Bool.and_eq_true, Bool.not_eq_true'] at hcond
        obtain ⟨hWd, hoff, ha⟩ := hcond
        have hWd := Nat.eq_of_beq_eq_true hWd
        have hoff := Nat.eq_of_beq_eq_true hoff
        subst hWd hoff
        cases hk2 with | mk j c hij hc hk =>
        have hij : i = j := by omega
        subst hij
        obtain ⟨q1, q2, q3⟩ := hb
        cases hx with | @eptr _ _ _ _ b hb' =>
        obtain ⟨arr, g1, g2, g3, g4⟩ : ∃ arr, (β hd).1 = some b ∧ w.heap[b]? = some (.cells arr T (0, 0)) ∧ arr.size = (β hd).2 ∧ ∀ (i : Nat) c v, cs[i]? = some c → arr[i]? = some v → VR w (FBof E.Bor F) β c v := by
          rcases q3 with q3 | ⟨b', arr, g1, g2, g3, g4⟩
          · rw [q3.1] at hb'; cases hb'
          · rw [g1] at hb'; cases hb'; exact ⟨arr, g1, g2, g3, g4⟩
        have hlt := (List.getElem?_eq_some_iff.1 hc).1
        have hin : i < arr.size := by omega
        have cell : w.cell? ⟨b, i * 1 + 0, none⟩ = some (arr.getD i Go.undef) := by
          simp only [World.cell?, g2]; simp [Array.getD, hin]
        have hrun := run_loadAt hΓ hi w b (i * 1 + 0) (fun j => arr.getD (i + j) Go.undef) (fun j hj => by rw [ha] at hj; simp at hj; subst hj; simpa using cell)
        rw [hrun, ha]
        simp only [Bool.false_eq_true, if_false, Nat.add_zero]
        exact .mk hk (g4 i c _ hc (by simp [Array.getD, hin])) fun k hk => hmb k (by rw [hB]; exact AV.menL_mem (List.mem_of_getElem? hc) hk)
    · exact hk.elim
  · -- what is read alone
    rename_i m e
    cases hx with | p hx =>
    cases hx with | pel _ _ b off vals hb hone hv hr =>
    split at hk
    · rename_i ti hi
      cases ha : ti.d.agg with
      | true =>
        simp only [ha] at hk
        cases e with
        | agg cs =>
          cases hsz : Nat.beq ti.size cs.length with
          | false => simp only [hsz] at hk; exact hk.elim
          | true =>
            simp only [hsz] at hk
            have hsz := Nat.eq_of_beq_eq_true hsz
            have hrun := run_loadAt hΓ hi w b off vals (fun j hj => by rw [ha] at hj; simp at hj; exact hv j _ (List.getElem?_eq_getElem (by show j < cs.length; omega)))
            rw [hrun, ha]
            simp only [if_true]
            refine .mk hk (.p (.agg cs _ hone (by simp [hsz]) fun j c v e1 e2 => ?_)) fun k hk => by simp only [AV.men] at hk
            obtain ⟨hj, rfl⟩ := range_get _ _ _ _ e2
            exact hr j c e1
        | _ => exact hk.elim
      | false =>
        have key : ∃ c, e.cells[0]? = some c ∧ K (.p c) [] := by
          simp only [ha] at hk
          cases e with
          | agg cs => exact getPV_ok hk
          | _ => exact ⟨_, rfl, hk⟩
        obtain ⟨c, hc, hk⟩ := key
        have hrun := run_loadAt hΓ hi w b off vals (fun j hj => by rw [ha] at hj; simp at hj; subst hj; exact hv 0 c hc)
        rw [hrun, ha]
        simp only [Bool.false_eq_true, if_false]
        exact .mk hk (.p (hr 0 c hc)) fun k hk => by simp only [AV.men] at hk
    · exact hk.elim
  · exact hk.elim
theorem out_load (hΓ : GOK P Γ) (hW : ∀ x K, W x K → K (rho s x)) (hL : ∀ h K, LK h K → K (L h)) (h : StI E n s L a w F β) {t : TypeId} {x : Operand} (hk : opSem Γ P wr W LK L base (.load t x) K) :
    Out P E n s L a K ((Instr.loadAt t (a.eval x)).run P w) := by
  have := load_ok hΓ hW hL h hk
  generalize (Instr.loadAt t (a.eval x)).run P w = r at this
  cases this with
  | mk hk hv hm => exact .same h hk hv hm
end
end Go.Proofs.Ytkaooejeljdbnaa
