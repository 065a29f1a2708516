/- Each operation does to the machine what 'opSem' says (eleventh part): calls. -/
import Derived.Test.YtkaooejeljdbnaaAb12
namespace Go.Proofs.Ytkaooejeljdbnaa
open Go
set_option linter.unusedVariables false
set_option linter.unusedSimpArgs false

section
variable {P : Program} {Γ : Tab} {E : Env} {n : Nat} {s : Nat → AV} {L : Hd → Blk} {a : Act} {w : World} {F : Nat → Prop} {β : Hd → Option Nat × Nat} {K : AV → List (Hd × Blk) → Prop}
  {W : Operand → (AV → Prop) → Prop} {LK : Hd → (Blk → Prop) → Prop} {base : Nat}

/-- What a call may read: what the caller may, and (where it writes nothing) the caller's own blocks. -/
def CallBor (E : Env) (L : Hd → Blk) (β : Hd → Option Nat × Nat) (wr : Bool) (b : Nat) : Prop := E.Bor b ∨ (wr = false ∧ ∃ h, (L h).live ∧ (β h).1 = some b)

theorem pr_up {wr : Bool} {p : PV} {x : Value} (hp : PR w (FBof E.Bor F) p x) : PR w (FBof (CallBor E L β wr) F) p x := hp.mono (FBof_mono (fun b hb => .inl hb) fun b hb => hb) fun _ _ _ => rfl
/-- A part of the call's own row, lent. -/
theorem lendVec (h : StI E n s L a w F β) {hd : Hd} {Wd off len : Nat} {T : TypeId} {es : List PV} {x : Value} (hB : L hd = .vec T Wd es) (hlen : off + len ≤ es.length) (hx : VR w (FBof E.Bor F) β (.vec hd Wd off len) x) :
    PR w (FBof (CallBor E L β false) F) (.sl true Wd ((es.drop off).take len)) x := by
  have hb := h.blks hd
  have hlv : (L hd).live := by rw [hB]; trivial
  rw [hB] at hb
  obtain ⟨q1, q2, q3⟩ := hb
  have hll : ((es.drop off).take len).length = len := by simp; omega
  have hel : ∀ e ∈ (es.drop off).take len, e.cells.length = Wd ∧ ∀ c ∈ e.cells, c.one = true := fun e he => q1 e (List.mem_of_mem_drop (List.mem_of_mem_take he))
  rcases hx.vecInv with ⟨b, o, cc, hb', hcl, hcm, ho, rfl⟩ | ⟨ad, hb', hz, hz', rfl, ha⟩
  · obtain ⟨arr, g1, g2, g3, g4⟩ : ∃ arr, (β hd).1 = some b ∧ w.heap[b]? = some (.cells arr T (0, 0)) ∧ arr.size = (β hd).2 * Wd ∧ ∀ (i : Nat) e (j : Nat) c v, es[i]? = some e → e.cells[j]? = some c → arr[i * Wd + j]? = some v → PR w (FBof E.Bor F) c v := by
      rcases q3 with q3 | ⟨b', arr, g1, g2, g3, g4⟩
      · rw [q3.1] at hb'; cases hb'
      · rw [g1] at hb'; cases hb'; exact ⟨arr, g1, g2, g3, g4⟩
    have get : ∀ (i : Nat) e, ((es.drop off).take len)[i]? = some e → i < len ∧ es[off + i]? = some e := fun i e he => by
      have hi : i < len := by have := (List.getElem?_eq_some_iff.1 he).1; rw [hll] at this; exact this
      rw [List.getElem?_take_of_lt hi, List.getElem?_drop] at he
      exact ⟨hi, he⟩
    have hin : ∀ i j, i < es.length → j < Wd → i * Wd + j < arr.size := fun i j hi hj => by
      rw [g3]
      have : (i + 1) * Wd ≤ (β hd).2 * Wd := Nat.mul_le_mul_right _ (by omega)
      rw [Nat.add_mul] at this; omega
    have := PR.sl (w := w) (FB := FBof (CallBor E L β false) F) true Wd ((es.drop off).take len) b o cc (fun i j => arr.getD ((off + i) * Wd + j) Go.undef) (by rw [hll]; omega) (fun _ => .inr ⟨rfl, hd, hlv, g1⟩)
      (fun e he => (hel e he).1) (fun e he => (hel e he).2) (fun i e j c e1 e2 => by
        obtain ⟨hi, he⟩ := get i e e1
        have hj : j < Wd := by rw [← (q1 e (List.mem_of_getElem? he)).1]; exact (List.getElem?_eq_some_iff.1 e2).1
        have := hin (off + i) j (by omega) hj
        rw [ho (by omega), show off * Wd + i * Wd + j = (off + i) * Wd + j by rw [Nat.add_mul]]
        simp only [World.cell?, g2]; simp [Array.getD, this]) (fun i e j c e1 e2 => by
        obtain ⟨hi, he⟩ := get i e e1
        have hj : j < Wd := by rw [← (q1 e (List.mem_of_getElem? he)).1]; exact (List.getElem?_eq_some_iff.1 e2).1
        have := hin (off + i) j (by omega) hj
        exact pr_up (g4 (off + i) e j c _ he e2 (by simp [Array.getD, this])))
    rw [hll] at this
    exact this
  · subst hz; subst hz'
    simp only [List.take_zero]
    exact .nil _ _ _

theorem LendR.ok (h : StI E n s L a w F β) {c : AV} {p : PV} {x : Value} (hl : LendR L c p) (hx : VR w (FBof E.Bor F) β c x) : PR w (FBof (CallBor E L β false) F) p x ∧ p.one = true := by
  cases hl with
  | p v ho => exact ⟨pr_up hx.pOf, ho⟩
  | vec hB hlen => exact ⟨lendVec h hB hlen hx, rfl⟩

/-- A row of rows, lent. -/
theorem lendRows (h : StI E n s L a w F β) {hd : Hd} {len : Nat} {T : TypeId} {cs : List AV} {x : Value} (hB : L hd = .rows T cs) (hx : VR w (FBof E.Bor F) β (.vec hd 1 0 len) x) {K' : List PV → Prop} (hk : SLendR L cs len K') :
    ∃ ps, K' ps ∧ PR w (FBof (CallBor E L β false) F) (.sl true 1 ps) x := by
  obtain ⟨ps, hlen, hl, hr, hk⟩ := hk
  refine ⟨ps, hk, ?_⟩
  have hb := h.blks hd
  have hlv : (L hd).live := by rw [hB]; trivial
  rw [hB] at hb
  obtain ⟨q1, q2, q3⟩ := hb
  subst hlen
  rcases hx.vecInv with ⟨b, o, cc, hb', hcl, hcm, ho, rfl⟩ | ⟨ad, hb', _, hz, rfl, ha⟩
  · obtain ⟨arr, g1, g2, g3, g4⟩ : ∃ arr, (β hd).1 = some b ∧ w.heap[b]? = some (.cells arr T (0, 0)) ∧ arr.size = (β hd).2 ∧ ∀ (i : Nat) c v, cs[i]? = some c → arr[i]? = some v → VR w (FBof E.Bor F) β c v := by
      rcases q3 with q3 | ⟨b', arr, g1, g2, g3, g4⟩
      · rw [q3.1] at hb'; cases hb'
      · rw [g1] at hb'; cases hb'; exact ⟨arr, g1, g2, g3, g4⟩
    have get : ∀ (i : Nat) (e : PV), ps[i]? = some e → i < arr.size ∧ PR w (FBof (CallBor E L β false) F) e (arr.getD i Go.undef) ∧ e.one = true := fun i e he => by
      have hi := (List.getElem?_eq_some_iff.1 he).1
      have hic : i < cs.length := by omega
      have hia : i < arr.size := by omega
      have e1 : cs[i]? = some cs[i] := List.getElem?_eq_getElem hic
      have := (hr i _ e e1 he).ok h (g4 i _ (arr.getD i Go.undef) e1 (by simp [Array.getD, hia]))
      exact ⟨hia, this.1, this.2⟩
    have hone : ∀ e ∈ ps, e.one = true := fun e he => by
      obtain ⟨i, hi⟩ := List.getElem?_of_mem he
      exact (get i e hi).2.2
    have cl : ∀ e ∈ ps, e.cells = [e] := fun e he => PV.cells_one (hone e he)
    rw [← hl]
    rw [← hl] at hcl
    refine PR.sl true 1 ps b o _ (fun i j => arr.getD i Go.undef) (by omega) (fun _ => .inr ⟨rfl, hd, hlv, g1⟩) (fun e he => by rw [cl e he]; rfl) (fun e he c hc => by rw [cl e he] at hc; cases List.mem_singleton.1 hc; exact hone _ he) (fun i e j c e1 e2 => ?_) (fun i e j c e1 e2 => ?_)
    · obtain ⟨hi, he⟩ := get i e e1
      rw [cl e (List.mem_of_getElem? e1)] at e2
      have hj : j = 0 := by have := (List.getElem?_eq_some_iff.1 e2).1; simpa using this
      subst hj
      have hi2 := (List.getElem?_eq_some_iff.1 e1).1
      rw [ho (by omega)]
      simp only [World.cell?, g2]; simp [Array.getD, hi]
    · obtain ⟨hi, he⟩ := get i e e1
      rw [cl e (List.mem_of_getElem? e1)] at e2
      have hj : j = 0 := by have := (List.getElem?_eq_some_iff.1 e2).1; simpa using this
      subst hj
      cases e2
      exact he.1
  · have hcs : ps = [] := List.length_eq_zero_iff.1 (by omega)
    subst hcs
    exact .nil _ _ _

theorem lend1_ok (hL : ∀ h K, LK h K → K (L h)) (h : StI E n s L a w F β) {c : AV} {x : Value} (hx : VR w (FBof E.Bor F) β c x) {K' : PV → Prop} (hk : lend1 L LK c K') :
    ∃ p, K' p ∧ PR w (FBof (CallBor E L β false) F) p x ∧ p.one = true := by
  unfold lend1 at hk
  split at hk
  · rename_i hd Wd off len
    have hk := hL hd _ hk
    generalize hB : L hd = B at hk
    split at hk
    · rename_i T W' es
      obtain ⟨hWd, hK⟩ := cond_beq hk
      subst hWd
      obtain ⟨es', hes, hlen, hK⟩ := hK
      subst hes
      exact ⟨_, hK, lendVec h hB hlen hx, rfl⟩
    · rename_i T cs
      obtain ⟨h1, h2, hk2⟩ := cond_and2 hk
      clear hk
      subst h1; subst h2
      obtain ⟨ps, hk, hp⟩ := lendRows h hB hx hk2
      exact ⟨_, hk, hp, rfl⟩
    · exact hk.elim
  · rename_i hd
    have hk := hL hd _ hk
    have hb := h.blks hd
    generalize hB : L hd = B at hk hb
    split at hk
    · rename_i es
      have hlv : (L hd).live := by rw [hB]; trivial
      obtain ⟨b, en, clock, h1, h2, h3, h4, h5, h6⟩ := hb
      cases hx with | map hb' =>
      rw [h1] at hb'; cases hb'
      exact ⟨_, hk, .mp true es b clock en (.inr ⟨rfl, hd, hlv, h1⟩) h2 h3 (fun i x e e1 e2 => pr_up (h4 i x e e1 e2).1) (fun i x e e1 e2 => pr_up (h4 i x e e1 e2).2) h5 h6, rfl⟩
    · exact hk.elim
  · obtain ⟨ho, hk⟩ := cond_not hk
    exact ⟨_, hk, pr_up hx.pOf, ho⟩
  · exact ⟨_, hk, pr_up hx.tfOf, rfl⟩
  · exact hk.elim
theorem lendCells_ok (hL : ∀ h K, LK h K → K (L h)) (h : StI E n s L a w F β) : ∀ (cs : List AV) (xs : List Value) {K' : List PV → Prop} (hl : xs.length = cs.length) (hr : ∀ (i : Nat) c x, cs[i]? = some c → xs[i]? = some x → VR w (FBof E.Bor F) β c x) (hk : lendCells L LK cs K'),
    ∃ ps : List PV, K' ps ∧ ps.length = cs.length ∧ ∀ (i : Nat) c x, ps[i]? = some c → xs[i]? = some x → PR w (FBof (CallBor E L β false) F) c x ∧ c.one = true := by
  intro cs
  induction cs with
  | nil => intro xs K' _ _ hk; exact ⟨[], hk, rfl, fun i c x e => by simp at e⟩
  | cons c cs ih =>
    intro xs K' hl hr hk
    match xs, hl with
    | x :: xs, hl =>
      simp only [lendCells] at hk
      obtain ⟨p, hk, hp⟩ := lend1_ok hL h (hr 0 c x rfl rfl) hk
      obtain ⟨ps, hk, h1, h2⟩ := ih xs (by simpa using hl) (fun i c x e1 e2 => hr (i + 1) c x (by simpa using e1) (by simpa using e2)) hk
      refine ⟨p :: ps, hk, by simp [h1], fun i c' x' e1 e2 => ?_⟩
      cases i with
      | zero => simp at e1 e2; subst e1; subst e2; exact hp
      | succ i => exact h2 i c' x' (by simpa using e1) (by simpa using e2)

theorem lendA0_ok (hL : ∀ h K, LK h K → K (L h)) (h : StI E n s L a w F β) {t : TypeId} {v : AV} {x : Value} (hx : VR w (FBof E.Bor F) β v x) {K' : AV → Prop} (hk : lendA0 Γ L LK t v K') :
    ∃ p, K' (.p p) ∧ PR w (FBof (CallBor E L β false) F) p x := by
  have up : ∀ {p : PV} {x : Value}, PR w (FBof E.Bor F) p x → PR w (FBof (CallBor E L β false) F) p x := pr_up
  have other : (asP Γ t v fun v => K' (.p v)) → ∃ p, K' (.p p) ∧ PR w (FBof (CallBor E L β false) F) p x := fun hk => by
    obtain ⟨p, hk, hp⟩ := asP_ok hk
    exact ⟨p, hk, up (hp _ _ _ _ hx)⟩
  unfold lendA0 at hk
  split at hk
  · rename_i hd Wd off len
    have hk := hL hd _ hk
    generalize hB : L hd = B at hk
    split at hk
    · rename_i T W' es
      obtain ⟨hWd, hK⟩ := cond_beq hk
      subst hWd
      obtain ⟨es', hes, hlen, hK⟩ := hK
      subst hes
      exact ⟨_, hK, lendVec h hB hlen hx⟩
    · exact hk.elim
  · rename_i hd
    have hk := hL hd _ hk
    have hb := h.blks hd
    generalize hB : L hd = B at hk hb
    split at hk
    · rename_i T cs
      have hlv : (L hd).live := by rw [hB]; trivial
      obtain ⟨h0, b, arr, g1, g2, g3, g4⟩ := hb
      cases hx with | bptr hb' =>
      rw [g1] at hb'; cases hb'
      have cell : ∀ j, j < cs.length → w.cell? ⟨b, 0 + j, none⟩ = some (arr.getD j Go.undef) := fun j hj => by
        simp only [World.cell?, g2]; simp [Array.getD, g3, hj]
      -- the cells as trees
      have all : ∀ l, AsP cs l → ∀ e : PV, e.cells = l → PR w (FBof (CallBor E L β false) F) (.pel true e) (.pointer (some ⟨b, 0, none⟩)) := by
        intro l hl e he
        refine .pel true e b 0 (fun j => arr.getD j Go.undef) (.inr ⟨rfl, hd, hlv, g1⟩) (fun c hc => ?_) (fun j c hj => ?_) (fun j c hj => ?_)
        · rw [he] at hc
          obtain ⟨i, hi⟩ := List.getElem?_of_mem hc
          have hil : i < cs.length := by rw [← hl.1]; exact (List.getElem?_eq_some_iff.1 hi).1
          exact hl.2.1 i cs[i] c (List.getElem?_eq_getElem hil) hi (h0 _ (List.getElem_mem hil))
        · rw [he] at hj
          exact cell j (by rw [← hl.1]; exact (List.getElem?_eq_some_iff.1 hj).1)
        · rw [he] at hj
          have hil : j < cs.length := by rw [← hl.1]; exact (List.getElem?_eq_some_iff.1 hj).1
          exact up (hl.2.2 w _ β j cs[j] c _ (List.getElem?_eq_getElem hil) hj (g4 j cs[j] _ (List.getElem?_eq_getElem hil) (by simp [Array.getD, g3, hil])))
      split at hk
      · rename_i i hi
        split at hk
        · rcases allP_ok hk with ⟨l, hk, hl⟩ | hk
          · exact ⟨_, hk, all l hl _ rfl⟩
          · obtain ⟨ps, hk, h1, h2⟩ := lendCells_ok hL h cs arr.toList (by simp [g3]) (fun i c x e1 e2 => g4 i c x e1 (by simpa using e2)) hk
            have get : ∀ (i : Nat) c, ps[i]? = some c → i < arr.size ∧ PR w (FBof (CallBor E L β false) F) c (arr.getD i Go.undef) ∧ c.one = true := fun i c hi => by
              have hil : i < arr.size := by have := (List.getElem?_eq_some_iff.1 hi).1; omega
              exact ⟨hil, h2 i c _ hi (by simp [Array.getD, hil])⟩
            refine ⟨_, hk, .pel true (.agg ps) b 0 (fun j => arr.getD j Go.undef) (.inr ⟨rfl, hd, hlv, g1⟩) (fun c hc => ?_) (fun j c hj => ?_) (fun j c hj => ?_)⟩
            · obtain ⟨i, hi⟩ := List.getElem?_of_mem hc
              exact (get i c hi).2.2
            · exact cell j (by rw [← h1]; exact (List.getElem?_eq_some_iff.1 hj).1)
            · exact (get j c hj).2.1
        · rcases allP_ok hk with ⟨l, hk, hl⟩ | hk
          · match l, hk, hl with
            | [c], hk, hl =>
              obtain ⟨ho, hk⟩ := cond_not hk
              exact ⟨_, hk, all _ hl _ (PV.cells_one ho)⟩
            | [], hk, _ => exact hk.elim
            | _ :: _ :: _, hk, _ => exact hk.elim
          · exact hk.elim
      · exact hk.elim
    · exact hk.elim
  · rename_i hd
    have hk := hL hd _ hk
    have hb := h.blks hd
    generalize hB : L hd = B at hk hb
    split at hk
    · rename_i es
      have hlv : (L hd).live := by rw [hB]; trivial
      obtain ⟨b, en, clock, h1, h2, h3, h4, h5, h6⟩ := hb
      cases hx with | map hb' =>
      rw [h1] at hb'; cases hb'
      exact ⟨_, hk, .mp true es b clock en (.inr ⟨rfl, hd, hlv, h1⟩) h2 h3 (fun i x e e1 e2 => up (h4 i x e e1 e2).1) (fun i x e e1 e2 => up (h4 i x e e1 e2).2) h5 h6⟩
    · exact hk.elim
  · exact other hk

theorem lendCaps_ok (hL : ∀ h K, LK h K → K (L h)) (h : StI E n s L a w F β) : ∀ (cs : List AV) (xs : List Value) {K' : List PV → Prop} (hl : xs.length = cs.length) (hr : ∀ (i : Nat) c x, cs[i]? = some c → xs[i]? = some x → VR w (FBof E.Bor F) β c x) (hk : lendCaps Γ L LK cs K'),
    ∃ ps : List PV, K' ps ∧ ps.length = cs.length ∧ ∀ (i : Nat) c x, ps[i]? = some c → xs[i]? = some x → PR w (FBof (CallBor E L β false) F) c x := by
  intro cs
  induction cs with
  | nil => intro xs K' _ _ hk; exact ⟨[], hk, rfl, fun i c x e => by simp at e⟩
  | cons c cs ih =>
    intro xs K' hl hr hk
    match xs, hl with
    | x :: xs, hl =>
      simp only [lendCaps] at hk
      obtain ⟨p, hk, hp⟩ := lendA0_ok hL h (hr 0 c x rfl rfl) hk
      obtain ⟨ps, hk, h1, h2⟩ := ih xs (by simpa using hl) (fun i c x e1 e2 => hr (i + 1) c x (by simpa using e1) (by simpa using e2)) hk
      refine ⟨p :: ps, hk, by simp [h1], fun i c' x' e1 e2 => ?_⟩
      cases i with
      | zero => simp at e1 e2; subst e1; subst e2; exact hp
      | succ i => exact h2 i c' x' (by simpa using e1) (by simpa using e2)
theorem lendA_ok (hL : ∀ h K, LK h K → K (L h)) (h : StI E n s L a w F β) {t : TypeId} {v : AV} {x : Value} (hx : VR w (FBof E.Bor F) β v x) {K' : AV → Prop} (hk : lendA Γ L LK t v K') :
    ∃ p, K' (.p p) ∧ PR w (FBof (CallBor E L β false) F) p x := by
  unfold lendA at hk
  split at hk
  · cases hx with
    | fn f first caps fs vs hfl hf hl hr =>
      have : fs = #[] := Array.eq_empty_of_size_eq_zero (by simpa using hfl)
      subst this
      obtain ⟨ps, hk, h1, h2⟩ := lendCaps_ok hL h _ vs.toList (by simpa using hl) (fun i c x e1 e2 => hr i c x e1 (by simpa using e2)) hk
      exact ⟨_, hk, .fn _ ps vs (by rw [h1]; simpa using hl) fun i c v e1 e2 => h2 i c v e1 (by simpa using e2)⟩
  · cases hx with
    | agg cs vs hone hl hr =>
      obtain ⟨ps, hk, h1, h2⟩ := lendCaps_ok hL h _ vs.toList (by simpa using hl) (fun i c x e1 e2 => hr i c x e1 (by simpa using e2)) hk
      cases ho : ps.all PV.one with
      | false => rw [ho] at hk; exact hk.elim
      | true =>
        rw [ho] at hk
        exact ⟨_, hk, .agg ps vs (fun c hc => List.all_eq_true.1 ho c hc) (by rw [h1]; simpa using hl) fun i c v e1 e2 => h2 i c v e1 (by simpa using e2)⟩
  · rename_i hd len
    have hk := hL hd _ hk
    have hb := h.blks hd
    generalize hB : L hd = B at hk hb
    split at hk
    · rename_i T cs
      obtain ⟨ps, hk, hp⟩ := lendRows h hB hx hk
      exact ⟨_, hk, hp⟩
    · rename_i T W' es
      have hk0 : lendA0 Γ L (fun h K => K (L h)) t (.vec hd 1 0 len) K' := by
        simp only [lendA0, hB]; exact hk
      exact lendA0_ok (fun _ _ h => h) h hx hk0
    · exact hk.elim
  · exact lendA0_ok hL h hx hk

theorem lendW_ok (h : StI E n s L a w F β) {t : TypeId} {v : AV} {x : Value} (hx : VR w (FBof E.Bor F) β v x) {K' : AV → Prop} (hk : lendW Γ t v K') :
    ∃ c, K' c ∧ VR w (FBof (CallBor E L β true) F) β c x ∧ ∀ k, c.men k → v.men k := by
  have up : ∀ {p : AV} {x : Value}, VR w (FBof E.Bor F) β p x → VR w (FBof (CallBor E L β true) F) β p x := fun hp => hp.mono (FBof_mono (fun b hb => .inl hb) fun b hb => hb) (fun _ _ _ => rfl) fun _ _ => rfl
  unfold lendW at hk
  split at hk
  · exact ⟨_, hk, up hx, fun k h => h⟩
  · exact ⟨_, hk, up hx, fun k h => h⟩
  · exact ⟨_, hk, up hx, fun k h => h⟩
  · obtain ⟨p, hk, hp⟩ := asP_ok hk
    exact ⟨_, hk, up (.p (hp _ _ _ _ hx)), fun k h => by simp only [AV.men] at h⟩

theorem lendL_ok (hL : ∀ h K, LK h K → K (L h)) (h : StI E n s L a w F β) (wr : Bool) : ∀ (tvs : List (TypeId × AV)) (xs : List Value) (K' : List AV → Prop), lendL Γ L LK wr tvs K' → xs.length = tvs.length →
    (∀ (i : Nat) c x, tvs[i]? = some c → xs[i]? = some x → VR w (FBof E.Bor F) β c.2 x) →
    ∃ args, K' args ∧ args.length = tvs.length ∧ (∀ (i : Nat) c x, args[i]? = some c → xs[i]? = some x → VR w (FBof (CallBor E L β wr) F) β c x) ∧ ∀ k, AV.menL args k → ∃ c ∈ tvs, c.2.men k := by
  intro tvs
  induction tvs with
  | nil => intro xs K' hk hl _; exact ⟨[], hk, rfl, by simp, by simp [AV.menL]⟩
  | cons c tvs ih =>
    intro xs K' hk hl hr
    match xs, hl with
    | x :: xs, hl =>
      have hx := hr 0 c x rfl rfl
      have hr' : ∀ (i : Nat) c x, tvs[i]? = some c → xs[i]? = some x → VR w (FBof E.Bor F) β c.2 x := fun i c x e1 e2 => hr (i + 1) c x (by simpa using e1) (by simpa using e2)
      simp only [lendL] at hk
      have go : ∀ v', (lendL Γ L LK wr tvs fun l' => K' (v' :: l')) → VR w (FBof (CallBor E L β wr) F) β v' x → (∀ k, v'.men k → c.2.men k) →
          ∃ args, K' args ∧ args.length = (c :: tvs).length ∧ (∀ (i : Nat) c' x', args[i]? = some c' → (x :: xs)[i]? = some x' → VR w (FBof (CallBor E L β wr) F) β c' x') ∧ ∀ k, AV.menL args k → ∃ d ∈ c :: tvs, d.2.men k := by
        intro v' hk hv hm
        obtain ⟨args, hk, h1, h2, h3⟩ := ih xs _ hk (by simpa using hl) hr'
        refine ⟨v' :: args, hk, by simp [h1], fun i c' x' e1 e2 => ?_, fun k hk => ?_⟩
        · cases i with
          | zero => simp at e1 e2; subst e1; subst e2; exact hv
          | succ i => exact h2 i c' x' (by simpa using e1) (by simpa using e2)
        · simp only [AV.menL] at hk
          rcases hk with hk | hk
          · exact ⟨c, by simp, hm k hk⟩
          · obtain ⟨d, h1, h2⟩ := h3 k hk; exact ⟨d, by simp [h1], h2⟩
      cases wr with
      | true =>
        obtain ⟨v', hk, hv, hm⟩ := lendW_ok h hx hk
        exact go v' hk hv hm
      | false =>
        obtain ⟨p, hk, hp⟩ := lendA_ok hL h hx hk
        exact go (.p p) hk (.p hp) fun k hk => by simp only [AV.men] at hk
end
end Go.Proofs.Ytkaooejeljdbnaa
