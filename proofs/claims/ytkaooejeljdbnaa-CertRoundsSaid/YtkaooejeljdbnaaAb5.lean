/- Each operation does to the machine what 'opSem' says (third part). -/
import Derived.Test.YtkaooejeljdbnaaAb4
namespace Go.Proofs.Ytkaooejeljdbnaa
open Go
set_option linter.unusedVariables false
set_option linter.unusedSimpArgs false

section
variable {P : Program} {Γ : Tab} {E : Env} {n : Nat} {s : Nat → AV} {L : Hd → Blk} {a : Act} {w : World} {F : Nat → Prop} {β : Hd → Option Nat × Nat} {K : AV → List (Hd × Blk) → Prop}
  {W : Operand → (AV → Prop) → Prop} {LK : Hd → (Blk → Prop) → Prop} {wr : FuncId → Bool} {base : Nat}

/-- A row of cells in a block is written. -/
theorem run_storeAt (hΓ : GOK P Γ) {t : TypeId} {i : TI} (hi : Γ t = some i) (w : World) (b off : Nat) (T : TypeId) (arr : Array Value) (x : Value) (hb : w.heap[b]? = some (.cells arr T (0, 0)))
    (hs : x.cells.size = i.size) (hl : off + i.size ≤ arr.size) (h1 : ∀ v ∈ x.cells.toList, v.oneCell' = true) :
    (Instr.storeAt t (.pointer (some ⟨b, off, none⟩)) x).run P w = .ok () (w.setRow b (arr.toList.take off ++ x.cells.toList ++ arr.toList.drop (off + i.size)).toArray) := by
  have hsz := size_run hΓ hi w
  have hst := run_storeCells_at P b off T x.cells.toList 0 arr w hb (by simp [hs]; omega) h1
  simp only [Nat.add_zero, Array.length_toList, hs] at hst
  simp [Instr.storeAt, Instr.sureAddr, storeVar, hsz, hs, hst]

theorem out_write (h : StI E n s L a w F β) {hd : Hd} {b : Nat} {T : TypeId} {arr arr' : Array Value} {B : Blk} (hk : K .undef [(hd, B)]) (hl : (L hd).live) (hb : (β hd).1 = some b) (hh : w.heap[b]? = some (.cells arr T (0, 0)))
    (hO : Own (w.setRow b arr') (FBof E.Bor F) β hd B) (hlive : B.live) (hmen : ∀ j, B.men j → L j ≠ .free) : Out P E n s L a K (.ok Go.undef (w.setRow b arr')) :=
  ⟨.undef, _, F, β, hk, by show StI E n s (updB L hd B) a _ F β; rw [updB_live hlive]; exact h.write B hd rfl rfl rfl (by simp) hb (fun b' hb' => setRow_other w b b' arr' hb') hl hO hlive hmen, .undef, fun k hk => by simp only [AV.men] at hk⟩

theorem StI.pr_row (h : StI E n s L a w F β) {hd : Hd} {b : Nat} (hl : (L hd).live) (hb : (β hd).1 = some b) (arr' : Array Value) {v : PV} {x : Value} (hv : PR w (FBof E.Bor F) v x) : PR (w.setRow b arr') (FBof E.Bor F) v x :=
  hv.mono (fun _ _ => id) fun m b' hb' => setRow_other w b b' arr' (by
    have := h.own hd b hl hb
    intro e; subst e
    cases m
    · exact this.1 hb'
    · exact this.2.1 (h.bor _ hb'))
theorem StI.vr_row (h : StI E n s L a w F β) {hd : Hd} {b : Nat} (hl : (L hd).live) (hb : (β hd).1 = some b) (arr' : Array Value) {v : AV} {x : Value} (hv : VR w (FBof E.Bor F) β v x) : VR (w.setRow b arr') (FBof E.Bor F) β v x :=
  hv.mono (fun _ _ => id) (fun m b' hb' => setRow_other w b b' arr' (by
    have := h.own hd b hl hb
    intro e; subst e
    cases m
    · exact this.1 hb'
    · exact this.2.1 (h.bor _ hb'))) fun _ _ => rfl

theorem splice_get {α : Type} (cs vs : List α) (o j : Nat) (h : o + vs.length ≤ cs.length) : (cs.take o ++ vs ++ cs.drop (o + vs.length))[j]? = if j < o then cs[j]? else if j < o + vs.length then vs[j - o]? else cs[j]? := by
  split
  · rw [List.append_assoc, List.getElem?_append_left (by simp; omega), List.getElem?_take_of_lt (by assumption)]
  · split
    · rw [List.append_assoc, List.getElem?_append_right (by simp; omega)]
      simp only [List.length_take, Nat.min_eq_left (show o ≤ cs.length by omega)]
      rw [List.getElem?_append_left (by omega)]
    · rw [List.getElem?_append_right (by simp; omega)]
      simp only [List.length_append, List.length_take, Nat.min_eq_left (show o ≤ cs.length by omega), List.getElem?_drop]
      congr 1; omega

theorem rowEl_ok {e : TypeId} {v : AV} {K : AV → Prop} (h : rowEl Γ e v K) : ∃ c, K c ∧ c.one = true ∧ (∀ w FB β x, VR w FB β v x → VR w FB β c x) ∧ ∀ k, c.men k → v.men k := by
  unfold rowEl at h
  split at h
  · exact ⟨_, h, rfl, fun _ _ _ _ hx => hx, fun _ hk => hk⟩
  · obtain ⟨p, hk, hp⟩ := asP_ok h
    cases ho : p.one with
    | false => rw [ho] at hk; exact hk.elim
    | true => rw [ho] at hk; exact ⟨_, hk, ho, fun w FB β x hx => .p (hp w FB β x hx), fun k hk => by simp only [AV.men] at hk⟩

/-- A cell of a row of rows is written. -/
theorem out_storeR (hΓ : GOK P Γ) (h : StI E n s L a w F β) {t T : TypeId} {ti : TI} (hi : Γ t = some ti) (hsz : ti.size = 1) {hd : Hd} {b i : Nat} {arr : Array Value} {cs : List AV} {c : AV} {y : Value} (hlv : (L hd).live) (g1 : (β hd).1 = some b)
    (g2 : w.heap[b]? = some (.cells arr T (0, 0))) (g3 : arr.size = (β hd).2) (h1 : ∀ c ∈ cs, c.one = true) (h2 : cs.length ≤ (β hd).2) (g4 : ∀ (i : Nat) c v, cs[i]? = some c → arr[i]? = some v → VR w (FBof E.Bor F) β c v)
    (hc : VR w (FBof E.Bor F) β c y) (hone : c.one = true) (hlt : i < cs.length) (hm : ∀ k, c.men k → L k ≠ .free) (hmb : ∀ k, AV.menL cs k → L k ≠ .free) (hk : K .undef [(hd, .rows T (cs.set i c))]) :
    ∃ w', (Instr.storeAt t (.pointer (some ⟨b, i * 1 + 0, none⟩)) y).run P w = .ok () w' ∧ Out P E n s L a K (.ok Go.undef w') := by
  have hcell : y.cells = #[y] := oneCell_cells (hc.oneCell hone)
  have hrun := run_storeAt hΓ hi w b (i * 1 + 0) T arr y g2 (by rw [hcell, hsz]; rfl) (by omega) (by rw [hcell]; intro v hv; simp at hv; subst hv; exact hc.oneCell hone)
  have one_set : ∀ d ∈ cs.set i c, d.one = true := fun d hd => by
    rcases List.mem_or_eq_of_mem_set hd with hd | hd
    · exact h1 d hd
    · subst hd; exact hone
  refine ⟨_, hrun, out_write h hk hlv g1 g2 ⟨one_set, by simpa using h2, .inr ⟨b, _, g1, setRow_heap w b arr _ T _ g2, ?_, fun j d v e1 e2 => ?_⟩⟩ trivial fun j hj => ?_⟩
  · simp [hcell, hsz]; omega
  · refine h.vr_row hlv g1 _ ?_
    simp only [List.getElem?_toArray] at e2
    have eg := splice_get arr.toList y.cells.toList (i * 1 + 0) j (by simp [hcell]; omega)
    have hl1 : y.cells.toList.length = 1 := by rw [hcell]; rfl
    rw [hl1] at eg
    rw [hsz, eg] at e2
    by_cases hji : j = i
    · subst hji
      rw [List.getElem?_set_self hlt] at e1
      cases e1
      rw [if_neg (by omega), if_pos (by omega)] at e2
      rw [hcell] at e2
      have : j - (j * 1 + 0) = 0 := by omega
      rw [this] at e2
      cases e2
      exact hc
    · rw [List.getElem?_set_ne (by omega)] at e1
      by_cases hlt' : j < i
      · rw [if_pos (by omega)] at e2; exact g4 j d v e1 (by simpa using e2)
      · rw [if_neg (by omega), if_neg (by omega)] at e2; exact g4 j d v e1 (by simpa using e2)
  · have hj : AV.menL (cs.set i c) j := hj
    have : ∀ l : List AV, AV.menL l j → ∃ c, c ∈ l ∧ c.men j := by
      intro l
      induction l with
      | nil => intro h; simp only [AV.menL] at h
      | cons c l ih =>
        intro h
        simp only [AV.menL] at h
        rcases h with h | h
        · exact ⟨c, by simp, h⟩
        · obtain ⟨c', h1, h2⟩ := ih h; exact ⟨c', by simp [h1], h2⟩
    obtain ⟨d, hd, hdm⟩ := this _ hj
    rcases List.mem_or_eq_of_mem_set hd with hd | hd
    · exact hmb j (AV.menL_mem hd hdm)
    · subst hd; exact hm j hdm

theorem out_store (hΓ : GOK P Γ) (hW : ∀ x K, W x K → K (rho s x)) (hL : ∀ h K, LK h K → K (L h)) (h : StI E n s L a w F β) {t : TypeId} {x y : Operand} (hk : opSem Γ P wr W LK L base (.store t x y) K) :
    ∃ w', (Instr.storeAt t (a.eval x) (a.eval y)).run P w = .ok () w' ∧ Out P E n s L a K (.ok Go.undef w') := by
  have hx := h.ev x
  have hy := h.ev y
  have hmy := h.evm y
  have hk := hW y _ (hW x _ hk)
  generalize rho s x = vx at hk hx
  generalize rho s y = vy at hk hy hmy
  generalize a.eval x = ax at hx
  generalize a.eval y = ay at hy
  split at hk
  · rename_i hd off
    have hk := hL hd _ hk
    have hb := h.blks hd
    have hmb := h.mb hd
    generalize hB : L hd = B at hk hb hmb
    split at hk
    · rename_i T cs i hi
      obtain ⟨h0, b, arr, g1, g2, g3, g4⟩ := hb
      cases hx with | @bptr _ _ b' hb' =>
      rw [g1] at hb'; cases hb'
      obtain ⟨vs, hk, hc, hm⟩ := cellsOf_ok hk
      obtain ⟨c1, c0, c2⟩ := hc _ _ _ _ hy
      cases hsz : Nat.beq vs.length i.size with
      | false => rw [hsz] at hk; exact hk.elim
      | true =>
        rw [hsz] at hk
        have hsz := Nat.eq_of_beq_eq_true hsz
        obtain ⟨hlen, hk⟩ := spliceK_ok (K := fun cs' => K .undef [(hd, .box T cs')]) hk
        have cone : ∀ v ∈ ay.cells.toList, v.oneCell' = true := fun v hv => by
          obtain ⟨j, hj⟩ := List.getElem?_of_mem hv
          have hj' : j < vs.length := by rw [← c1]; simpa using (List.getElem?_eq_some_iff.1 hj).1
          exact (c2 j vs[j] v (List.getElem?_eq_getElem hj') (by simpa using hj)).oneCell (c0 _ (List.getElem_mem hj'))
        have hrun := run_storeAt hΓ hi w b off T arr ay g2 (by rw [c1, hsz]) (by omega) cone
        have hlv : (L hd).live := by rw [hB]; trivial
        refine ⟨_, hrun, out_write h hk hlv g1 g2 ⟨fun c hc => ?_, b, _, g1, setRow_heap w b arr _ T _ g2, ?_, fun j c v e1 e2 => ?_⟩ trivial fun j hj => ?_⟩
        · simp only [List.mem_append] at hc
          rcases hc with (hc | hc) | hc
          · exact h0 c (List.mem_of_mem_take hc)
          · exact c0 c hc
          · exact h0 c (List.mem_of_mem_drop hc)
        · simp [c1]; omega
        · rw [splice_get _ _ _ _ hlen] at e1
          simp only [List.getElem?_toArray] at e2
          have e := splice_get arr.toList ay.cells.toList off j (by simp [c1]; omega)
          simp only [Array.length_toList, c1] at e
          rw [← hsz, e] at e2
          refine h.vr_row hlv g1 _ ?_
          split at e1
          · rename_i hj; rw [if_pos hj] at e2; exact g4 j c v e1 (by simpa using e2)
          · rename_i hj
            rw [if_neg hj] at e2
            split at e1
            · rename_i hj'; rw [if_pos hj'] at e2; exact c2 (j - off) c v e1 (by simpa using e2)
            · rename_i hj'; rw [if_neg hj'] at e2; exact g4 j c v e1 (by simpa using e2)
        · obtain ⟨c, hc, hcm⟩ : ∃ c, c ∈ cs.take off ++ vs ++ cs.drop (off + vs.length) ∧ c.men j := by
            have : ∀ l : List AV, AV.menL l j → ∃ c, c ∈ l ∧ c.men j := by
              intro l
              induction l with
              | nil => intro h; simp only [AV.menL] at h
              | cons c l ih =>
                intro h
                simp only [AV.menL] at h
                rcases h with h | h
                · exact ⟨c, by simp, h⟩
                · obtain ⟨c', h1, h2⟩ := ih h; exact ⟨c', by simp [h1], h2⟩
            exact this _ hj
          simp only [List.mem_append] at hc
          rcases hc with (hc | hc) | hc
          · exact hmb j (AV.menL_mem (List.mem_of_mem_take hc) hcm)
          · exact hmy j (hm j (AV.menL_mem hc hcm))
          · exact hmb j (AV.menL_mem (List.mem_of_mem_drop hc) hcm)
    · exact hk.elim
  · rename_i hd Wd i
    have hk := hL hd _ hk
    have hb := h.blks hd
    have hmb := h.mb hd
    generalize hB : L hd = B at hk hb hmb
    have hlv : B.live → (L hd).live := fun h => by rw [hB]; exact h
    split at hk
    · rename_i T W' es ti hi
      split at hk
      · rename_i g Wg og lg _
        obtain ⟨hb1, hk2⟩ : (((Nat.beq Wd 1 && (Nat.beq W' 1 && (Nat.beq ti.size 1 && !ti.d.agg)))) = true) ∧ SOnes es (SLt i es.length (SAs ((es.map .p).set i (.vec g Wg og lg)) fun cs' => K .undef [(hd, .rows T cs')])) := by
          cases hc : (Nat.beq Wd 1 && (Nat.beq W' 1 && (Nat.beq ti.size 1 && !ti.d.agg))) with
          | false => rw [hc] at hk; exact hk.elim
          | true => rw [hc] at hk; exact ⟨rfl, hk⟩
        simp only [Bool.and_eq_true] at hb1
        have hW1 := Nat.eq_of_beq_eq_true hb1.1
        have hW2 := Nat.eq_of_beq_eq_true hb1.2.1
        have hW3 := Nat.eq_of_beq_eq_true hb1.2.2.1
        subst hW1; subst hW2
        clear hk
        cases hk2 with | mk eone hk =>
        cases hk with | mk hlt hk =>
        cases hk with | mk cs' hcs hk =>
        subst hcs
        obtain ⟨q1, q2, q3⟩ := hb
        cases hx with | @eptr _ _ _ _ b hb' =>
        obtain ⟨arr, g1, g2, g3, g4⟩ : ∃ arr, (β hd).1 = some b ∧ w.heap[b]? = some (.cells arr T (0, 0)) ∧ arr.size = (β hd).2 * 1 ∧ ∀ (i : Nat) e (j : Nat) c v, es[i]? = some e → e.cells[j]? = some c → arr[i * 1 + j]? = some v → PR w (FBof E.Bor F) c v := by
          rcases q3 with q3 | ⟨b', arr, g1, g2, g3, g4⟩
          · rw [q3.1] at hb'; cases hb'
          · rw [g1] at hb'; cases hb'; exact ⟨arr, g1, g2, g3, g4⟩
        refine out_storeR hΓ h hi hW3 (hlv trivial) g1 g2 (by omega) (fun c hc => ?_) (by simpa using q2) (fun j c v e1 e2 => ?_) hy rfl (by simpa using hlt) hmy (fun k hk => ?_) hk
        · obtain ⟨e, he, rfl⟩ := List.mem_map.1 hc
          exact eone e he
        · rw [List.getElem?_map] at e1
          obtain ⟨e, he, rfl⟩ := Option.map_eq_some_iff.1 e1
          exact .p (g4 j e 0 e v he (by rw [PV.cells_one (eone e (List.mem_of_getElem? he))]; rfl) (by simpa using e2))
        · exact (menL_map_p _ _ hk).elim
      cases hWd : (Nat.beq Wd W' && Nat.beq ti.size Wd) with
      | false => rw [hWd] at hk; exact hk.elim
      | true =>
        rw [hWd] at hk
        simp only [Bool.and_eq_true] at hWd
        have hW1 := Nat.eq_of_beq_eq_true hWd.1
        have hW2 := Nat.eq_of_beq_eq_true hWd.2
        subst hW1
        obtain ⟨e, hk, he⟩ := asP_ok hk
        have hpe := he _ _ _ _ hy
        obtain ⟨c1, c0, c2⟩ := hpe.cells
        cases hsz : Nat.beq e.cells.length Wd with
        | false => rw [hsz] at hk; exact hk.elim
        | true =>
          rw [hsz] at hk
          have hsz := Nat.eq_of_beq_eq_true hsz
          cases hk with | mk hlt hk =>
          cases hk with | mk es' hes hk =>
          subst hes
          obtain ⟨q1, q2, q3⟩ := hb
          cases hx with | @eptr _ _ _ _ b hb' =>
          obtain ⟨arr, g1, g2, g3, g4⟩ : ∃ arr, (β hd).1 = some b ∧ w.heap[b]? = some (.cells arr T (0, 0)) ∧ arr.size = (β hd).2 * Wd ∧ ∀ (i : Nat) e (j : Nat) c v, es[i]? = some e → e.cells[j]? = some c → arr[i * Wd + j]? = some v → PR w (FBof E.Bor F) c v := by
            rcases q3 with q3 | ⟨b', arr, g1, g2, g3, g4⟩
            · rw [q3.1] at hb'; cases hb'
            · rw [g1] at hb'; cases hb'; exact ⟨arr, g1, g2, g3, g4⟩
          have hroom : i * Wd + Wd ≤ arr.size := by
            rw [g3]
            have : (i + 1) * Wd ≤ (β hd).2 * Wd := Nat.mul_le_mul_right _ (by omega)
            rw [Nat.add_mul] at this; omega
          have cone : ∀ v ∈ ay.cells.toList, v.oneCell' = true := fun v hv => by
            obtain ⟨j, hj⟩ := List.getElem?_of_mem hv
            have hj' : j < e.cells.length := by rw [← c1]; simpa using (List.getElem?_eq_some_iff.1 hj).1
            exact (c2 j e.cells[j] v (List.getElem?_eq_getElem hj') (by simpa using hj)).oneCell (c0 _ (List.getElem_mem hj'))
          have hrun := run_storeAt hΓ hi w b (i * Wd) T arr ay g2 (by rw [c1, hsz, hW2]) (by omega) cone
          have hlv : (L hd).live := hlv trivial
          refine ⟨_, hrun, out_write h hk hlv g1 g2 ⟨fun e' he' => ?_, by simpa using q2, .inr ⟨b, _, g1, setRow_heap w b arr _ T _ g2, ?_, fun i' e' j c v e1 e2 e3 => ?_⟩⟩ trivial fun j hj => hj.elim⟩
          · rcases List.mem_or_eq_of_mem_set he' with he' | he'
            · exact q1 e' he'
            · subst he'; exact ⟨hsz, c0⟩
          · simp [c1, hsz]; omega
          · refine h.pr_row hlv g1 _ ?_
            simp only [List.getElem?_toArray] at e3
            have eg := splice_get arr.toList ay.cells.toList (i * Wd) (i' * Wd + j) (by simp [c1, hsz]; omega)
            simp only [Array.length_toList, c1, hsz] at eg
            rw [hW2, eg] at e3
            have hjW : j < Wd := by
              have := (List.getElem?_eq_some_iff.1 e2).1
              rcases List.mem_or_eq_of_mem_set (List.mem_of_getElem? e1) with he' | he'
              · rw [(q1 e' he').1] at this; exact this
              · subst he'; omega
            by_cases hii : i' = i
            · subst hii
              rw [List.getElem?_set_self hlt] at e1
              cases e1
              rw [if_neg (by omega), if_pos (by omega)] at e3
              have : i' * Wd + j - i' * Wd = j := by omega
              rw [this] at e3
              exact c2 j c v e2 (by simpa using e3)
            · rw [List.getElem?_set_ne (by omega)] at e1
              have : i' * Wd + j < i * Wd ∨ i * Wd + Wd ≤ i' * Wd + j := by
                rcases Nat.lt_or_gt_of_ne hii with hlt | hgt
                · left
                  have : (i' + 1) * Wd ≤ i * Wd := Nat.mul_le_mul_right _ (by omega)
                  rw [Nat.add_mul] at this; omega
                · right
                  have : (i + 1) * Wd ≤ i' * Wd := Nat.mul_le_mul_right _ (by omega)
                  rw [Nat.add_mul] at this; omega
              rcases this with hlt | hge
              · rw [if_pos hlt] at e3; exact g4 i' e' j c v e1 e2 (by simpa using e3)
              · rw [if_neg (by omega), if_neg (by omega)] at e3; exact g4 i' e' j c v e1 e2 (by simpa using e3)
    · rename_i T cs ti hi
      obtain ⟨hb1, hk2⟩ : ((Nat.beq Wd 1 && (Nat.beq ti.size 1 && !ti.d.agg)) = true) ∧ rowEl Γ t vy fun c => SLt i cs.length (SAs (cs.set i c) fun cs' => K .undef [(hd, .rows T cs')]) := by
        cases hc : (Nat.beq Wd 1 && (Nat.beq ti.size 1 && !ti.d.agg)) with
        | false => rw [hc] at hk; exact hk.elim
        | true => rw [hc] at hk; exact ⟨rfl, hk⟩
      simp only [Bool.and_eq_true] at hb1
      have hW1 := Nat.eq_of_beq_eq_true hb1.1
      have hW3 := Nat.eq_of_beq_eq_true hb1.2.1
      subst hW1
      clear hk
      obtain ⟨c, hk, hone, hc, hcm⟩ := rowEl_ok hk2
      cases hk with | mk hlt hk =>
      cases hk with | mk cs' hcs hk =>
      subst hcs
      obtain ⟨q1, q2, q3⟩ := hb
      cases hx with | @eptr _ _ _ _ b hb' =>
      obtain ⟨arr, g1, g2, g3, g4⟩ : ∃ arr, (β hd).1 = some b ∧ w.heap[b]? = some (.cells arr T (0, 0)) ∧ arr.size = (β hd).2 ∧ ∀ (i : Nat) c v, cs[i]? = some c → arr[i]? = some v → VR w (FBof E.Bor F) β c v := by
        rcases q3 with q3 | ⟨b', arr, g1, g2, g3, g4⟩
        · rw [q3.1] at hb'; cases hb'
        · rw [g1] at hb'; cases hb'; exact ⟨arr, g1, g2, g3, g4⟩
      exact out_storeR hΓ h hi hW3 (hlv trivial) g1 g2 g3 q1 q2 g4 (hc _ _ _ _ hy) hone hlt (fun k hk => hmy k (hcm k hk)) hmb hk
    · exact hk.elim
  · exact hk.elim
end
end Go.Proofs.Ytkaooejeljdbnaa
