/- Each operation does to the machine what 'opSem' says (eighth part): the built-in functions. -/
import Derived.Test.YtkaooejeljdbnaaAb9
namespace Go.Proofs.Ytkaooejeljdbnaa
open Go
set_option linter.unusedVariables false
set_option linter.unusedSimpArgs false

section
variable {P : Program} {Γ : Tab} {E : Env} {n : Nat} {s : Nat → AV} {L : Hd → Blk} {a : Act} {w : World} {F : Nat → Prop} {β : Hd → Option Nat × Nat} {K : AV → List (Hd × Blk) → Prop}
  {W : Operand → (AV → Prop) → Prop} {LK : Hd → (Blk → Prop) → Prop} {wr : FuncId → Bool} {base : Nat}

/-- An empty row, without a block. -/
theorem StI.zero (h : StI E n s L a w F β) (nh : Hd) (e : TypeId) (Wd : Nat) (hfree : L nh = .free) : StI E n s (upd L nh (.vec e Wd [])) a w F (upd β nh (none, 0)) := by
  have ne : ∀ k, L k ≠ .free → k ≠ nh := fun k hk e => hk (e ▸ hfree)
  refine h.step rfl rfl rfl (Nat.le_refl _) (fun _ => id) h.flt h.fold (fun _ _ => rfl) (fun _ _ => rfl) (fun k hk => upd_other _ _ (ne k hk)) (fun k hk => by rw [upd_other _ _ (ne k hk)]; exact hk) (fun k => ?_) (fun k b h1 h2 => ?_) (fun k k' b h1 h2 h3 h4 => ?_)
  · by_cases e : k = nh
    · subst e; rw [upd_same]; exact .inr ⟨⟨by simp, by simp, .inl (by rw [upd_same]; exact ⟨rfl, rfl⟩)⟩, fun j hj => hj.elim⟩
    · rw [upd_other _ _ e]; exact .inl ⟨rfl, fun _ _ _ => rfl⟩
  · by_cases e : k = nh
    · subst e; rw [upd_same] at h2; cases h2
    · rw [upd_other _ _ e] at h1 h2; exact h.own k b h1 h2
  · by_cases e : k = nh
    · subst e; rw [upd_same] at h3; cases h3
    · by_cases e' : k' = nh
      · subst e'; rw [upd_same] at h4; cases h4
      · rw [upd_other _ _ e] at h1 h3; rw [upd_other _ _ e'] at h2 h4; exact h.dis k k' b h1 h2 h3 h4

/-- A row gets another number. -/
theorem StI.transfer (h : StI E n s L a w F β) (hd nh : Hd) (e : TypeId) (Wd : Nat) (es : List PV) (hfree : L nh = .free) (hL : L hd = .vec e Wd es) :
    StI E n s (upd (upd L hd .dead) nh (.vec e Wd es)) a w F (upd β nh (β hd)) := by
  have hne : hd ≠ nh := by intro e; rw [e, hfree] at hL; cases hL
  have ne : ∀ k, L k ≠ .free → k ≠ nh := fun k hk e => hk (e ▸ hfree)
  have hlv : (L hd).live := by rw [hL]; trivial
  have back : ∀ k, (upd (upd L hd .dead) nh (.vec e Wd es) k).live → (k = nh ∧ True) ∨ (k ≠ nh ∧ k ≠ hd ∧ (L k).live) := by
    intro k hk
    by_cases e1 : k = nh
    · exact .inl ⟨e1, trivial⟩
    · rw [upd_other _ _ e1] at hk
      by_cases e2 : k = hd
      · subst e2; rw [upd_same] at hk; exact hk.elim
      · rw [upd_other _ _ e2] at hk; exact .inr ⟨e1, e2, hk⟩
  refine h.step rfl rfl rfl (Nat.le_refl _) (fun _ => id) h.flt h.fold (fun _ _ => rfl) (fun _ _ => rfl) (fun k hk => upd_other _ _ (ne k hk)) (fun k hk => ?_) (fun k => ?_) (fun k b h1 h2 => ?_) (fun k k' b h1 h2 h3 h4 => ?_)
  · rw [upd_other _ _ (ne k hk)]
    by_cases e2 : k = hd
    · subst e2; rw [upd_same]; exact fun e => by cases e
    · rw [upd_other _ _ e2]; exact hk
  · by_cases e1 : k = nh
    · subst e1; rw [upd_same]
      refine .inr ⟨?_, fun j hj => hj.elim⟩
      have := h.blks hd
      rw [hL] at this
      simpa only [Own, upd_same] using this
    · rw [upd_other _ _ e1]
      by_cases e2 : k = hd
      · subst e2; rw [upd_same]; exact .inr ⟨trivial, fun j hj => hj.elim⟩
      · rw [upd_other _ _ e2]; exact .inl ⟨rfl, fun _ _ _ => rfl⟩
  · rcases back k h1 with ⟨e1, _⟩ | ⟨e1, e2, h1⟩
    · subst e1; rw [upd_same] at h2; exact h.own hd b hlv h2
    · rw [upd_other _ _ e1] at h2; exact h.own k b h1 h2
  · rcases back k h1 with ⟨e1, _⟩ | ⟨e1, e2, h1⟩ <;> rcases back k' h2 with ⟨e1', _⟩ | ⟨e1', e2', h2⟩
    · rw [e1, e1']
    · subst e1; rw [upd_same] at h3; rw [upd_other _ _ e1'] at h4; exact (e2' (h.dis k' hd b (by assumption) hlv h4 h3)).elim
    · subst e1'; rw [upd_same] at h4; rw [upd_other _ _ e1] at h3; exact (e2 (h.dis k hd b (by assumption) hlv h3 h4)).elim
    · rw [upd_other _ _ e1] at h3; rw [upd_other _ _ e1'] at h4; exact h.dis k k' b h1 h2 h3 h4

/-- What an append adds: where it lies. -/
structure Src (w : World) (FB : Bool → Nat → Prop) (Wd : Nat) (xs : List PV) (ax : Value) : Prop where
  val : ∃ ad c, ax = .slice ad xs.length c ∧ (xs ≠ [] → ∃ (b off : Nat) (news : List Value), ad = some ⟨b, off, none⟩ ∧ news.length = xs.length * Wd ∧ (∀ j u, news[j]? = some u → w.cell? ⟨b, off + j, none⟩ = some u) ∧ (∀ u ∈ news, u.oneCell' = true) ∧
    ∀ (i : Nat) e (j : Nat) c v, xs[i]? = some e → e.cells[j]? = some c → news[i * Wd + j]? = some v → PR w FB c v)
  els : ∀ e ∈ xs, e.cells.length = Wd ∧ ∀ c ∈ e.cells, c.one = true

theorem news_of {w : World} {FB : Bool → Nat → Prop} {Wd : Nat} {xs : List PV} (hel : ∀ e ∈ xs, e.cells.length = Wd ∧ ∀ c ∈ e.cells, c.one = true) (b off : Nat) (vals : Nat → Nat → Value)
    (hv : ∀ (i : Nat) e (j : Nat) c, xs[i]? = some e → e.cells[j]? = some c → w.cell? ⟨b, off + i * Wd + j, none⟩ = some (vals i j)) (hr : ∀ (i : Nat) e (j : Nat) c, xs[i]? = some e → e.cells[j]? = some c → PR w FB c (vals i j)) :
    ∃ news : List Value, news.length = xs.length * Wd ∧ (∀ j u, news[j]? = some u → w.cell? ⟨b, off + j, none⟩ = some u) ∧ (∀ u ∈ news, u.oneCell' = true) ∧
      ∀ (i : Nat) e (j : Nat) c v, xs[i]? = some e → e.cells[j]? = some c → news[i * Wd + j]? = some v → PR w FB c v := by
  refine ⟨(List.range (xs.length * Wd)).map fun k => vals (k / Wd) (k % Wd), by simp, fun j u hj => ?_, fun u hu => ?_, fun i e j c v e1 e2 e3 => ?_⟩
  · have hlt : j < xs.length * Wd := by have := (List.getElem?_eq_some_iff.1 hj).1; simpa using this
    rw [List.getElem?_map, List.getElem?_range hlt] at hj
    cases hj
    have h0 : 0 < Wd := by rcases Nat.eq_zero_or_pos Wd with e | e; · rw [e] at hlt; simp at hlt
                           · exact e
    have hq : j / Wd < xs.length := by rw [Nat.div_lt_iff_lt_mul h0]; exact hlt
    have hm : j % Wd < Wd := Nat.mod_lt _ h0
    have he := (hel xs[j / Wd] (List.getElem_mem hq)).1
    have := hv (j / Wd) xs[j / Wd] (j % Wd) _ (List.getElem?_eq_getElem hq) (List.getElem?_eq_getElem (by rw [he]; exact hm))
    rw [show off + j / Wd * Wd + j % Wd = off + j by have := Nat.div_add_mod j Wd; rw [Nat.mul_comm] at this; omega] at this
    exact this
  · obtain ⟨k, hk, rfl⟩ := List.mem_map.1 hu
    have hlt : k < xs.length * Wd := by simpa using hk
    have h0 : 0 < Wd := by rcases Nat.eq_zero_or_pos Wd with e | e; · rw [e] at hlt; simp at hlt
                           · exact e
    have hq : k / Wd < xs.length := by rw [Nat.div_lt_iff_lt_mul h0]; exact hlt
    have hm : k % Wd < Wd := Nat.mod_lt _ h0
    have he := hel xs[k / Wd] (List.getElem_mem hq)
    have hl : k % Wd < (xs[k / Wd]).cells.length := by rw [he.1]; exact hm
    exact (hr (k / Wd) _ (k % Wd) _ (List.getElem?_eq_getElem hq) (List.getElem?_eq_getElem hl)).oneCell (he.2 _ (List.getElem_mem hl))
  · have he := (hel e (List.mem_of_getElem? e1)).1
    have hj : j < Wd := by rw [← he]; exact (List.getElem?_eq_some_iff.1 e2).1
    have hi := (List.getElem?_eq_some_iff.1 e1).1
    have hlt : i * Wd + j < xs.length * Wd := by
      have : (i + 1) * Wd ≤ xs.length * Wd := Nat.mul_le_mul_right _ (by omega)
      rw [Nat.add_mul] at this; omega
    rw [List.getElem?_map, List.getElem?_range hlt] at e3
    cases e3
    have h1 : (i * Wd + j) / Wd = i := by rw [Nat.mul_comm, Nat.mul_add_div (by omega)]; simp [Nat.div_eq_of_lt hj]
    have h2 : (i * Wd + j) % Wd = j := by rw [Nat.mul_comm, Nat.mul_add_mod, Nat.mod_eq_of_lt hj]
    show PR w FB c (vals ((i * Wd + j) / Wd) ((i * Wd + j) % Wd))
    rw [h1, h2]; exact hr i e j c e1 e2

theorem addedK_ok (hL : ∀ h K, LK h K → K (L h)) (h : StI E n s L a w F β) {x : AV} {ax : Value} (hx : VR w (FBof E.Bor F) β x ax) {K' : Nat → List PV → Prop} (hk : addedK LK x K') :
    ∃ Wd xs, K' Wd xs ∧ (x ≠ .emp → Src w (FBof E.Bor F) Wd xs ax) ∧ (x = .emp → xs = [] ∧ ∃ ad, ax = .slice ad 0 0) := by
  unfold addedK at hk
  split at hk
  · refine ⟨0, [], hk, fun h => absurd rfl h, fun _ => ⟨rfl, ?_⟩⟩
    cases hx with
    | empn => exact ⟨_, rfl⟩
    | emp b off => exact ⟨_, rfl⟩
  · rename_i m Wd es
    refine ⟨Wd, es, hk, fun _ => ?_, fun e => by cases e⟩
    cases hx with | p hx =>
    cases hx with
    | nil _ _ ad => exact ⟨⟨ad, 0, rfl, fun h => absurd rfl h⟩, by simp⟩
    | sl _ _ _ b off cap vals hc hb hW hone hv hr =>
      have hel : ∀ e ∈ es, e.cells.length = Wd ∧ ∀ c ∈ e.cells, c.one = true := fun e he => ⟨hW e he, hone e he⟩
      obtain ⟨news, n1, n2, n3, n4⟩ := news_of hel b off vals hv hr
      exact ⟨⟨_, cap, rfl, fun _ => ⟨b, off, news, rfl, n1, n2, n3, n4⟩⟩, hel⟩
  · rename_i hd Wd off len
    have hk := hL hd _ hk
    have hb := h.blks hd
    generalize hB : L hd = B at hk hb
    split at hk
    · rename_i T W' es
      obtain ⟨hWd, hK⟩ := cond_beq hk
      subst hWd
      obtain ⟨es', hes, hlen, hK⟩ := hK
      subst hes
      refine ⟨Wd, _, hK, fun _ => ?_, fun e => by cases e⟩
      obtain ⟨q1, q2, q3⟩ := hb
      have hll : ((es.drop off).take len).length = len := by simp; omega
      have hel : ∀ e ∈ (es.drop off).take len, e.cells.length = Wd ∧ ∀ c ∈ e.cells, c.one = true := fun e he => q1 e (List.mem_of_mem_drop (List.mem_of_mem_take he))
      cases hx with
      | vecn ad ha hb =>
        refine ⟨⟨ad, 0, by simp, fun h => absurd (by simp) h⟩, hel⟩
      | @vec _ _ _ _ b o cc hb' hcl hcm ho =>
        have hc : off + len ≤ (β hd).2 := by omega
        refine ⟨⟨_, _, by rw [hll], fun hne => ?_⟩, hel⟩
        have hpos : 0 < len := by rcases Nat.eq_zero_or_pos len with e | e; · rw [e] at hne; simp at hne
                                  · exact e
        obtain ⟨arr, g1, g2, g3, g4⟩ : ∃ arr, (β hd).1 = some b ∧ w.heap[b]? = some (.cells arr T (0, 0)) ∧ arr.size = (β hd).2 * Wd ∧ ∀ (i : Nat) e (j : Nat) c v, es[i]? = some e → e.cells[j]? = some c → arr[i * Wd + j]? = some v → PR w (FBof E.Bor F) c v := by
          rcases q3 with q3 | ⟨b', arr, g1, g2, g3, g4⟩
          · rw [q3.1] at hb'; cases hb'
          · rw [g1] at hb'; cases hb'; exact ⟨arr, g1, g2, g3, g4⟩
        have hin : ∀ i j, i < es.length → j < Wd → i * Wd + j < arr.size := fun i j hi hj => by
          rw [g3]
          have : (i + 1) * Wd ≤ (β hd).2 * Wd := Nat.mul_le_mul_right _ (by omega)
          rw [Nat.add_mul] at this; omega
        have get : ∀ (i : Nat) e, ((es.drop off).take len)[i]? = some e → i < len ∧ es[off + i]? = some e := fun i e he => by
          have hi : i < len := by have := (List.getElem?_eq_some_iff.1 he).1; rw [hll] at this; exact this
          rw [List.getElem?_take_of_lt hi, List.getElem?_drop] at he
          exact ⟨hi, he⟩
        have ho := ho (by omega)
        subst ho
        obtain ⟨news, n1, n2, n3, n4⟩ := news_of (w := w) (FB := FBof E.Bor F) hel b (off * Wd) (fun i j => arr.getD ((off + i) * Wd + j) Go.undef) (fun i e j c e1 e2 => by
            obtain ⟨hi, he⟩ := get i e e1
            have hj : j < Wd := by rw [← (q1 e (List.mem_of_getElem? he)).1]; exact (List.getElem?_eq_some_iff.1 e2).1
            have := hin (off + i) j (by omega) hj
            rw [show off * Wd + i * Wd + j = (off + i) * Wd + j by rw [Nat.add_mul]]
            simp only [World.cell?, g2]; simp [Array.getD, this]) (fun i e j c e1 e2 => by
            obtain ⟨hi, he⟩ := get i e e1
            have hj : j < Wd := by rw [← (q1 e (List.mem_of_getElem? he)).1]; exact (List.getElem?_eq_some_iff.1 e2).1
            have := hin (off + i) j (by omega) hj
            exact g4 (off + i) e j c _ he e2 (by simp [Array.getD, this]))
        exact ⟨b, off * Wd, news, rfl, n1, n2, n3, n4⟩
    · exact hk.elim
  · exact hk.elim

theorem addedS_ok (hL : ∀ h K, LK h K → K (L h)) (h : StI E n s L a w F β) {x : AV} {ax : Value} {size : Nat} (hx : VR w (FBof E.Bor F) β x ax) {K' : List PV → Prop} (hk : addedS LK size x K') :
    ∃ xs, K' xs ∧ ((xs = [] ∧ ∃ ad c, ax = .slice ad 0 c) ∨ Src w (FBof E.Bor F) size xs ax) := by
  obtain ⟨Wd, xs, hk, h1, h2⟩ := addedK_ok hL h hx hk
  split at hk
  · obtain ⟨_, ad, e⟩ := h2 rfl
    exact ⟨[], hk, .inl ⟨rfl, ad, 0, e⟩⟩
  · rename_i hne
    obtain ⟨hWd, hK⟩ := cond_beq hk
    subst hWd
    exact ⟨xs, hK, .inr (h1 (by intro e; exact hne e))⟩

theorem run_app0 {t e : TypeId} (hu : P.underlying t = some (.slice e)) {sz : Nat} {w : World} (hs : (sizeOf e).run P w = .ok sz w) (ty : TypeId) (b : Option Addr) (l c : Nat) (hlc : l ≤ c) (ad : Option Addr) (c' : Nat) :
    (Builtin.append_ #[t, t] ty #[.slice b l c, .slice ad 0 c']).run P w = .ok (.slice b l c) w := by
  have h1 : ∀ ad, (Builtin.firstCells sz 0 (.slice ad 0 c')).run P w = .ok #[] w := by
    intro ad
    cases ad with
    | none => simp [Builtin.firstCells]
    | some a => simp [Builtin.firstCells, loadCells, loadCellsFrom]
  cases b with
  | none => simp [Builtin.append_, run_underlying hu, hs, Builtin.lenOf, hlc, h1]
  | some b => simp [Builtin.append_, run_underlying hu, hs, Builtin.lenOf, hlc, h1, storeCells]

theorem PR.drew {w : World} {FB : Bool → Nat → Prop} {p : PV} {v : Value} (h : PR w FB p v) : PR w.drew FB p v := PR.mono (w := w) (w' := w.drew) (fun _ _ h => h) (fun _ _ _ => rfl) h

theorem VR.vecInv {w : World} {FB : Bool → Nat → Prop} {β : Hd → Option Nat × Nat} {h : Hd} {Wd off len : Nat} {v : Value} (hv : VR w FB β (.vec h Wd off len) v) :
    (∃ b o c, (β h).1 = some b ∧ len ≤ c ∧ off + c ≤ (β h).2 ∧ (c ≠ 0 → o = off * Wd) ∧ v = .slice (some ⟨b, o, none⟩) len c) ∨
    (∃ ad, (β h).1 = none ∧ off = 0 ∧ len = 0 ∧ v = .slice ad 0 0 ∧ ∀ x, ad = some x → x.spot = none) := by
  cases hv with
  | @vec _ _ _ _ b o c hb hc hm ho => exact .inl ⟨b, o, c, hb, hc, hm, ho, rfl⟩
  | vecn ad ha hb => exact .inr ⟨ad, hb, rfl, rfl, rfl, ha⟩

/-- A grown row. -/
theorem own_grown (w : World) (FB : Bool → Nat → Prop) {e : TypeId} {Wd cap base : Nat} {es xs : List PV} {olds news : List Value} {z : Array Value}
    (hes : ∀ e ∈ es, e.cells.length = Wd ∧ ∀ c ∈ e.cells, c.one = true) (hxs : ∀ e ∈ xs, e.cells.length = Wd ∧ ∀ c ∈ e.cells, c.one = true) (hz : z.size = Wd) (hlo : olds.length = es.length * Wd) (hln : news.length = xs.length * Wd)
    (hcap : es.length + xs.length ≤ cap) (r1 : ∀ (i : Nat) e (j : Nat) c v, es[i]? = some e → e.cells[j]? = some c → olds[i * Wd + j]? = some v → PR w FB c v)
    (r2 : ∀ (i : Nat) e (j : Nat) c v, xs[i]? = some e → e.cells[j]? = some c → news[i * Wd + j]? = some v → PR w FB c v) (b : Nat) (arr : Array Value)
    (harr : arr.toList = olds ++ news ++ (Builtin.zeroCells z (cap - (es.length + xs.length))).toList) (hh : w.heap[b]? = some (.cells arr e (0, 0))) :
    Own w FB (upd β base (some b, cap)) base (.vec e Wd (es ++ xs)) := by
  refine ⟨fun e he => (List.mem_append.1 he).elim (hes e) (hxs e), by rw [upd_same]; simpa using hcap, .inr ⟨b, arr, by rw [upd_same], hh, ?_, fun i e j c v e1 e2 e3 => ?_⟩⟩
  · rw [upd_same, ← Array.length_toList, harr]
    simp only [List.length_append, hlo, hln, Array.length_toList, size_zeroCells, hz]
    rw [← Nat.add_mul, ← Nat.add_mul]; congr 1; omega
  · have hj : j < Wd := by rw [← ((List.mem_append.1 (List.mem_of_getElem? e1)).elim (hes e) (hxs e)).1]; exact (List.getElem?_eq_some_iff.1 e2).1
    rw [← Array.getElem?_toList, harr] at e3
    by_cases hi : i < es.length
    · rw [List.getElem?_append_left hi] at e1
      have : i * Wd + j < olds.length := by
        rw [hlo]
        have : (i + 1) * Wd ≤ es.length * Wd := Nat.mul_le_mul_right _ (by omega)
        rw [Nat.add_mul] at this; omega
      rw [List.append_assoc, List.getElem?_append_left this] at e3
      exact r1 i e j c v e1 e2 e3
    · rw [List.getElem?_append_right (by omega)] at e1
      have hi2 := (List.getElem?_eq_some_iff.1 e1).1
      have h1 : es.length * Wd ≤ i * Wd := Nat.mul_le_mul_right _ (by omega)
      have h2 : i * Wd - es.length * Wd = (i - es.length) * Wd := (Nat.sub_mul ..).symm
      have h3 : (i - es.length + 1) * Wd ≤ xs.length * Wd := Nat.mul_le_mul_right _ (by omega)
      rw [Nat.add_mul] at h3
      rw [List.append_assoc, List.getElem?_append_right (by rw [hlo]; omega), hlo, List.getElem?_append_left (by rw [hln]; omega)] at e3
      exact r2 (i - es.length) e j c v e1 e2 (by rw [← e3]; congr 1; omega)

theorem cond_and {a b : Nat} {c : Bool} {A : Prop} (h : cond (Nat.beq a b && c) A False) : a = b ∧ c = true ∧ A := by
  cases e : (Nat.beq a b && c) with
  | false => rw [e] at h; exact h.elim
  | true =>
    rw [e] at h
    simp only [Bool.and_eq_true] at e
    exact ⟨Nat.eq_of_beq_eq_true e.1, e.2, h⟩
theorem cond_and2 {a b c d : Nat} {A : Prop} (h : cond (Nat.beq a b && Nat.beq c d) A False) : a = b ∧ c = d ∧ A := by
  obtain ⟨h1, h2, h3⟩ := cond_and h
  exact ⟨h1, Nat.eq_of_beq_eq_true h2, h3⟩

theorem out_append (hΓ : GOK P Γ) (hL : ∀ h K, LK h K → K (L h)) (h : StI E n s L a w F β) (hf : ∀ v ups, K v ups → ∀ x ∈ ups, base ≤ x.1.key → FreeAt L x.1.key) {t ty e : TypeId} {i : TI}
    (hu : P.underlying t = some (.slice e)) (hi : Γ e = some i) {vs vx : AV} {av ax : Value} (hs : VR w (FBof E.Bor F) β vs av) (hx : VR w (FBof E.Bor F) β vx ax)
    (hk : appendK LK base e i vs vx K) : Out P E n s L a K ((Builtin.append_ #[t, t] ty #[av, ax]).run P w) := by
  obtain ⟨info, z, g1, g2, g3, g4, g5⟩ := info_of hΓ hi
  have hsz := size_run hΓ hi w
  unfold appendK at hk
  obtain ⟨h0, hk⟩ := cond_ble hk
  -- a new row
  have fresh : ∀ (es xs : List PV) (olds news : List Value) (cap0 : Nat) (L' : Hd → Blk) (hst : StI E n s L' a w.drew F β) (hfree : L' base = .free),
      (∀ e ∈ es, e.cells.length = i.size ∧ ∀ c ∈ e.cells, c.one = true) → (∀ e ∈ xs, e.cells.length = i.size ∧ ∀ c ∈ e.cells, c.one = true) → olds.length = es.length * i.size → news.length = xs.length * i.size →
      (∀ (q : Nat) e (j : Nat) c v, es[q]? = some e → e.cells[j]? = some c → olds[q * i.size + j]? = some v → PR w (FBof E.Bor F) c v) →
      (∀ (q : Nat) e (j : Nat) c v, xs[q]? = some e → e.cells[j]? = some c → news[q * i.size + j]? = some v → PR w (FBof E.Bor F) c v) → ∀ arr : Array Value,
      arr.toList = olds ++ news ++ (Builtin.zeroCells z.cells (grownCap w (es.length + xs.length) cap0 e - (es.length + xs.length))).toList →
      StI E n s (upd L' base (.vec e i.size (es ++ xs))) a (w.drew.alloc (.cells arr e)) F (upd β base (some w.heap.size, grownCap w (es.length + xs.length) cap0 e)) ∧
        VR (w.drew.alloc (.cells arr e)) (FBof E.Bor F) (upd β base (some w.heap.size, grownCap w (es.length + xs.length) cap0 e)) (.vec base i.size 0 (es.length + xs.length)) (.slice (some ⟨w.heap.size, 0, none⟩) (es.length + xs.length) (grownCap w (es.length + xs.length) cap0 e)) := by
    intro es xs olds news cap0 L' hst hfree q1 q2 q3 q4 q5 q6 arr harr
    have hge := grownCap_ge w (es.length + xs.length) cap0 e
    refine ⟨hst.alloc (.cells arr e) (.vec e i.size (es ++ xs)) base _ rfl rfl rfl rfl hfree ?_ trivial (fun j hj => hj.elim), vec_new hge⟩
    refine own_grown (w.drew.alloc (.cells arr e)) (FBof E.Bor F) q1 q2 g5 q3 q4 hge (fun q e j c v e1 e2 e3 => ?_) (fun q e j c v e1 e2 e3 => ?_) w.heap.size arr harr (push_new w.drew _)
    · exact hst.pr_alloc _ (q5 q e j c v e1 e2 e3).drew
    · exact hst.pr_alloc _ (q6 q e j c v e1 e2 e3).drew
  have hdrew : StI E n s L a w.drew F β := h.still rfl rfl rfl rfl
  split at hk
  · -- onto an empty one
    obtain ⟨xs, hk, hsrc⟩ := addedS_ok hL h hx hk
    obtain ⟨hr1, hr2, hk⟩ := hk
    have hfree : L base = .free := (hf _ _ hk (base, .vec e i.size xs) (by simp) (Nat.le_refl _)).1
    have hemp : ∃ ad, av = .slice ad 0 0 ∧ (∀ x, ad = some x → ∃ b o, x = ⟨b, o, none⟩) := by
      cases hs with
      | empn => exact ⟨none, rfl, by simp⟩
      | emp b o => exact ⟨_, rfl, fun x hx => ⟨b, o, by simpa using hx.symm⟩⟩
    obtain ⟨ad, rfl, had⟩ := hemp
    by_cases hxs : xs = []
    · subst hxs
      have hax : ∃ ad c, ax = .slice ad 0 c := by
        rcases hsrc with ⟨_, h⟩ | ⟨⟨ad, c, h, _⟩, _⟩
        · exact h
        · exact ⟨ad, c, h⟩
      obtain ⟨ad', c', rfl⟩ := hax
      rw [run_app0 hu hsz ty _ _ _ (Nat.le_refl _)]
      refine ⟨_, _, F, _, hk, h.zero base e i.size hfree, .vecn ad (fun x hx => by obtain ⟨b, o, e⟩ := had x hx; rw [e]) (by rw [upd_same]), fun k hk => ?_⟩
      obtain rfl : base = k := hk
      show upd L base _ base ≠ _
      rw [upd_same]; exact fun e => by cases e
    · rcases hsrc with ⟨h, _⟩ | ⟨⟨ad', c', rfl, hsrc⟩, hel⟩
      · exact (hxs h).elim
      · obtain ⟨b, off, news, rfl, n1, n2, n3, n4⟩ := hsrc hxs
        have hpos : 0 < xs.length := List.length_pos_iff.2 hxs
        have hr : ∃ arr : Array Value, arr.toList = [] ++ news ++ (Builtin.zeroCells z.cells (grownCap w (0 + xs.length) 0 e - (0 + xs.length))).toList ∧
            (Builtin.append_ #[t, t] ty #[.slice ad 0 0, .slice (some ⟨b, off, none⟩) xs.length c']).run P w = .ok (.slice (some ⟨w.heap.size, 0, none⟩) (0 + xs.length) (grownCap w (0 + xs.length) 0 e)) (w.drew.alloc (.cells arr e)) := by
          cases ad with
          | none =>
            have := run_append_nil (P := P) w t ty e info z hu g1 g4 ⟨b, off, none⟩ xs.length c' news (by rw [n1, g2]) (fun j u hj => by rw [Addr.add_lit]; exact n2 j u hj) hpos (by omega) (by rw [g3]; omega)
            simp only [Nat.zero_add]
            exact ⟨_, by simp, this⟩
          | some x =>
            have := run_append_grow (P := P) w t ty e info z hu g1 g4 x 0 0 [] (by simp) (by simp) ⟨b, off, none⟩ xs.length c' news (by rw [n1, g2]) (fun j u hj => by rw [Addr.add_lit]; exact n2 j u hj) (by omega) (by omega)
              (growslice_fits (by omega) (by rw [g3, Nat.zero_add]; exact hr1))
            exact ⟨_, by simp, this⟩
        obtain ⟨arr, harr, hr⟩ := hr
        rw [hr]
        obtain ⟨f1, f2⟩ := fresh [] xs [] news 0 L hdrew hfree (by simp) hel (by simp) n1 (by simp) n4 arr harr
        simp only [List.nil_append, List.length_nil, Nat.zero_add] at f1 f2 ⊢
        refine ⟨_, _, F, _, hk, f1, f2, fun k hk => ?_⟩
        obtain rfl : base = k := hk
        show upd L base _ base ≠ _
        rw [upd_same]; exact fun e => by cases e
  · -- onto a row of the call's own
    rename_i hd Wd len _
    obtain ⟨hWd, hnv, hk⟩ : Wd = i.size ∧ notVec hd vx = true ∧ _ := cond_and hk
    subst hWd
    have hk := hL hd _ hk
    have hb := h.blks hd
    generalize hB : L hd = B at hk hb
    split at hk
    · rename_i T W' es
      obtain ⟨hW', hT, hK⟩ := cond_and2 hk
      subst hW'
      subst hT
      obtain ⟨hlen, hK⟩ := hK
      subst hlen
      obtain ⟨xs, hK, hsrc⟩ := addedS_ok hL h hx hK
      obtain ⟨hr1, hr2, es', hes, m, hm, hK⟩ := hK
      subst hes
      subst hm
      clear hk
      have hk := hK
      obtain ⟨q1, q2, q3⟩ := hb
      have hfree : L base = .free := (hf _ _ hk (base, .vec T i.size (es ++ xs)) (by simp) (Nat.le_refl _)).1
      have hne : hd ≠ base := by intro e; rw [e, hfree] at hB; cases hB
      have hlv : (L hd).live := by rw [hB]; trivial
      have hups : applyUps L [(hd, .dead), (base, .vec T i.size (es ++ xs))] = upd (upd L hd .dead) base (.vec T i.size (es ++ xs)) := rfl
      have hmen : ∀ k : Hd, (base : Hd) = k → applyUps L [(hd, .dead), (base, .vec T i.size (es ++ xs))] k ≠ .free := by
        intro k e; subst e; rw [hups, upd_same]; exact fun e => by cases e
      have hkfree : upd L hd .dead base = .free := by rw [upd_other _ _ (Ne.symm hne)]; exact hfree
      by_cases hxs : xs = []
      · -- nothing is added
        subst hxs
        have hax : ∃ ad c, ax = .slice ad 0 c := by
          rcases hsrc with ⟨_, h⟩ | ⟨⟨ad, c, h, _⟩, _⟩
          · exact h
          · exact ⟨ad, c, h⟩
        obtain ⟨ad', c', rfl⟩ := hax
        have htr := h.transfer hd base T i.size es hfree hB
        simp only [List.append_nil, List.length_nil, Nat.add_zero] at hk
        rcases hs.vecInv with ⟨b, o, cc, hb', hcl, hcm, ho, rfl⟩ | ⟨ad, hb', _, hz, rfl, ha⟩
        · rw [run_app0 hu hsz ty _ _ _ (by omega)]
          refine ⟨_, _, F, _, hk, htr, ?_, fun k hk => ?_⟩
          · have := VR.vec (w := w) (FB := FBof E.Bor F) (β := upd β base (β hd)) (h := base) (W := i.size) (off := 0) (len := es.length) (b := b) (o := o) (c := cc) (by rw [upd_same]; exact hb') hcl (by rw [upd_same]; exact hcm) ho
            exact this
          · obtain rfl : base = k := hk
            show upd (upd L hd .dead) base _ base ≠ _
            rw [upd_same]; exact fun e => by cases e
        · rw [run_app0 hu hsz ty _ _ _ (Nat.le_refl _)]
          refine ⟨_, _, F, _, hk, htr, by rw [hz]; exact .vecn ad ha (by rw [upd_same]; exact hb'), fun k hk => ?_⟩
          obtain rfl : base = k := hk
          show upd (upd L hd .dead) base _ base ≠ _
          rw [upd_same]; exact fun e => by cases e
      · rcases hsrc with ⟨h, _⟩ | ⟨⟨ad', c', rfl, hsrc⟩, hel⟩
        · exact (hxs h).elim
        · obtain ⟨b', off', news, rfl, n1, n2, n3, n4⟩ := hsrc hxs
          have hpos : 0 < xs.length := List.length_pos_iff.2 hxs
          have hkill : StI E n s (upd L hd .dead) a w.drew F β := hdrew.kill hd
          -- it grows
          have grow : ∀ (ad : Option Addr) (cap : Nat) (olds : List Value), av = .slice ad es.length cap → olds.length = es.length * i.size → (∀ j u, olds[j]? = some u → ∃ x, ad = some x ∧ w.cell? (x.add j) = some u) → cap < es.length + xs.length → (ad = none → es.length = 0 ∧ cap = 0) →
              (∀ (q : Nat) e (j : Nat) c v, es[q]? = some e → e.cells[j]? = some c → olds[q * i.size + j]? = some v → PR w (FBof E.Bor F) c v) → Out P E n s L a K ((Builtin.append_ #[t, t] ty #[av, .slice (some ⟨b', off', none⟩) xs.length c']).run P w) := by
            intro ad cap olds e1 e2 e3 e4 e5 e6
            subst e1
            have hr : ∃ arr : Array Value, arr.toList = olds ++ news ++ (Builtin.zeroCells z.cells (grownCap w (es.length + xs.length) cap T - (es.length + xs.length))).toList ∧
                (Builtin.append_ #[t, t] ty #[.slice ad es.length cap, .slice (some ⟨b', off', none⟩) xs.length c']).run P w = .ok (.slice (some ⟨w.heap.size, 0, none⟩) (es.length + xs.length) (grownCap w (es.length + xs.length) cap T)) (w.drew.alloc (.cells arr T)) := by
              cases ad with
              | none =>
                obtain ⟨z1, z2⟩ := e5 rfl
                subst z2
                have ho : olds = [] := by rw [z1] at e2; exact List.length_eq_zero_iff.1 (by omega)
                have := run_append_nil (P := P) w t ty T info z hu g1 g4 ⟨b', off', none⟩ xs.length c' news (by rw [n1, g2]) (fun j u hj => by rw [Addr.add_lit]; exact n2 j u hj) hpos (by omega) (by rw [g3]; rw [Nat.add_mul] at hr1; omega)
                rw [z1]
                simp only [Nat.zero_add]
                exact ⟨_, by simp [ho], this⟩
              | some x =>
                have := run_append_grow (P := P) w t ty T info z hu g1 g4 x es.length cap olds (by rw [e2, g2]) (fun j v hj => by obtain ⟨x', h1, h2⟩ := e3 j v hj; cases h1; exact h2) ⟨b', off', none⟩ xs.length c' news (by rw [n1, g2]) (fun j u hj => by rw [Addr.add_lit]; exact n2 j u hj) e4 (by omega)
                  (growslice_fits e4 (by rw [g3]; exact hr1))
                exact ⟨_, by simp, this⟩
            obtain ⟨arr, harr, hr⟩ := hr
            rw [hr]
            obtain ⟨f1, f2⟩ := fresh es xs olds news cap (upd L hd .dead) hkill hkfree q1 hel e2 n1 e6 n4 arr harr
            exact ⟨_, _, F, _, hk, f1, f2, fun k hk => hmen k hk⟩
          rcases hs.vecInv with ⟨b, o, cc, hb', hcl, hcm, ho, rfl⟩ | ⟨ad, hb', _, hz, rfl, ha⟩
          rotate_left
          · have he : es = [] := List.length_eq_zero_iff.1 hz
            exact grow ad 0 [] (by rw [hz]) (by simp [he]) (by simp) (by omega) (fun _ => ⟨hz, rfl⟩) (by simp [he])
          · obtain ⟨arr, p1, p2, p3, p4⟩ : ∃ arr, (β hd).1 = some b ∧ w.heap[b]? = some (.cells arr T (0, 0)) ∧ arr.size = (β hd).2 * i.size ∧ ∀ (q : Nat) e (j : Nat) c v, es[q]? = some e → e.cells[j]? = some c → arr[q * i.size + j]? = some v → PR w (FBof E.Bor F) c v := by
              rcases q3 with q3 | ⟨b', arr, g1, g2, g3, g4⟩
              · rw [q3.1] at hb'; cases hb'
              · rw [g1] at hb'; cases hb'; exact ⟨arr, g1, g2, g3, g4⟩
            have hle : es.length * i.size ≤ arr.size := by rw [p3]; exact Nat.mul_le_mul_right _ q2
            by_cases hroomc : es.length + xs.length ≤ cc
            · have hroom : es.length + xs.length ≤ (β hd).2 := by omega
              have ho := ho (by omega)
              simp only [Nat.zero_mul] at ho
              subst ho
              have hle2 : es.length * i.size + news.length ≤ arr.size := by rw [n1, p3, ← Nat.add_mul]; exact Nat.mul_le_mul_right _ hroom
              have hr := run_append_room (P := P) w t ty T info hu g1 b es.length cc arr p2 ⟨b', off', none⟩ xs.length c' news (by rw [n1, g2]) (fun j u hj => by rw [Addr.add_lit]; exact n2 j u hj) n3 (by omega) (by rw [g2]; exact hle2)
              rw [hr]
              rw [g2]
              have hw := h.write (w' := w.setRow b (arr.toList.take (es.length * i.size) ++ news ++ arr.toList.drop (es.length * i.size + news.length)).toArray) (.vec T i.size (es ++ xs)) hd rfl rfl rfl (by simp) p1 (fun b' hb' => setRow_other w b b' _ hb') hlv
                ⟨fun e he => (List.mem_append.1 he).elim (q1 e) (hel e), by simpa using hroom, .inr ⟨b, _, p1, setRow_heap w b arr _ T _ p2, by simp; omega, fun q e j c v e1 e2 e3 => h.pr_row hlv p1 _ (by
                  have hj : j < i.size := by rw [← ((List.mem_append.1 (List.mem_of_getElem? e1)).elim (q1 e) (hel e)).1]; exact (List.getElem?_eq_some_iff.1 e2).1
                  simp only [List.getElem?_toArray] at e3
                  rw [splice_get _ _ _ _ (by simpa using hle2)] at e3
                  by_cases hq : q < es.length
                  · rw [List.getElem?_append_left hq] at e1
                    have : (q + 1) * i.size ≤ es.length * i.size := Nat.mul_le_mul_right _ (by omega)
                    rw [Nat.add_mul] at this
                    rw [if_pos (by omega)] at e3
                    exact p4 q e j c v e1 e2 (by simpa using e3)
                  · rw [List.getElem?_append_right (by omega)] at e1
                    have hq2 := (List.getElem?_eq_some_iff.1 e1).1
                    have h1 : es.length * i.size ≤ q * i.size := Nat.mul_le_mul_right _ (by omega)
                    have h2 : q * i.size - es.length * i.size = (q - es.length) * i.size := (Nat.sub_mul ..).symm
                    have h3 : (q - es.length + 1) * i.size ≤ xs.length * i.size := Nat.mul_le_mul_right _ (by omega)
                    rw [Nat.add_mul] at h3
                    rw [if_neg (by omega), if_pos (by rw [n1]; omega)] at e3
                    exact n4 (q - es.length) e j c v e1 e2 (by rw [← e3]; congr 1; omega))⟩⟩ trivial (fun j hj => hj.elim)
              have htr := hw.transfer hd base T i.size (es ++ xs) (by rw [upd_other _ _ (Ne.symm hne)]; exact hfree) (upd_same _ _ _)
              have hLe : upd (upd (upd L hd (.vec T i.size (es ++ xs))) hd .dead) base (.vec T i.size (es ++ xs)) = upd (upd L hd .dead) base (.vec T i.size (es ++ xs)) := by
                funext k
                simp only [upd]
                split
                · rfl
                · split <;> rfl
              rw [hLe] at htr
              refine ⟨_, _, F, _, hk, htr, ?_, fun k hk => hmen k hk⟩
              have := VR.vec (w := w.setRow b (arr.toList.take (es.length * i.size) ++ news ++ arr.toList.drop (es.length * i.size + news.length)).toArray) (FB := FBof E.Bor F) (β := upd β base (β hd)) (h := base) (W := i.size) (off := 0) (len := es.length + xs.length) (b := b) (o := 0) (c := cc) (by rw [upd_same]; exact hb') hroomc (by rw [upd_same]; exact hcm) (by intro _; simp)
              exact this
            · refine grow _ _ (arr.toList.take (es.length * i.size)) rfl (by simp; omega) (fun j u hj => ⟨_, rfl, ?_⟩) (by omega) (fun e => by cases e) (fun q e j c v e1 e2 e3 => ?_)
              · have hjl := (List.getElem?_eq_some_iff.1 hj).1
                simp only [List.length_take, Array.length_toList] at hjl
                have hjl : j < es.length * i.size := by omega
                have hpos' : 0 < cc := by
                  rcases Nat.eq_zero_or_pos cc with e | e
                  · have : es.length = 0 := by omega
                    rw [this] at hjl; simp at hjl
                  · exact e
                have ho := ho (by omega)
                simp only [Nat.zero_mul] at ho
                subst ho
                rw [List.getElem?_take_of_lt hjl] at hj
                rw [Addr.add_lit]
                simp only [World.cell?, p2, Nat.zero_add]
                simpa using hj
              · have hj : j < i.size := by rw [← (q1 e (List.mem_of_getElem? e1)).1]; exact (List.getElem?_eq_some_iff.1 e2).1
                have hq := (List.getElem?_eq_some_iff.1 e1).1
                have : (q + 1) * i.size ≤ es.length * i.size := Nat.mul_le_mul_right _ (by omega)
                rw [Nat.add_mul] at this
                rw [List.getElem?_take_of_lt (by omega)] at e3
                exact p4 q e j c v e1 e2 (by simpa using e3)
    · exact hk.elim
  · exact hk.elim
theorem StI.transferR (h : StI E n s L a w F β) (hd nh : Hd) (e : TypeId) (es : List AV) (hfree : L nh = .free) (hL : L hd = .rows e es) :
    StI E n s (upd (upd L hd .dead) nh (.rows e es)) a w F (upd β nh (β hd)) := by
  have hne : hd ≠ nh := by intro e; rw [e, hfree] at hL; cases hL
  have ne : ∀ k, L k ≠ .free → k ≠ nh := fun k hk e => hk (e ▸ hfree)
  have hlv : (L hd).live := by rw [hL]; trivial
  have back : ∀ k, (upd (upd L hd .dead) nh (.rows e es) k).live → (k = nh ∧ True) ∨ (k ≠ nh ∧ k ≠ hd ∧ (L k).live) := by
    intro k hk
    by_cases e1 : k = nh
    · exact .inl ⟨e1, trivial⟩
    · rw [upd_other _ _ e1] at hk
      by_cases e2 : k = hd
      · subst e2; rw [upd_same] at hk; exact hk.elim
      · rw [upd_other _ _ e2] at hk; exact .inr ⟨e1, e2, hk⟩
  refine h.step rfl rfl rfl (Nat.le_refl _) (fun _ => id) h.flt h.fold (fun _ _ => rfl) (fun _ _ => rfl) (fun k hk => upd_other _ _ (ne k hk)) (fun k hk => ?_) (fun k => ?_) (fun k b h1 h2 => ?_) (fun k k' b h1 h2 h3 h4 => ?_)
  · rw [upd_other _ _ (ne k hk)]
    by_cases e2 : k = hd
    · subst e2; rw [upd_same]; exact fun e => by cases e
    · rw [upd_other _ _ e2]; exact hk
  · by_cases e1 : k = nh
    · subst e1; rw [upd_same]
      have hb := h.blks hd
      have hm := h.mb hd
      rw [hL] at hb hm
      obtain ⟨q1, q2, q3⟩ := hb
      refine .inr ⟨⟨q1, by rw [upd_same]; exact q2, ?_⟩, fun j hj => ?_⟩
      · rcases q3 with q3 | ⟨b, arr, g1, g2, g3, g4⟩
        · exact .inl (by rw [upd_same]; exact q3)
        · exact .inr ⟨b, arr, by rw [upd_same]; exact g1, g2, by rw [upd_same]; exact g3, fun i c v e1 e2 => (g4 i c v e1 e2).mono (fun _ _ => id) (fun _ _ _ => rfl) fun j hj => upd_other _ _ (ne j (hm j (AV.menL_mem (List.mem_of_getElem? e1) hj)))⟩
      · have hj := hm j hj
        rw [upd_other _ _ (ne j hj)]
        by_cases e2 : j = hd
        · subst e2; rw [upd_same]; exact fun e => by cases e
        · rw [upd_other _ _ e2]; exact hj
    · rw [upd_other _ _ e1]
      by_cases e2 : k = hd
      · subst e2; rw [upd_same]; exact .inr ⟨trivial, fun j hj => hj.elim⟩
      · rw [upd_other _ _ e2]; exact .inl ⟨rfl, fun _ _ _ => rfl⟩
  · rcases back k h1 with ⟨e1, _⟩ | ⟨e1, e2, h1⟩
    · subst e1; rw [upd_same] at h2; exact h.own hd b hlv h2
    · rw [upd_other _ _ e1] at h2; exact h.own k b h1 h2
  · rcases back k h1 with ⟨e1, _⟩ | ⟨e1, e2, h1⟩ <;> rcases back k' h2 with ⟨e1', _⟩ | ⟨e1', e2', h2⟩
    · rw [e1, e1']
    · subst e1; rw [upd_same] at h3; rw [upd_other _ _ e1'] at h4; exact (e2' (h.dis k' hd b (by assumption) hlv h4 h3)).elim
    · subst e1'; rw [upd_same] at h4; rw [upd_other _ _ e1] at h3; exact (e2 (h.dis k hd b (by assumption) hlv h3 h4)).elim
    · rw [upd_other _ _ e1] at h3; rw [upd_other _ _ e1'] at h4; exact h.dis k k' b h1 h2 h3 h4


theorem VR.drew {w : World} {FB : Bool → Nat → Prop} {β : Hd → Option Nat × Nat} {p : AV} {v : Value} (h : VR w FB β p v) : VR w.drew FB β p v := VR.mono (w := w) (w' := w.drew) (fun _ _ h => h) (fun _ _ _ => rfl) h fun _ _ => rfl

/-- A grown row of rows. -/
theorem own_grownR (w : World) (FB : Bool → Nat → Prop) (β' : Hd → Option Nat × Nat) {e : TypeId} {cap base : Nat} {es xs : List AV} {olds news : List Value} {z : Array Value} {b : Nat}
    (hβ : β' base = (some b, cap))
    (hes : ∀ e ∈ es, e.one = true) (hxs : ∀ e ∈ xs, e.one = true) (hz : z.size = 1) (hlo : olds.length = es.length) (hln : news.length = xs.length)
    (hcap : es.length + xs.length ≤ cap) (r1 : ∀ (i : Nat) c v, es[i]? = some c → olds[i]? = some v → VR w FB β' c v)
    (r2 : ∀ (i : Nat) c v, xs[i]? = some c → news[i]? = some v → VR w FB β' c v) (arr : Array Value)
    (harr : arr.toList = olds ++ news ++ (Builtin.zeroCells z (cap - (es.length + xs.length))).toList) (hh : w.heap[b]? = some (.cells arr e (0, 0))) :
    Own w FB β' base (.rows e (es ++ xs)) := by
  refine ⟨fun e he => (List.mem_append.1 he).elim (hes e) (hxs e), by rw [hβ]; simpa using hcap, .inr ⟨b, arr, by rw [hβ], hh, ?_, fun i c v e1 e3 => ?_⟩⟩
  · rw [hβ, ← Array.length_toList, harr]
    simp only [List.length_append, hlo, hln, Array.length_toList, size_zeroCells, hz]
    omega
  · rw [← Array.getElem?_toList, harr] at e3
    by_cases hi : i < es.length
    · rw [List.getElem?_append_left hi] at e1
      rw [List.append_assoc, List.getElem?_append_left (by omega)] at e3
      exact r1 i c v e1 e3
    · rw [List.getElem?_append_right (by omega)] at e1
      have hi2 := (List.getElem?_eq_some_iff.1 e1).1
      rw [List.append_assoc, List.getElem?_append_right (by omega), hlo, List.getElem?_append_left (by omega)] at e3
      exact r2 (i - es.length) c v e1 e3

theorem isRows_ok (hL : ∀ h K, LK h K → K (L h)) {v : AV} {J : Option (List AV) → Prop} (hk : isRows LK v J) : J none ∨ ∃ h T cs, v = .vec h 1 0 cs.length ∧ L h = .rows T cs ∧ J (some cs) := by
  unfold isRows at hk
  split at hk
  · rename_i h len
    have hk := hL h _ hk
    generalize hB : L h = B at hk
    split at hk
    · obtain ⟨e, hk2⟩ := cond_beq hk
      subst e
      exact .inr ⟨_, _, _, rfl, hB, hk2⟩
    · exact .inl hk
    · exact hk.elim
  · exact .inl hk

theorem menL_ex : ∀ {cs : List AV} {k : Hd}, AV.menL cs k → ∃ c ∈ cs, c.men k
  | c :: cs, k, h => h.elim (fun h => ⟨c, by simp, h⟩) fun h => (menL_ex h).elim fun x hx => ⟨x, by simp [hx.1], hx.2⟩

theorem out_appendA (hΓ : GOK P Γ) (hL : ∀ h K, LK h K → K (L h)) (h : StI E n s L a w F β) (hf : ∀ v ups, K v ups → ∀ x ∈ ups, base ≤ x.1.key → FreeAt L x.1.key) {t ty e : TypeId} {i : TI}
    (hu : P.underlying t = some (.slice e)) (hi : Γ e = some i) {vs vx : AV} {av ax : Value} (hs : VR w (FBof E.Bor F) β vs av) (hx : VR w (FBof E.Bor F) β vx ax)
    (hk : appendA LK base e i vs vx K) : Out P E n s L a K ((Builtin.append_ #[t, t] ty #[av, ax]).run P w) := by
  rcases isRows_ok hL hk with hk | ⟨hxd, Tx, xs, rfl, hBx, hk⟩
  · exact out_append hΓ hL h hf hu hi hs hx hk
  obtain ⟨info, z, g1, g2, g3, g4, g5⟩ := info_of hΓ hi
  have hsz := size_run hΓ hi w
  have hk : appendR LK base e i vs _ xs K := hk
  unfold appendR at hk
  obtain ⟨h1, hne, hk⟩ := cond_and hk
  have hxs : xs ≠ [] := by intro e; rw [e] at hne; cases hne
  have hpos : 0 < xs.length := List.length_pos_iff.2 hxs
  have hdrew : StI E n s L a w.drew F β := h.still rfl rfl rfl rfl
  -- what is added
  have hbx := h.blks hxd
  have hmx := h.mb hxd
  rw [hBx] at hbx hmx
  obtain ⟨x1, x2, x3⟩ := hbx
  obtain ⟨b', news, c', rfl, n1, n2, n3, n4⟩ : ∃ (b' : Nat) (news : List Value) (c' : Nat), ax = .slice (some ⟨b', 0, none⟩) xs.length c' ∧ news.length = xs.length ∧ (∀ j u, news[j]? = some u → w.cell? ⟨b', 0 + j, none⟩ = some u) ∧ (∀ u ∈ news, u.oneCell' = true) ∧
      ∀ (q : Nat) c v, xs[q]? = some c → news[q]? = some v → VR w (FBof E.Bor F) β c v := by
    rcases hx.vecInv with ⟨b, o, cc, hb', hcl, hcm, ho, rfl⟩ | ⟨ad, hb', _, hz, rfl, ha⟩
    rotate_left
    · omega
    · obtain ⟨arr, p1, p2, p3, p4⟩ : ∃ arr, (β hxd).1 = some b ∧ w.heap[b]? = some (.cells arr Tx (0, 0)) ∧ arr.size = (β hxd).2 ∧ ∀ (q : Nat) c v, xs[q]? = some c → arr[q]? = some v → VR w (FBof E.Bor F) β c v := by
        rcases x3 with q3 | ⟨b', arr, g1, g2, g3, g4⟩
        · rw [q3.1] at hb'; cases hb'
        · rw [g1] at hb'; cases hb'; exact ⟨arr, g1, g2, g3, g4⟩
      have ho := ho (by omega)
      simp only [Nat.zero_mul] at ho
      subst ho
      have rel : ∀ (q : Nat) c v, xs[q]? = some c → (arr.toList.take xs.length)[q]? = some v → VR w (FBof E.Bor F) β c v := fun q c v e1 e2 => by
        have := (List.getElem?_eq_some_iff.1 e1).1
        rw [List.getElem?_take_of_lt this] at e2
        exact p4 q c v e1 (by simpa using e2)
      refine ⟨b, arr.toList.take xs.length, _, rfl, by simp; omega, fun j u hj => ?_, fun u hu => ?_, rel⟩
      · have hjl := (List.getElem?_eq_some_iff.1 hj).1
        simp only [List.length_take, Array.length_toList] at hjl
        rw [List.getElem?_take_of_lt (by omega)] at hj
        simp only [World.cell?, p2, Nat.zero_add]
        simpa using hj
      · obtain ⟨q, hq⟩ := List.getElem?_of_mem hu
        have hql := (List.getElem?_eq_some_iff.1 hq).1
        simp only [List.length_take, Array.length_toList] at hql
        have hqx : q < xs.length := by omega
        exact (rel q xs[q] u (List.getElem?_eq_getElem hqx) hq).oneCell (x1 _ (List.getElem_mem hqx))
  have hxm : ∀ c ∈ xs, ∀ k, c.men k → L k ≠ .free := fun c hc k hk => hmx k (AV.menL_mem hc hk)
  -- a new row
  have fresh : ∀ (es : List AV) (olds : List Value) (cap0 : Nat) (L' : Hd → Blk) (hst : StI E n s L' a w.drew F β) (hfree : L' base = .free) (hfr : L base = .free) (hLL : ∀ k, L k ≠ .free → L' k ≠ .free),
      (∀ e ∈ es, e.one = true) → (∀ c ∈ es, ∀ k, c.men k → L k ≠ .free) → olds.length = es.length →
      (∀ (q : Nat) c v, es[q]? = some c → olds[q]? = some v → VR w (FBof E.Bor F) β c v) → ∀ arr : Array Value,
      arr.toList = olds ++ news ++ (Builtin.zeroCells z.cells (grownCap w (es.length + xs.length) cap0 e - (es.length + xs.length))).toList →
      StI E n s (upd L' base (.rows e (es ++ xs))) a (w.drew.alloc (.cells arr e)) F (upd β base (some w.heap.size, grownCap w (es.length + xs.length) cap0 e)) ∧
        VR (w.drew.alloc (.cells arr e)) (FBof E.Bor F) (upd β base (some w.heap.size, grownCap w (es.length + xs.length) cap0 e)) (.vec base 1 0 (es.length + xs.length)) (.slice (some ⟨w.heap.size, 0, none⟩) (es.length + xs.length) (grownCap w (es.length + xs.length) cap0 e)) := by
    intro es olds cap0 L' hst hfree hfr hLL q1 qm q3 q5 arr harr
    have hge := grownCap_ge w (es.length + xs.length) cap0 e
    refine ⟨hst.alloc (.cells arr e) (.rows e (es ++ xs)) base _ rfl rfl rfl rfl hfree ?_ trivial (fun j hj => ?_), vec_new hge⟩
    · refine own_grownR (w.drew.alloc (.cells arr e)) (FBof E.Bor F) _ (upd_same _ _ _) q1 x1 (by rw [g5]; exact h1) q3 n1 hge (fun q c v e1 e3 => ?_) (fun q c v e1 e3 => ?_) arr harr (push_new w.drew _)
      · exact hst.vr_alloc _ hfree _ (q5 q c v e1 e3).drew fun k hk => hLL k (qm c (List.mem_of_getElem? e1) k hk)
      · exact hst.vr_alloc _ hfree _ (n4 q c v e1 e3).drew fun k hk => hLL k (hxm c (List.mem_of_getElem? e1) k hk)
    · obtain ⟨c, hc, hj⟩ := menL_ex hj
      exact hLL j ((List.mem_append.1 hc).elim (fun hc => qm c hc j hj) (fun hc => hxm c hc j hj))
  split at hk
  · -- onto an empty one
    obtain ⟨hr1, hr2, hk⟩ := hk
    have hfree : L base = .free := (hf _ _ hk (base, .rows e xs) (by simp) (Nat.le_refl _)).1
    obtain ⟨ad, rfl⟩ : ∃ ad, av = .slice ad 0 0 := by
      cases hs with
      | empn => exact ⟨none, rfl⟩
      | emp b o => exact ⟨_, rfl⟩
    have hr : ∃ arr : Array Value, arr.toList = [] ++ news ++ (Builtin.zeroCells z.cells (grownCap w (0 + xs.length) 0 e - (0 + xs.length))).toList ∧
        (Builtin.append_ #[t, t] ty #[.slice ad 0 0, .slice (some ⟨b', 0, none⟩) xs.length c']).run P w = .ok (.slice (some ⟨w.heap.size, 0, none⟩) (0 + xs.length) (grownCap w (0 + xs.length) 0 e)) (w.drew.alloc (.cells arr e)) := by
      cases ad with
      | none =>
        have := run_append_nil (P := P) w t ty e info z hu g1 g4 ⟨b', 0, none⟩ xs.length c' news (by rw [n1, g2, h1, Nat.mul_one]) (fun j u hj => by rw [Addr.add_lit]; exact n2 j u hj) hpos (by omega) (by rw [g3]; omega)
        simp only [Nat.zero_add]
        exact ⟨_, by simp, this⟩
      | some x =>
        have := run_append_grow (P := P) w t ty e info z hu g1 g4 x 0 0 [] (by simp) (by simp) ⟨b', 0, none⟩ xs.length c' news (by rw [n1, g2, h1, Nat.mul_one]) (fun j u hj => by rw [Addr.add_lit]; exact n2 j u hj) (by omega) (by omega)
          (growslice_fits (by omega) (by rw [g3, Nat.zero_add]; exact hr1))
        exact ⟨_, by simp, this⟩
    obtain ⟨arr, harr, hr⟩ := hr
    rw [hr]
    obtain ⟨f1, f2⟩ := fresh [] [] 0 L hdrew hfree hfree (fun _ h => h) (by simp) (by simp) (by simp) (by simp) arr harr
    simp only [List.nil_append, List.length_nil, Nat.zero_add] at f1 f2 ⊢
    refine ⟨_, _, F, _, hk, f1, f2, fun k hk => ?_⟩
    obtain rfl : base = k := hk
    show upd L base _ base ≠ _
    rw [upd_same]; exact fun e => by cases e
  · -- onto a row of the call's own
    rename_i hd len _ _ _
    have hk := hL hd _ hk
    have hb := h.blks hd
    have hmb := h.mb hd
    generalize hB : L hd = B at hk hb hmb
    split at hk
    · rename_i T es
      obtain ⟨hT, hK⟩ := cond_beq hk
      subst hT
      obtain ⟨hlen, hr1, hr2, es', hes, m, hm, hK⟩ := hK
      subst hlen
      subst hes
      subst hm
      clear hk
      have hk := hK
      obtain ⟨q1, q2, q3⟩ := hb
      have hfree : L base = .free := (hf _ _ hk (base, .rows T (es ++ xs)) (by simp) (Nat.le_refl _)).1
      have hne : hd ≠ base := by intro e; rw [e, hfree] at hB; cases hB
      have hlv : (L hd).live := by rw [hB]; trivial
      have hups : applyUps L [(hd, .dead), (base, .rows T (es ++ xs))] = upd (upd L hd .dead) base (.rows T (es ++ xs)) := rfl
      have hmen : ∀ k : Hd, (base : Hd) = k → applyUps L [(hd, .dead), (base, .rows T (es ++ xs))] k ≠ .free := by
        intro k e; subst e; rw [hups, upd_same]; exact fun e => by cases e
      have hkfree : upd L hd .dead base = .free := by rw [upd_other _ _ (Ne.symm hne)]; exact hfree
      have hem : ∀ c ∈ es, ∀ k, c.men k → L k ≠ .free := fun c hc k hk => hmb k (AV.menL_mem hc hk)
      have hkill : StI E n s (upd L hd .dead) a w.drew F β := hdrew.kill hd
      have hLL : ∀ k, L k ≠ .free → upd L hd .dead k ≠ .free := fun k hk => by
        by_cases e2 : k = hd
        · subst e2; rw [upd_same]; exact fun e => by cases e
        · rw [upd_other _ _ e2]; exact hk
      -- it grows
      have grow : ∀ (ad : Option Addr) (cap : Nat) (olds : List Value), av = .slice ad es.length cap → olds.length = es.length → (∀ j u, olds[j]? = some u → ∃ x, ad = some x ∧ w.cell? (x.add j) = some u) → cap < es.length + xs.length → (ad = none → es.length = 0 ∧ cap = 0) →
          (∀ (q : Nat) c v, es[q]? = some c → olds[q]? = some v → VR w (FBof E.Bor F) β c v) → Out P E n s L a K ((Builtin.append_ #[t, t] ty #[av, .slice (some ⟨b', 0, none⟩) xs.length c']).run P w) := by
        intro ad cap olds e1 e2 e3 e4 e5 e6
        subst e1
        have hr : ∃ arr : Array Value, arr.toList = olds ++ news ++ (Builtin.zeroCells z.cells (grownCap w (es.length + xs.length) cap T - (es.length + xs.length))).toList ∧
            (Builtin.append_ #[t, t] ty #[.slice ad es.length cap, .slice (some ⟨b', 0, none⟩) xs.length c']).run P w = .ok (.slice (some ⟨w.heap.size, 0, none⟩) (es.length + xs.length) (grownCap w (es.length + xs.length) cap T)) (w.drew.alloc (.cells arr T)) := by
          cases ad with
          | none =>
            obtain ⟨z1, z2⟩ := e5 rfl
            subst z2
            have ho : olds = [] := by rw [z1] at e2; exact List.length_eq_zero_iff.1 e2
            have := run_append_nil (P := P) w t ty T info z hu g1 g4 ⟨b', 0, none⟩ xs.length c' news (by rw [n1, g2, h1, Nat.mul_one]) (fun j u hj => by rw [Addr.add_lit]; exact n2 j u hj) hpos (by omega) (by rw [g3]; rw [Nat.add_mul] at hr1; omega)
            rw [z1]
            simp only [Nat.zero_add]
            exact ⟨_, by simp [ho], this⟩
          | some x =>
            have := run_append_grow (P := P) w t ty T info z hu g1 g4 x es.length cap olds (by rw [e2, g2, h1, Nat.mul_one]) (fun j v hj => by obtain ⟨x', h1, h2⟩ := e3 j v hj; cases h1; exact h2) ⟨b', 0, none⟩ xs.length c' news (by rw [n1, g2, h1, Nat.mul_one]) (fun j u hj => by rw [Addr.add_lit]; exact n2 j u hj) e4 (by omega)
              (growslice_fits e4 (by rw [g3]; exact hr1))
            exact ⟨_, by simp, this⟩
        obtain ⟨arr, harr, hr⟩ := hr
        rw [hr]
        obtain ⟨f1, f2⟩ := fresh es olds cap (upd L hd .dead) hkill hkfree hfree hLL q1 hem e2 e6 arr harr
        exact ⟨_, _, F, _, hk, f1, f2, fun k hk => hmen k hk⟩
      rcases hs.vecInv with ⟨b, o, cc, hb', hcl, hcm, ho, rfl⟩ | ⟨ad, hb', _, hz, rfl, ha⟩
      rotate_left
      · have he : es = [] := List.length_eq_zero_iff.1 hz
        exact grow ad 0 [] (by rw [hz]) (by simp [he]) (by simp) (by omega) (fun _ => ⟨hz, rfl⟩) (by simp [he])
      · obtain ⟨arr, p1, p2, p3, p4⟩ : ∃ arr, (β hd).1 = some b ∧ w.heap[b]? = some (.cells arr T (0, 0)) ∧ arr.size = (β hd).2 ∧ ∀ (q : Nat) c v, es[q]? = some c → arr[q]? = some v → VR w (FBof E.Bor F) β c v := by
          rcases q3 with q3 | ⟨b', arr, g1, g2, g3, g4⟩
          · rw [q3.1] at hb'; cases hb'
          · rw [g1] at hb'; cases hb'; exact ⟨arr, g1, g2, g3, g4⟩
        have hle : es.length ≤ arr.size := by omega
        by_cases hroomc : es.length + xs.length ≤ cc
        · have hroom : es.length + xs.length ≤ (β hd).2 := by omega
          have ho := ho (by omega)
          simp only [Nat.zero_mul] at ho
          subst ho
          have hle2 : es.length + news.length ≤ arr.size := by omega
          have hr := run_append_room (P := P) w t ty T info hu g1 b es.length cc arr p2 ⟨b', 0, none⟩ xs.length c' news (by rw [n1, g2, h1, Nat.mul_one]) (fun j u hj => by rw [Addr.add_lit]; exact n2 j u hj) n3 (by omega) (by rw [g2, h1, Nat.mul_one]; exact hle2)
          rw [hr]
          rw [g2, h1, Nat.mul_one]
          have hw := h.write (w' := w.setRow b (arr.toList.take es.length ++ news ++ arr.toList.drop (es.length + news.length)).toArray) (.rows T (es ++ xs)) hd rfl rfl rfl (by simp) p1 (fun b' hb' => setRow_other w b b' _ hb') hlv
            ⟨fun e he => (List.mem_append.1 he).elim (q1 e) (x1 e), by simpa using hroom, .inr ⟨b, _, p1, setRow_heap w b arr _ T _ p2, by simp; omega, fun q c v e1 e3 => h.vr_row hlv p1 _ (by
              simp only [List.getElem?_toArray] at e3
              rw [splice_get _ _ _ _ (by simpa using hle2)] at e3
              by_cases hq : q < es.length
              · rw [List.getElem?_append_left hq] at e1
                rw [if_pos hq] at e3
                exact p4 q c v e1 (by simpa using e3)
              · rw [List.getElem?_append_right (by omega)] at e1
                have hq2 := (List.getElem?_eq_some_iff.1 e1).1
                rw [if_neg hq, if_pos (by omega)] at e3
                exact n4 (q - es.length) c v e1 e3)⟩⟩ trivial (fun j hj => by
                  obtain ⟨c, hc, hj⟩ := menL_ex hj
                  exact (List.mem_append.1 hc).elim (fun hc => hem c hc j hj) (fun hc => hxm c hc j hj))
          have htr := hw.transferR hd base T (es ++ xs) (by rw [upd_other _ _ (Ne.symm hne)]; exact hfree) (upd_same _ _ _)
          have hLe : upd (upd (upd L hd (.rows T (es ++ xs))) hd .dead) base (.rows T (es ++ xs)) = upd (upd L hd .dead) base (.rows T (es ++ xs)) := by
            funext k
            simp only [upd]
            split
            · rfl
            · split <;> rfl
          rw [hLe] at htr
          refine ⟨_, _, F, _, hk, htr, ?_, fun k hk => hmen k hk⟩
          have := VR.vec (w := w.setRow b (arr.toList.take es.length ++ news ++ arr.toList.drop (es.length + news.length)).toArray) (FB := FBof E.Bor F) (β := upd β base (β hd)) (h := base) (W := 1) (off := 0) (len := es.length + xs.length) (b := b) (o := 0) (c := cc) (by rw [upd_same]; exact hb') hroomc (by rw [upd_same]; exact hcm) (by intro _; simp)
          exact this
        · refine grow _ _ (arr.toList.take es.length) rfl (by simp; omega) (fun j u hj => ⟨_, rfl, ?_⟩) (by omega) (fun e => by cases e) (fun q c v e1 e3 => ?_)
          · have hjl := (List.getElem?_eq_some_iff.1 hj).1
            simp only [List.length_take, Array.length_toList] at hjl
            have ho := ho (by omega)
            simp only [Nat.zero_mul] at ho
            subst ho
            rw [List.getElem?_take_of_lt (by omega)] at hj
            rw [Addr.add_lit]
            simp only [World.cell?, p2, Nat.zero_add]
            simpa using hj
          · have hq := (List.getElem?_eq_some_iff.1 e1).1
            rw [List.getElem?_take_of_lt hq] at e3
            exact p4 q c v e1 (by simpa using e3)
    · exact hk.elim
  · exact hk.elim
end
end Go.Proofs.Ytkaooejeljdbnaa
