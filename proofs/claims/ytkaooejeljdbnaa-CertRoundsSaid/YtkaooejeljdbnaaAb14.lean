/- Each operation does to the machine what 'opSem' says (twelfth part): calls. -/
import Derived.Test.YtkaooejeljdbnaaAb13
namespace Go.Proofs.Ytkaooejeljdbnaa
open Go
set_option linter.unusedVariables false
set_option linter.unusedSimpArgs false

theorem getD_ge {α : Type} (l : List α) (d : α) {i : Nat} (h : l.length ≤ i) : l.getD i d = d := by simp [List.getD, List.getElem?_eq_none h]
theorem look_ge {H : List Blk} {h : Hd} (hh : H.length ≤ h.key) : look H h = .free := by
  cases h with
  | t n => simp only [look]; rw [getD_ge H _ (show H.length ≤ n from hh)]; rfl
  | r n k => simp only [look]; rw [getD_ge H _ (show H.length ≤ n from hh)]; rfl
theorem look_lt {H : List Blk} {h : Hd} (hh : look H h ≠ .free) : h.key < H.length := by
  rcases Nat.lt_or_ge h.key H.length with h' | h'
  · exact h'
  · exact (hh (look_ge h')).elim
theorem Blk.top_free {B : Blk} (h : B ≠ .free) : B.top ≠ .free := by cases B <;> first | exact h | exact fun e => by cases e

section
variable {P : Program} {Γ : Tab} {E : Env} {n : Nat} {s : Nat → AV} {L : Hd → Blk} {a : Act} {w : World} {F : Nat → Prop} {β : Hd → Option Nat × Nat} {K : AV → List (Hd × Blk) → Prop}
  {W : Operand → (AV → Prop) → Prop} {LK : Hd → (Blk → Prop) → Prop} {base : Nat}

open Classical in
theorem call_ok (h : StI E n s L a w F β) {wr : Bool} {fid : FuncId} {args : List AV} (hk : SCall P wr fid args L base K) (hfree : ∀ v ups, K v ups → ∀ x ∈ ups, base ≤ x.1.key → FreeAt L x.1.key) (xs : List Value) (hlen : xs.length = args.length)
    (hrel : ∀ (i : Nat) c x, args[i]? = some c → xs[i]? = some x → VR w (FBof (CallBor E L β wr) F) β c x) (hmen : ∀ k, AV.menL args k → L k ≠ .free) :
    (∃ fn, P.funcs[fid]? = some fn ∧ (fn.name == "runtime.NumGoroutine") = false ∧ fn.body.isNone = false) ∧ Calls P fid xs.toArray w fun e w' => ∃ v, e = .returned v ∧ Out P E n s L a K (.ok v w') := by
  obtain ⟨hs, args', r, Hin, Hout, hw, hn, hb, ha, hin0, hin, hl, hm, hlen', hfree', hargs, hc, hk⟩ := hk
  refine ⟨hc.fn, ?_⟩
  have hLr : ∀ i : Hd, i.key < hs.length → L (renOf hs base i) = (look Hin i).ren (renOf hs base) := fun i hi => by
    have e1 : ∀ q, q < hs.length → hs[q]? = some (renN hs base q) := fun q hq => by simp [renN, hq, List.getD]
    have e2 : ∀ q, q < hs.length → Hin[q]? = some (Hin.getD q .free) := fun q hq => by simp [List.getD, List.getElem?_eq_getElem (show q < Hin.length by omega)]
    cases i with
    | t q => have := (hin q _ _ (e1 q hi) (e2 q hi)).1; rw [Blk.top_ren] at this; exact this
    | r q k => have := (hin q _ _ (e1 q hi) (e2 q hi)).2 k; simp only [renOf, look, Blk.row_flat]; exact this
  have hkl : ∀ i : Hd, look Hin i ≠ .free → i.key < hs.length := fun i hi => by rw [← hin0]; exact look_lt hi
  have hlive : ∀ i : Hd, (look Hin i).live → (L (renOf hs base i)).live := fun i hi => by rw [hLr i (hkl i (Blk.live_ne hi)), Blk.live_ren]; exact hi
  have hmenB : ∀ i k : Hd, (look Hin i).men k → k.key < hs.length := fun i k hk => by
    cases i with
    | r q j => exact (Blk.row_nomen _ _ _ hk).elim
    | t q =>
      have hk' : (Hin.getD q .free).top.men k := hk
      have hq : q < Hin.length := by
        rcases Nat.lt_or_ge q Hin.length with h' | h'
        · exact h'
        · rw [getD_ge _ _ h'] at hk'; exact hk'.elim
      have e : Hin.getD q .free = Hin[q] := by simp [List.getD, List.getElem?_eq_getElem hq]
      rw [e] at hk'
      refine hm _ (List.getElem_mem hq) k ?_
      revert hk'
      cases Hin[q] <;> first | exact id | exact fun h => h.elim
  have harg : ArgSt w F (CallBor E L β wr) (fun k => β (renOf hs base k)) args' Hin xs := by
    refine ⟨by rw [hlen, ← ha, AV.renL_eq, List.length_map], fun i c x e1 e2 => ?_, fun i => ?_, h.flt, fun b hb => ?_, fun i b h1 h2 => ?_, fun i j b h1 h2 h3 h4 => ?_, fun c hc k hk => ?_, fun i k hk => ?_⟩
    · exact (hrel i (c.ren _) x (by rw [← ha, AV.renL_eq, List.getElem?_map, e1]; rfl) e2).unren rfl
    · rcases Nat.lt_or_ge i.key hs.length with hi | hi
      · have := h.blks (renOf hs base i)
        rw [hLr i hi] at this
        exact this.unren.mono (FBof_mono (fun b hb => .inl hb) fun b hb => hb) (fun _ _ _ => rfl) (fun _ => rfl) (fun _ _ => rfl) fun _ _ _ => rfl
      · rw [look_ge (by omega)]; trivial
    · rcases hb with hb | ⟨_, k, h1, h2⟩
      · exact Nat.lt_of_lt_of_le (h.keeplt b (h.bor b hb)) h.size
      · exact (h.own k b h1 h2).2.2
    · have hi := hkl i (Blk.live_ne h1)
      have o := h.own _ b (hlive i h1) h2
      refine ⟨o.1, fun hb => ?_, o.2.2⟩
      rcases hb with hb | ⟨e, _⟩
      · exact o.2.1 (h.bor b hb)
      · rw [hw e] at hi; simp at hi
    · exact renOf_inj hn hb (h.dis _ _ b (hlive i h1) (hlive j h2) h3 h4)
    · have hi := hargs c hc k hk
      intro e
      have := hLr k hi
      rw [e] at this
      refine hmen (renOf hs base k) ?_ this
      rw [← ha, AV.renL_eq, AV.menL_iff]
      exact ⟨_, List.mem_map_of_mem hc, AV.ren_men hk⟩
    · have hi := hmenB i k hk
      intro e
      have := hLr k hi
      rw [e] at this
      refine h.mb (renOf hs base i) (renOf hs base k) ?_ this
      have hif : look Hin i ≠ .free := fun e => by rw [e] at hk; exact hk.elim
      rw [hLr i (hkl i hif)]
      exact Blk.ren_men hk
  refine (hc.run w F _ _ xs harg).mono fun e w' hpost => ?_
  obtain ⟨v, F1, β1, he, R⟩ := hpost
  refine ⟨v, he, ?_⟩
  have hln : ∀ k, look Hout k ≠ .free → k.key < Hout.length := fun k hk => look_lt hk
  have hnew : ∀ i, i < Hout.length → hs.length ≤ i → FreeAt L (renN hs base i) := fun i hi hge => by
    refine hfree _ _ hk (.t (renN hs base i), (Hout[i]).ren (renOf hs base)) ?_ (by simp [renN, Nat.not_lt.2 hge, Hd.key])
    exact List.mem_map.2 ⟨(Hout[i], i), by rw [List.mem_zipIdx_iff_getElem?]; simp [List.getElem?_eq_getElem hi], rfl⟩
  obtain ⟨hL0, hL00⟩ := applyUps_out hs base hn hb (Blk.ren (renOf hs base)) Hout 0 L (fun i B k hi hp => by
    rw [Nat.zero_add]
    have hil := (List.getElem?_eq_some_iff.1 hi).1
    rcases Nat.lt_or_ge i hs.length with hi' | hi'
    · have := hLr (.r i k) hi'
      simp only [renOf] at this
      rw [this, Blk.free_ren]
      apply Classical.byContradiction
      intro hne
      refine R.nf _ hne ?_
      have e : Hout.getD i .free = B := by simp [List.getD, hi]
      simp only [look, e]
      rw [Blk.isPool_ren] at hp
      cases B <;> first | rfl | cases hp
    · exact (hnew i hil hi').2 k)
  simp only [Nat.zero_add] at hL0 hL00
  have hL1 : ∀ i : Hd, i.key < Hout.length → applyUps L (Hout.zipIdx.map fun x => (.t (renN hs base x.2), x.1.ren (renOf hs base))) (renOf hs base i) = (look Hout i).ren (renOf hs base) := fun i hi => by
    cases i with
    | t q => have := (hL0 q hi).1; rw [Blk.top_ren] at this; exact this
    | r q k => have := (hL0 q hi).2 k; rw [Blk.row_ren] at this; simp only [look, Blk.row_flat]; exact this
  have hcase : ∀ k : Hd, (∃ i : Hd, i.key < Hout.length ∧ k = renOf hs base i) ∨ (∀ i : Hd, i.key < Hout.length → k ≠ renOf hs base i) := fun k => by
    by_cases hk : ∃ i : Hd, i.key < Hout.length ∧ k = renOf hs base i
    · exact .inl hk
    · exact .inr fun i hi e => hk ⟨i, hi, e⟩
  have hL2 : ∀ k : Hd, (∀ i : Hd, i.key < Hout.length → k ≠ renOf hs base i) → applyUps L (Hout.zipIdx.map fun x => (.t (renN hs base x.2), x.1.ren (renOf hs base))) k = L k := fun k hk => by
    refine hL00 k fun i hi e => ?_
    cases k with
    | t q => exact hk (.t i) hi (by simp only [renOf]; rw [← e]; rfl)
    | r q j => exact hk (.r i j) hi (by simp only [renOf]; rw [← e]; rfl)
  clear hL0 hL00
  generalize hups : (Hout.zipIdx.map fun x => (Hd.t (renN hs base x.2), x.1.ren (renOf hs base))) = ups at hk hL1 hL2
  generalize hL2' : applyUps L ups = L2 at hL1 hL2
  let β2 : Hd → Option Nat × Nat := fun k => if h : ∃ i : Hd, i.key < Hout.length ∧ renOf hs base i = k then β1 h.choose else β k
  have hβ1 : ∀ i : Hd, i.key < Hout.length → β2 (renOf hs base i) = β1 i := fun i hi => by
    have hex : ∃ j : Hd, j.key < Hout.length ∧ renOf hs base j = renOf hs base i := ⟨i, hi, rfl⟩
    show (if h : ∃ j : Hd, j.key < Hout.length ∧ renOf hs base j = renOf hs base i then β1 h.choose else _) = _
    rw [dif_pos hex]
    rw [renOf_inj hn hb hex.choose_spec.2]
  have hβ2 : ∀ k, (∀ i : Hd, i.key < Hout.length → k ≠ renOf hs base i) → β2 k = β k := fun k hk => by
    show (if h : ∃ j : Hd, j.key < Hout.length ∧ renOf hs base j = k then β1 h.choose else _) = _
    rw [dif_neg]
    rintro ⟨j, hj, e⟩
    exact hk j hj e.symm
  have hnew' : ∀ i : Hd, i.key < Hout.length → hs.length ≤ i.key → L (renOf hs base i) = .free := fun i hi hge => by
    have := hnew i.key hi hge
    cases i with
    | t q => exact this.1
    | r q k => exact this.2 k
  have hnobor : ∀ m b, FBof noBor F1 m b → FBof E.Bor F1 m b := FBof_mono (fun b hb => hb.elim) fun b hb => hb
  have hnotmine : ∀ b, (∀ i, (look Hin i).live → (β (renOf hs base i)).1 ≠ some b) → b < w.heap.size → w'.heap[b]? = w.heap[b]? := fun b h1 h2 =>
    R.same b h2 fun i hi => h1 i hi
  have kl : ∀ b, E.Keep b → b < w.heap.size := fun b hb => Nat.lt_of_lt_of_le (h.keeplt b hb) h.size
  have hl2 : ∀ k, (L2 k).live → (∃ i : Hd, i.key < Hout.length ∧ k = renOf hs base i ∧ (look Hout i).live) ∨ ((∀ i : Hd, i.key < Hout.length → k ≠ renOf hs base i) ∧ (L k).live) := fun k hk => by
    rcases hcase k with ⟨i, hi, e⟩ | hc
    · subst e
      rw [hL1 i hi, Blk.live_ren] at hk
      exact .inl ⟨i, hi, rfl, hk⟩
    · rw [hL2 k hc] at hk
      exact .inr ⟨hc, hk⟩
  have hst : StI E n s L2 a w' F1 β2 := by
    refine h.step R.os R.tape R.output R.size R.fsub R.flt (fun b h1 h2 => h.fold b (R.fold b h1 (Nat.lt_of_lt_of_le h2 h.size)) h2)
      (fun b hb => hnotmine b (fun i hi e => (h.own _ b (hlive i hi) e).2.1 hb) (kl b hb)) (fun b hb => hnotmine b (fun i hi e => (h.own _ b (hlive i hi) e).1 hb) (h.flt b hb))
      (fun k hk => ?_) (fun k hk => ?_) (fun k => ?_) (fun k b h1 h2 => ?_) (fun k k' b h1 h2 h3 h4 => ?_)
    · rcases hcase k with ⟨i, hi, e⟩ | hc
      · subst e
        rw [hβ1 i hi]
        rcases Nat.lt_or_ge i.key hs.length with hi' | hi'
        · rw [hLr i hi', Ne, Blk.free_ren] at hk
          exact R.bsame i hk
        · exact (hk (hnew' i hi hi')).elim
      · exact hβ2 k hc
    · rcases hcase k with ⟨i, hi, e⟩ | hc
      · subst e
        rw [hL1 i hi, Ne, Blk.free_ren]
        rcases Nat.lt_or_ge i.key hs.length with hi' | hi'
        · rw [hLr i hi', Ne, Blk.free_ren] at hk
          exact R.nf i hk
        · exact (hk (hnew' i hi hi')).elim
      · rw [hL2 k hc]; exact hk
    · rcases hcase k with ⟨i, hi, e⟩ | hc
      · subst e
        rw [hL1 i hi]
        refine .inr ⟨?_, fun j hj => ?_⟩
        · have := (R.blks i).ren (β' := β2) (ρ := renOf hs base) (fun _ => hβ1 i hi) fun k hk => hβ1 k (hln k (R.mb i k hk))
          exact this.mono hnobor (fun _ _ _ => rfl) (fun _ => rfl) (fun _ _ => rfl) (fun _ _ _ => rfl)
        · obtain ⟨q, h1, h2⟩ := Blk.men_ren hj
          subst h2
          have hq := R.mb i q h1
          rw [hL1 q (hln q hq), Ne, Blk.free_ren]
          exact hq
      · rw [hL2 k hc]
        refine .inl ⟨rfl, fun hl' b hb' => hnotmine b (fun i hi e => hc i (hln i (R.nf i (Blk.live_ne hi))) (h.dis k _ b hl' (hlive i hi) hb' e)) (h.own k b hl' hb').2.2⟩
    · rcases hl2 k h1 with ⟨i, hi, e, hlv⟩ | ⟨hc, hlv⟩
      · subst e
        rw [hβ1 i hi] at h2
        obtain ⟨r1, r2, r3⟩ := R.own i b hlv h2
        refine ⟨r1, fun hb' => ?_, r2⟩
        obtain ⟨q, hq1, hq2⟩ := r3 (kl b hb')
        exact (h.own _ b (hlive q hq1) hq2).2.1 hb'
      · rw [hβ2 k hc] at h2
        have o := h.own k b hlv h2
        exact ⟨fun hb' => o.1 (R.fold b hb' o.2.2), o.2.1, Nat.lt_of_lt_of_le o.2.2 R.size⟩
    · have mixed : ∀ i k', (look Hout i).live → (∀ j : Hd, j.key < Hout.length → k' ≠ renOf hs base j) → (L k').live → (β1 i).1 = some b → (β k').1 = some b → False := by
        intro i k' hli hc hlk e1 e2
        obtain ⟨_, _, r3⟩ := R.own i b hli e1
        obtain ⟨q, hq1, hq2⟩ := r3 (h.own k' b hlk e2).2.2
        exact hc q (hln q (R.nf q (Blk.live_ne hq1))) (h.dis k' _ b hlk (hlive q hq1) e2 hq2)
      rcases hl2 k h1 with ⟨i, hi, e, hli⟩ | ⟨hc, hlk⟩ <;> rcases hl2 k' h2 with ⟨i', hi', e', hli'⟩ | ⟨hc', hlk'⟩
      · subst e; subst e'
        rw [hβ1 i hi] at h3; rw [hβ1 i' hi'] at h4
        rw [R.dis i i' b hli hli' h3 h4]
      · subst e
        rw [hβ1 i hi] at h3; rw [hβ2 k' hc'] at h4
        exact (mixed i k' hli hc' hlk' h3 h4).elim
      · subst e'
        rw [hβ1 i' hi'] at h4; rw [hβ2 k hc] at h3
        exact (mixed i' k hli' hc hlk h4 h3).elim
      · rw [hβ2 k hc] at h3; rw [hβ2 k' hc'] at h4
        exact h.dis k k' b hlk hlk' h3 h4
  refine ⟨_, ups, F1, β2, hk, by rw [hL2']; exact hst, ?_, fun k hk => ?_⟩
  · exact (R.rel.ren (β' := β2) (ρ := renOf hs base) fun k hk => hβ1 k (hln k (R.mr k hk))).mono hnobor (fun _ _ _ => rfl) fun _ _ => rfl
  · obtain ⟨q, h1, h2⟩ := AV.men_ren hk
    subst h2
    have hq := R.mr q h1
    rw [hL2', hL1 q (hln q hq), Ne, Blk.free_ren]
    exact hq
end
end Go.Proofs.Ytkaooejeljdbnaa
