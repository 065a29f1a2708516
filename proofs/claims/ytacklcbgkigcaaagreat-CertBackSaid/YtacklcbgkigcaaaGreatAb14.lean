/- Each operation does to the machine what 'opSem' says (twelfth part): calls. -/
import Derived.Test.YtacklcbgkigcaaaGreatAb13
namespace Go.Proofs.YtacklcbgkigcaaaGreat
open Go
set_option linter.unusedVariables false
set_option linter.unusedSimpArgs false

theorem Own.move {w : World} {FB FB' : Bool → Nat → Prop} {β β' : Nat → Option Nat × Nat} {h h' : Nat} {B : Blk} (ho : Own w FB β h B) (hF : ∀ m b, FB m b → FB' m b) (hβ : B.live → β' h' = β h) (hm : ∀ k, ¬ B.men k) : Own w FB' β' h' B := by
  cases B with
  | free => trivial
  | dead => trivial
  | box T cs =>
    obtain ⟨h0, b, arr, h1, h2, h3, h4⟩ := ho
    exact ⟨h0, b, arr, by rw [hβ trivial]; exact h1, h2, h3, fun i c v e1 e2 => (h4 i c v e1 e2).mono hF (fun _ _ _ => rfl) fun k hk => (hm k (AV.menL_mem (List.mem_of_getElem? e1) hk)).elim⟩
  | vec T W es =>
    obtain ⟨h1, h2, h3⟩ := ho
    have e := hβ trivial
    refine ⟨h1, by rw [e]; exact h2, ?_⟩
    rcases h3 with h3 | ⟨b, arr, g1, g2, g3, g4⟩
    · exact .inl (by rw [e]; exact h3)
    · exact .inr ⟨b, arr, by rw [e]; exact g1, g2, by rw [e]; exact g3, fun i e j c v e1 e2 e3 => (g4 i e j c v e1 e2 e3).mono hF fun _ _ _ => rfl⟩
  | map es =>
    obtain ⟨b, en, clock, h1, h2, h3, h4, h5⟩ := ho
    exact ⟨b, en, clock, by rw [hβ trivial]; exact h1, h2, h3, fun i x e e1 e2 => ⟨(h4 i x e e1 e2).1.mono hF fun _ _ _ => rfl, (h4 i x e e1 e2).2.mono hF fun _ _ _ => rfl⟩, h5⟩
  | rows T cs =>
    obtain ⟨h1, h2, h3⟩ := ho
    have e := hβ trivial
    refine ⟨h1, by rw [e]; exact h2, ?_⟩
    rcases h3 with h3 | ⟨b, arr, g1, g2, g3, g4⟩
    · exact .inl (by rw [e]; exact h3)
    · exact .inr ⟨b, arr, by rw [e]; exact g1, g2, by rw [e]; exact g3, fun i c v e1 e2 => (g4 i c v e1 e2).mono hF (fun _ _ _ => rfl) fun k hk => (hm k (AV.menL_mem (List.mem_of_getElem? e1) hk)).elim⟩

theorem getD_ge {α : Type} (l : List α) (d : α) {i : Nat} (h : l.length ≤ i) : l.getD i d = d := by simp [List.getD, List.getElem?_eq_none h]
theorem getD_map {hs : List Nat} {L : Nat → Blk} (base i : Nat) (h : i < hs.length) : (hs.map L).getD i .free = L (renOf hs base i) := by
  simp [renOf, h, List.getD]
theorem getD_map_live {hs : List Nat} {L : Nat → Blk} {i : Nat} (h : ((hs.map L).getD i .free).live) : i < hs.length := by
  rcases Nat.lt_or_ge i hs.length with h' | h'
  · exact h'
  · rw [getD_ge _ _ (by simpa using h')] at h; exact h.elim

section
variable {P : Program} {Γ : Tab} {E : Env} {n : Nat} {s : Nat → AV} {L : Nat → Blk} {a : Act} {w : World} {F : Nat → Prop} {β : Nat → Option Nat × Nat} {K : AV → List (Nat × Blk) → Prop}
  {W : Operand → (AV → Prop) → Prop} {LK : Nat → (Blk → Prop) → Prop} {base : Nat}

open Classical in
theorem call_ok (h : StI E n s L a w F β) {wr : Bool} {fid : FuncId} {args : List AV} (hk : SCall P wr fid args L base K) (hfree : ∀ v ups, K v ups → ∀ x ∈ ups, base ≤ x.1 → L x.1 = .free) (xs : List Value) (hlen : xs.length = args.length)
    (hrel : ∀ (i : Nat) c x, args[i]? = some c → xs[i]? = some x → VR w (FBof (CallBor E L β wr) F) β c x) :
    (∃ fn, P.funcs[fid]? = some fn ∧ (fn.name == "runtime.NumGoroutine") = false ∧ fn.body.isNone = false) ∧ Calls P fid xs.toArray w fun e w' => ∃ v, e = .returned v ∧ Out P E n s L a K (.ok v w') := by
  obtain ⟨hs, args', r, Hout, hw, hn, hb, ha, hl, hm, hlen', hfree', hargs, hc, hk⟩ := hk
  refine ⟨hc.fn, ?_⟩
  have hget : ∀ i, i < hs.length → renOf hs base i ∈ hs := fun i hi => by
    simp only [renOf, hi, if_true]
    have : hs.getD i 0 = hs[i] := by simp [List.getD, List.getElem?_eq_getElem hi]
    rw [this]; exact List.getElem_mem hi
  have hlv : ∀ i, i < hs.length → (L (renOf hs base i)).live := fun i hi => hl _ (hget i hi)
  have harg : ArgSt w F (CallBor E L β wr) (fun k => β (renOf hs base k)) args' (hs.map L) xs := by
    refine ⟨by rw [hlen, ← ha, AV.renL_eq, List.length_map], fun i c x e1 e2 => ?_, fun i => ?_, h.flt, fun b hb => ?_, fun i b h1 h2 => ?_, fun i j b h1 h2 h3 h4 => ?_, fun c hc k hk => ?_, fun i k hk => ?_⟩
    · exact (hrel i (c.ren _) x (by rw [← ha, AV.renL_eq, List.getElem?_map, e1]; rfl) e2).unren rfl
    · rcases Nat.lt_or_ge i hs.length with hi | hi
      · rw [getD_map base i hi]
        exact (h.blks _).move (FBof_mono (fun b hb => .inl hb) fun b hb => hb) (fun _ => rfl) (hm _ (hget i hi))
      · rw [getD_ge _ _ (by simpa using hi)]; trivial
    · rcases hb with hb | ⟨_, k, h1, h2⟩
      · exact Nat.lt_of_lt_of_le (h.keeplt b (h.bor b hb)) h.size
      · exact (h.own k b h1 h2).2.2
    · have hi := getD_map_live h1
      have o := h.own _ b (hlv i hi) h2
      refine ⟨o.1, fun hb => ?_, o.2.2⟩
      rcases hb with hb | ⟨e, _⟩
      · exact o.2.1 (h.bor b hb)
      · rw [hw e] at hi; simp at hi
    · have hi := getD_map_live h1
      have hj := getD_map_live h2
      exact renOf_inj hn hb (h.dis _ _ b (hlv i hi) (hlv j hj) h3 h4)
    · have hi := hargs c hc k hk
      rw [getD_map base k hi]; exact Blk.live_ne (hlv k hi)
    · rcases Nat.lt_or_ge i hs.length with hi | hi
      · rw [getD_map base i hi] at hk; exact (hm _ (hget i hi) k hk).elim
      · rw [getD_ge _ _ (by simpa using hi)] at hk; exact hk.elim
  refine (hc.run w F _ _ xs harg).mono fun e w' hpost => ?_
  obtain ⟨v, F1, β1, he, R⟩ := hpost
  refine ⟨v, he, ?_⟩
  have hln : ∀ k, Hout.getD k .free ≠ .free → k < Hout.length := fun k hk => by
    rcases Nat.lt_or_ge k Hout.length with h | h
    · exact h
    · rw [getD_ge _ _ h] at hk; exact (hk rfl).elim
  have hnf : ∀ k, k < Hout.length → Hout.getD k .free ≠ .free := fun k hk => by
    have : Hout.getD k .free = Hout[k] := by simp [List.getD, List.getElem?_eq_getElem hk]
    rw [this]; exact hfree' _ (List.getElem_mem hk)
  obtain ⟨hL1, hL2⟩ := applyUps_out hs base hn hb (Blk.ren (renOf hs base)) Hout 0 L
  simp only [Nat.zero_add] at hL1 hL2
  generalize hups : (Hout.zipIdx.map fun x => (renOf hs base x.2, x.1.ren (renOf hs base))) = ups at hk hL1 hL2
  have hups' : applyUps L ups = applyUps L ups := rfl
  generalize hL2' : applyUps L ups = L2 at hL1 hL2
  let β2 : Nat → Option Nat × Nat := fun k => if h : ∃ i, i < Hout.length ∧ renOf hs base i = k then β1 h.choose else β k
  have hβ1 : ∀ i, i < Hout.length → β2 (renOf hs base i) = β1 i := fun i hi => by
    have hex : ∃ j, j < Hout.length ∧ renOf hs base j = renOf hs base i := ⟨i, hi, rfl⟩
    show (if h : ∃ j, j < Hout.length ∧ renOf hs base j = renOf hs base i then β1 h.choose else _) = _
    rw [dif_pos hex]
    rw [renOf_inj hn hb hex.choose_spec.2]
  have hβ2 : ∀ k, (∀ i, i < Hout.length → k ≠ renOf hs base i) → β2 k = β k := fun k hk => by
    show (if h : ∃ j, j < Hout.length ∧ renOf hs base j = k then β1 h.choose else _) = _
    rw [dif_neg]
    rintro ⟨j, hj, e⟩
    exact hk j hj e.symm
  have hcase : ∀ k, (∃ i, i < Hout.length ∧ k = renOf hs base i) ∨ (∀ i, i < Hout.length → k ≠ renOf hs base i) := fun k => by
    by_cases hk : ∃ i, i < Hout.length ∧ k = renOf hs base i
    · exact .inl hk
    · exact .inr fun i hi e => hk ⟨i, hi, e⟩
  have hnew : ∀ i, i < Hout.length → hs.length ≤ i → L (renOf hs base i) = .free := fun i hi hge => by
    refine hfree _ _ hk (renOf hs base i, (Hout[i]).ren (renOf hs base)) ?_ (by simp [renOf, Nat.not_lt.2 hge])
    rw [← hups]
    exact List.mem_map.2 ⟨(Hout[i], i), by rw [List.mem_zipIdx_iff_getElem?]; simp [List.getElem?_eq_getElem hi], rfl⟩
  have hnobor : ∀ m b, FBof noBor F1 m b → FBof E.Bor F1 m b := FBof_mono (fun b hb => hb.elim) fun b hb => hb
  have hlive1 : ∀ i, i < hs.length → β1 i = β (renOf hs base i) := fun i hi => R.bsame i (by rw [getD_map base i hi]; exact hlv i hi)
  have hnotmine : ∀ b, (∀ i, i < hs.length → (β (renOf hs base i)).1 ≠ some b) → b < w.heap.size → w'.heap[b]? = w.heap[b]? := fun b h1 h2 =>
    R.same b h2 fun i hi => h1 i (getD_map_live hi)
  have kl : ∀ b, E.Keep b → b < w.heap.size := fun b hb => Nat.lt_of_lt_of_le (h.keeplt b hb) h.size
  have hl2 : ∀ k, (L2 k).live → (∃ i, i < Hout.length ∧ k = renOf hs base i ∧ (Hout.getD i .free).live) ∨ ((∀ i, i < Hout.length → k ≠ renOf hs base i) ∧ (L k).live) := fun k hk => by
    rcases hcase k with ⟨i, hi, e⟩ | hc
    · subst e
      rw [hL1 i hi, Blk.live_ren] at hk
      exact .inl ⟨i, hi, rfl, hk⟩
    · rw [hL2 k hc] at hk
      exact .inr ⟨hc, hk⟩
  have hst : StI E n s L2 a w' F1 β2 := by
    refine h.step R.os R.tape R.output R.size R.fsub R.flt (fun b h1 h2 => h.fold b (R.fold b h1 (Nat.lt_of_lt_of_le h2 h.size)) h2)
      (fun b hb => hnotmine b (fun i hi e => (h.own _ b (hlv i hi) e).2.1 hb) (kl b hb)) (fun b hb => hnotmine b (fun i hi e => (h.own _ b (hlv i hi) e).1 hb) (h.flt b hb))
      (fun k hk => ?_) (fun k hk => ?_) (fun k => ?_) (fun k b h1 h2 => ?_) (fun k k' b h1 h2 h3 h4 => ?_)
    · rcases hcase k with ⟨i, hi, e⟩ | hc
      · subst e
        rw [hβ1 i hi]
        rcases Nat.lt_or_ge i hs.length with hi' | hi'
        · exact hlive1 i hi'
        · exact (hk (hnew i hi hi')).elim
      · exact hβ2 k hc
    · rcases hcase k with ⟨i, hi, e⟩ | hc
      · subst e
        rw [hL1 i hi]
        intro e
        have := hnf i hi
        cases hB : Hout.getD i .free <;> rw [hB] at e this <;> first | exact this rfl | cases e
      · rw [hL2 k hc]; exact hk
    · rcases hcase k with ⟨i, hi, e⟩ | hc
      · subst e
        rw [hL1 i hi]
        refine .inr ⟨?_, fun j hj => ?_⟩
        · have := (R.blks i).ren (β' := β2) (ρ := renOf hs base) (fun _ => hβ1 i hi) fun k hk => hβ1 k (hln k (R.mb i k hk))
          exact this.mono hnobor (fun _ _ _ => rfl) (fun _ => rfl) (fun _ _ => rfl) (fun _ _ _ => rfl)
        · obtain ⟨q, h1, h2⟩ := Blk.men_ren hj
          subst h2
          have hq := R.mb i q h1
          rw [hL1 q (hln q hq)]
          intro e
          cases hB : Hout.getD q .free <;> rw [hB] at e hq <;> first | exact hq rfl | cases e
      · rw [hL2 k hc]
        refine .inl ⟨rfl, fun hl' b hb' => hnotmine b (fun i hi e => hc i (by omega) (h.dis k _ b hl' (hlv i hi) hb' e)) (h.own k b hl' hb').2.2⟩
    · rcases hl2 k h1 with ⟨i, hi, e, hlive⟩ | ⟨hc, hlive⟩
      · subst e
        rw [hβ1 i hi] at h2
        obtain ⟨r1, r2, r3⟩ := R.own i b hlive h2
        refine ⟨r1, fun hb' => ?_, r2⟩
        obtain ⟨q, hq1, hq2⟩ := r3 (kl b hb')
        have hq := getD_map_live hq1
        exact (h.own _ b (hlv q hq) hq2).2.1 hb'
      · rw [hβ2 k hc] at h2
        have o := h.own k b hlive h2
        exact ⟨fun hb' => o.1 (R.fold b hb' o.2.2), o.2.1, Nat.lt_of_lt_of_le o.2.2 R.size⟩
    · have mixed : ∀ i k', i < Hout.length → (Hout.getD i .free).live → (∀ j, j < Hout.length → k' ≠ renOf hs base j) → (L k').live → (β1 i).1 = some b → (β k').1 = some b → False := by
        intro i k' hi hli hc hlk e1 e2
        obtain ⟨_, _, r3⟩ := R.own i b hli e1
        obtain ⟨q, hq1, hq2⟩ := r3 (h.own k' b hlk e2).2.2
        have hq := getD_map_live hq1
        exact hc q (by omega) (h.dis k' _ b hlk (hlv q hq) e2 hq2)
      rcases hl2 k h1 with ⟨i, hi, e, hli⟩ | ⟨hc, hlk⟩ <;> rcases hl2 k' h2 with ⟨i', hi', e', hli'⟩ | ⟨hc', hlk'⟩
      · subst e; subst e'
        rw [hβ1 i hi] at h3; rw [hβ1 i' hi'] at h4
        rw [R.dis i i' b hli hli' h3 h4]
      · subst e
        rw [hβ1 i hi] at h3; rw [hβ2 k' hc'] at h4
        exact (mixed i k' hi hli hc' hlk' h3 h4).elim
      · subst e'
        rw [hβ1 i' hi'] at h4; rw [hβ2 k hc] at h3
        exact (mixed i' k hi' hli' hc hlk h4 h3).elim
      · rw [hβ2 k hc] at h3; rw [hβ2 k' hc'] at h4
        exact h.dis k k' b hlk hlk' h3 h4
  refine ⟨_, ups, F1, β2, hk, by rw [hL2']; exact hst, ?_, fun k hk => ?_⟩
  · exact (R.rel.ren (β' := β2) (ρ := renOf hs base) fun k hk => hβ1 k (hln k (R.mr k hk))).mono hnobor (fun _ _ _ => rfl) fun _ _ => rfl
  · obtain ⟨q, h1, h2⟩ := AV.men_ren hk
    subst h2
    have hq := R.mr q h1
    rw [hL2', hL1 q (hln q hq)]
    intro e
    cases hB : Hout.getD q .free <;> rw [hB] at e hq <;> first | exact hq rfl | cases e
end
end Go.Proofs.YtacklcbgkigcaaaGreat
