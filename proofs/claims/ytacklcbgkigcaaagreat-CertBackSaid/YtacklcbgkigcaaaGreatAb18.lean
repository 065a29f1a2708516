/- A function's contract out of what VC asks of its code. -/
import Derived.Test.YtacklcbgkigcaaaGreatAb17
namespace Go.Proofs.YtacklcbgkigcaaaGreat
open Go
set_option linter.unusedVariables false
set_option linter.unusedSimpArgs false

/-- From the state at the end to what the caller sees: 'hs' are the blocks that are handed on, all others are read alone from now on. -/
inductive Conv (hs : List Nat) (H : Hp) : AV → AV → Prop where
  | p (v : PV) (h : Pers v) : Conv hs H (.p v) (.p v)
  | tf (b : Bool) : Conv hs H (.tf b) (.p (.bool b))
  | emp (W : Nat) : Conv hs H .emp (.p (.sl false W []))
  | frz {h W off len : Nat} {T : TypeId} {es es' : List PV} (hB : look H h = .vec T W es) (hn : h ∉ hs) (hl : off + len ≤ es.length) (hp : ∀ e ∈ es, ∀ c ∈ e.cells, Pers c) (he : (es.drop off).take len = es') : Conv hs H (.vec h W off len) (.p (.sl false W es'))
  | frzmap {h : Nat} {es : List (PV × PV)} (hB : look H h = .map es) (hn : h ∉ hs) (hp : ∀ e ∈ es, Pers e.1 ∧ Pers e.2) : Conv hs H (.map h) (.p (.mp false es))
  | frzR {h len : Nat} {T : TypeId} {cs : List AV} {ps : List PV} (hB : look H h = .rows T cs) (hn : h ∉ hs) (hlen : len = ps.length) (ho : ∀ d ∈ ps, d.one = true) (hl : cs.length = ps.length) (hc : ∀ (i : Nat) c d, cs[i]? = some c → ps[i]? = some d → Conv hs H c (.p d)) : Conv hs H (.vec h 1 0 len) (.p (.sl false 1 ps))
  | vec {i h W off len : Nat} (hi : hs[i]? = some h) : Conv hs H (.vec h W off len) (.vec i W off len)
  | bptr {i h o : Nat} (hi : hs[i]? = some h) : Conv hs H (.bptr h o) (.bptr i o)
  | map {i h : Nat} (hi : hs[i]? = some h) : Conv hs H (.map h) (.map i)
  | agg {cs ds : List AV} (ho : ∀ d ∈ ds, d.one = true) (hl : cs.length = ds.length) (h : ∀ (i : Nat) c d, cs[i]? = some c → ds[i]? = some d → Conv hs H c d) : Conv hs H (.agg cs) (.agg ds)
  | aggp {cs : List AV} {ps : List PV} (ho : ∀ d ∈ ps, d.one = true) (hl : cs.length = ps.length) (h : ∀ (i : Nat) c d, cs[i]? = some c → ps[i]? = some d → Conv hs H c (.p d)) : Conv hs H (.agg cs) (.p (.agg ps))
  | tup {cs ds : List AV} (hl : cs.length = ds.length) (h : ∀ (i : Nat) c d, cs[i]? = some c → ds[i]? = some d → Conv hs H c d) : Conv hs H (.tup cs) (.tup ds)

inductive ConvB (hs : List Nat) (H : Hp) : Blk → Blk → Prop where
  | vec {T : TypeId} {W : Nat} {es : List PV} (hp : ∀ e ∈ es, ∀ c ∈ e.cells, Pers c) : ConvB hs H (.vec T W es) (.vec T W es)
  | map {es : List (PV × PV)} (hp : ∀ e ∈ es, Pers e.1 ∧ Pers e.2) : ConvB hs H (.map es) (.map es)
  | box {T : TypeId} {cs ds : List AV} (ho : ∀ d ∈ ds, d.one = true) (hl : cs.length = ds.length) (h : ∀ (i : Nat) c d, cs[i]? = some c → ds[i]? = some d → Conv hs H c d) : ConvB hs H (.box T cs) (.box T ds)

inductive SRet (nin : Nat) (av : AV) (H : Hp) (r : AV) (Hout : Hp) : Prop
  | mk (hs : List Nat) (pre : hs.take nin = List.range nin) (nd : hs.Nodup) (hlen : hs.length = Hout.length) (hnin : nin ≤ hs.length) (hlv : ∀ i, i < nin → (look H i).live)
      (hb : ∀ (i h : Nat) B, hs[i]? = some h → Hout[i]? = some B → ConvB hs H (look H h) B) (hv : Conv hs H av r) : SRet nin av H r Hout

section
variable {P : Program} {Γ : Tab} {E : Env} {n : Nat} {wr : FuncId → Bool}

/-- What is read alone from the end on. -/
def Frozen (F : Nat → Prop) (β : Nat → Option Nat × Nat) (hs : List Nat) (H : Hp) (b : Nat) : Prop := F b ∨ ∃ h, h ∉ hs ∧ (look H h).live ∧ (β h).1 = some b

theorem PR.toF {w : World} {B F F' : Nat → Prop} {v : PV} {x : Value} (h : PR w (FBof B F) v x) (hp : Pers v) (hF : ∀ b, F b → F' b) : PR w (FBof noBor F') v x := by
  refine (PR.pers hp h).mono (fun m b hb => ?_) fun _ _ _ => rfl
  obtain ⟨rfl, hb⟩ := hb
  exact hF b hb

theorem Conv.ok {hs : List Nat} {s : Nat → AV} {H : Hp} {a : Act} {w : World} {F : Nat → Prop} {β : Nat → Option Nat × Nat} (hst : StI E n s (look H) a w F β) {c d : AV} (h : Conv hs H c d) :
    ∀ {v : Value}, VR w (FBof E.Bor F) β c v → VR w (FBof noBor (Frozen F β hs H)) (fun i => β (hs.getD i 0)) d v := by
  have gd : ∀ {i h : Nat}, hs[i]? = some h → hs.getD i 0 = h := fun e => by simp [List.getD, e]
  have up : ∀ {p : PV} {x : Value}, Pers p → PR w (FBof E.Bor F) p x → PR w (FBof noBor (Frozen F β hs H)) p x := fun hp h => h.toF hp fun b hb => .inl hb
  induction h with
  | p v hp => intro x hv; exact .p (up hp hv.pOf)
  | tf b => intro x hv; exact .p (up (.bool b) hv.tfOf)
  | emp W =>
    intro x hv
    cases hv with
    | empn => exact .p (.nil _ _)
    | emp b off => exact .p (PR.sl false _ [] b off 0 (fun _ _ => Go.undef) (Nat.le_refl _) (fun h => absurd rfl h) (by simp) (by simp) (by simp) (by simp))
  | @frz h W off len T es es' hB hn hl hp he =>
    intro x hv
    subst he
    have hlv : (look H h).live := by rw [hB]; trivial
    have hbk := hst.blks h
    rw [hB] at hbk
    obtain ⟨q1, q2, q3⟩ := hbk
    have hll : ((es.drop off).take len).length = len := by simp; omega
    rcases hv.vecInv with ⟨b, o, hb', hc, ho, rfl⟩ | ⟨ad, hb', hz, hz', rfl, ha⟩
    · obtain ⟨arr, g1, g2, g3, g4⟩ : ∃ arr, (β h).1 = some b ∧ w.heap[b]? = some (.cells arr T (0, 0)) ∧ arr.size = (β h).2 * W ∧ ∀ (i : Nat) e (j : Nat) c v, es[i]? = some e → e.cells[j]? = some c → arr[i * W + j]? = some v → PR w (FBof E.Bor F) c v := by
        rcases q3 with q3 | ⟨b', arr, g1, g2, g3, g4⟩
        · rw [q3.1] at hb'; cases hb'
        · rw [g1] at hb'; cases hb'; exact ⟨arr, g1, g2, g3, g4⟩
      have get : ∀ (i : Nat) e, ((es.drop off).take len)[i]? = some e → i < len ∧ es[off + i]? = some e := fun i e he => by
        have hi : i < len := by have := (List.getElem?_eq_some_iff.1 he).1; rw [hll] at this; exact this
        rw [List.getElem?_take_of_lt hi, List.getElem?_drop] at he
        exact ⟨hi, he⟩
      have hin : ∀ i j, i < es.length → j < W → i * W + j < arr.size := fun i j hi hj => by
        rw [g3]
        have : (i + 1) * W ≤ (β h).2 * W := Nat.mul_le_mul_right _ (by omega)
        rw [Nat.add_mul] at this; omega
      have := PR.sl (w := w) (FB := FBof noBor (Frozen F β hs H)) false W ((es.drop off).take len) b o ((β h).2 - off) (fun i j => arr.getD ((off + i) * W + j) Go.undef) (by rw [hll]; omega) (fun _ => .inr ⟨h, hn, hlv, g1⟩)
        (fun e he => (q1 e (List.mem_of_mem_drop (List.mem_of_mem_take he))).1) (fun e he => (q1 e (List.mem_of_mem_drop (List.mem_of_mem_take he))).2) (fun i e j c e1 e2 => by
          obtain ⟨hi, he⟩ := get i e e1
          have hj : j < W := by rw [← (q1 e (List.mem_of_getElem? he)).1]; exact (List.getElem?_eq_some_iff.1 e2).1
          have := hin (off + i) j (by omega) hj
          rw [ho (by omega), show off * W + i * W + j = (off + i) * W + j by rw [Nat.add_mul]]
          simp only [World.cell?, g2]; simp [Array.getD, this]) (fun i e j c e1 e2 => by
          obtain ⟨hi, he⟩ := get i e e1
          have hj : j < W := by rw [← (q1 e (List.mem_of_getElem? he)).1]; exact (List.getElem?_eq_some_iff.1 e2).1
          have := hin (off + i) j (by omega) hj
          exact up (hp e (List.mem_of_getElem? he) c (List.mem_of_getElem? e2)) (g4 (off + i) e j c _ he e2 (by simp [Array.getD, this])))
      rw [hll] at this
      exact .p this
    · subst hz; subst hz'
      simp only [List.take_zero]
      cases ad with
      | none => exact .p (.nil _ _)
      | some ad =>
        obtain ⟨b, o, sp⟩ := ad
        have : sp = none := ha _ rfl
        subst this
        exact .p (PR.sl false W [] b o 0 (fun _ _ => Go.undef) (Nat.le_refl _) (fun h => absurd rfl h) (by simp) (by simp) (by simp) (by simp))
  | @frzmap h es hB hn hp =>
    intro x hv
    have hlv : (look H h).live := by rw [hB]; trivial
    have hbk := hst.blks h
    rw [hB] at hbk
    obtain ⟨b, en, clock, h1, h2, h3, h4, h5, h6⟩ := hbk
    cases hv with | map hb' =>
    rw [h1] at hb'; cases hb'
    exact .p (.mp false es b clock en (.inr ⟨h, hn, hlv, h1⟩) h2 h3 (fun i x e e1 e2 => up (hp x (List.mem_of_getElem? e1)).1 (h4 i x e e1 e2).1) (fun i x e e1 e2 => up (hp x (List.mem_of_getElem? e1)).2 (h4 i x e e1 e2).2) h5 h6)
  | @frzR h len T cs ps hB hn hlen hone hl _ ih =>
    intro x hv
    subst hlen
    have hlv : (look H h).live := by rw [hB]; trivial
    have hbk := hst.blks h
    rw [hB] at hbk
    obtain ⟨q1, q2, q3⟩ := hbk
    rcases hv.vecInv with ⟨b, o, hb', hc, ho, rfl⟩ | ⟨ad, hb', _, hz, rfl, ha⟩
    · obtain ⟨arr, g1, g2, g3, g4⟩ : ∃ arr, (β h).1 = some b ∧ w.heap[b]? = some (.cells arr T (0, 0)) ∧ arr.size = (β h).2 ∧ ∀ (i : Nat) c v, cs[i]? = some c → arr[i]? = some v → VR w (FBof E.Bor F) β c v := by
        rcases q3 with q3 | ⟨b', arr, g1, g2, g3, g4⟩
        · rw [q3.1] at hb'; cases hb'
        · rw [g1] at hb'; cases hb'; exact ⟨arr, g1, g2, g3, g4⟩
      have cl : ∀ e ∈ ps, e.cells = [e] := fun e he => PV.cells_one (hone e he)
      have get : ∀ (i : Nat) (e : PV), ps[i]? = some e → i < arr.size ∧ i < cs.length := fun i e he => by
        have := (List.getElem?_eq_some_iff.1 he).1
        omega
      refine .p (PR.sl false 1 ps b o _ (fun i j => arr.getD i Go.undef) (by omega) (fun _ => .inr ⟨h, hn, hlv, g1⟩) (fun e he => by rw [cl e he]; rfl) (fun e he c hc => by rw [cl e he] at hc; cases List.mem_singleton.1 hc; exact hone _ he) (fun i e j c e1 e2 => ?_) (fun i e j c e1 e2 => ?_))
      · obtain ⟨hi, _⟩ := get i e e1
        rw [cl e (List.mem_of_getElem? e1)] at e2
        have hj : j = 0 := by have := (List.getElem?_eq_some_iff.1 e2).1; simpa using this
        subst hj
        rw [ho (by omega)]
        simp only [World.cell?, g2]; simp [Array.getD, hi]
      · obtain ⟨hi, hi'⟩ := get i e e1
        rw [cl e (List.mem_of_getElem? e1)] at e2
        have hj : j = 0 := by have := (List.getElem?_eq_some_iff.1 e2).1; simpa using this
        subst hj
        cases e2
        exact (ih i cs[i] e (List.getElem?_eq_getElem hi') e1 (g4 i _ _ (List.getElem?_eq_getElem hi') (by simp [Array.getD, hi]))).pOf
    · have hcs : ps = [] := List.length_eq_zero_iff.1 hz
      subst hcs
      cases ad with
      | none => exact .p (.nil _ _)
      | some ad =>
        obtain ⟨b, o, sp⟩ := ad
        have : sp = none := ha _ rfl
        subst this
        exact .p (PR.sl false 1 [] b o 0 (fun _ _ => Go.undef) (Nat.le_refl _) (fun h => absurd rfl h) (by simp) (by simp) (by simp) (by simp))
  | @vec i h W off len hi =>
    intro x hv
    rcases hv.vecInv with ⟨b, o, hb', hc, ho, rfl⟩ | ⟨ad, hb', hz, hz', rfl, ha⟩
    · have := VR.vec (w := w) (FB := FBof noBor (Frozen F β hs H)) (β := fun i => β (hs.getD i 0)) (h := i) (W := W) (off := off) (len := len) (b := b) (o := o) (by show (β (hs.getD i 0)).1 = _; rw [gd hi]; exact hb') (by show _ ≤ (β (hs.getD i 0)).2; rw [gd hi]; exact hc) (by show _ < (β (hs.getD i 0)).2 → _; rw [gd hi]; exact ho)
      rw [gd hi] at this
      exact this
    · subst hz; subst hz'
      exact .vecn ad ha (by show (β (hs.getD i 0)).1 = _; rw [gd hi]; exact hb')
  | bptr hi => intro x hv; cases hv with | bptr hb => exact .bptr (by show (β (hs.getD _ 0)).1 = _; rw [gd hi]; exact hb)
  | map hi => intro x hv; cases hv with | map hb => exact .map (by show (β (hs.getD _ 0)).1 = _; rw [gd hi]; exact hb)
  | @agg cs ds ho hl _ ih =>
    intro x hv
    cases hv with | agg _ vs hone hl' hr =>
    refine .agg ds vs ho (by rw [hl', hl]) fun i d v e1 e2 => ?_
    have hi : i < cs.length := by rw [hl]; exact (List.getElem?_eq_some_iff.1 e1).1
    exact ih i cs[i] d (List.getElem?_eq_getElem hi) e1 (hr i _ v (List.getElem?_eq_getElem hi) e2)
  | @aggp cs ps ho hl _ ih =>
    intro x hv
    cases hv with | agg _ vs hone hl' hr =>
    refine .p (.agg ps vs ho (by rw [hl', hl]) fun i d v e1 e2 => ?_)
    have hi : i < cs.length := by rw [hl]; exact (List.getElem?_eq_some_iff.1 e1).1
    exact (ih i cs[i] d (List.getElem?_eq_getElem hi) e1 (hr i _ v (List.getElem?_eq_getElem hi) e2)).pOf
  | @tup cs ds hl _ ih =>
    intro x hv
    cases hv with | tup _ vs hl' hr =>
    refine .tup ds vs (by rw [hl', hl]) fun i d v e1 e2 => ?_
    have hi : i < cs.length := by rw [hl]; exact (List.getElem?_eq_some_iff.1 e1).1
    exact ih i cs[i] d (List.getElem?_eq_getElem hi) e1 (hr i _ v (List.getElem?_eq_getElem hi) e2)

theorem Conv.men {hs : List Nat} {H : Hp} {c d : AV} (h : Conv hs H c d) : ∀ k, d.men k → k < hs.length := by
  induction h with
  | vec hi => intro k hk; obtain rfl : _ = k := hk; exact (List.getElem?_eq_some_iff.1 hi).1
  | bptr hi => intro k hk; obtain rfl : _ = k := hk; exact (List.getElem?_eq_some_iff.1 hi).1
  | map hi => intro k hk; obtain rfl : _ = k := hk; exact (List.getElem?_eq_some_iff.1 hi).1
  | @agg cs ds _ hl _ ih =>
    intro k hk
    simp only [AV.men, AV.menL_iff] at hk
    obtain ⟨d, hd, hk⟩ := hk
    obtain ⟨i, hi⟩ := List.getElem?_of_mem hd
    have hi' : i < cs.length := by rw [hl]; exact (List.getElem?_eq_some_iff.1 hi).1
    exact ih i cs[i] d (List.getElem?_eq_getElem hi') hi k hk
  | @tup cs ds hl _ ih =>
    intro k hk
    simp only [AV.men, AV.menL_iff] at hk
    obtain ⟨d, hd, hk⟩ := hk
    obtain ⟨i, hi⟩ := List.getElem?_of_mem hd
    have hi' : i < cs.length := by rw [hl]; exact (List.getElem?_eq_some_iff.1 hi).1
    exact ih i cs[i] d (List.getElem?_eq_getElem hi') hi k hk
  | _ => intro k hk; simp only [AV.men] at hk

theorem ConvB.ok {hs : List Nat} {s : Nat → AV} {H : Hp} {a : Act} {w : World} {F : Nat → Prop} {β : Nat → Option Nat × Nat} (hst : StI E n s (look H) a w F β) {i h : Nat} {B : Blk} (hi : hs[i]? = some h) (hc : ConvB hs H (look H h) B) :
    Own w (FBof noBor (Frozen F β hs H)) (fun i => β (hs.getD i 0)) i B ∧ (∀ k, B.men k → k < hs.length) ∧ B.live ∧ (look H h).live := by
  have gd : hs.getD i 0 = h := by simp [List.getD, hi]
  have up : ∀ {p : PV} {x : Value}, Pers p → PR w (FBof E.Bor F) p x → PR w (FBof noBor (Frozen F β hs H)) p x := fun hp h => h.toF hp fun b hb => .inl hb
  have hb := hst.blks h
  generalize hL : look H h = L at hc hb
  cases hc with
  | @vec T W es hp =>
    obtain ⟨q1, q2, q3⟩ := hb
    refine ⟨⟨q1, by show _ ≤ (β (hs.getD i 0)).2; rw [gd]; exact q2, ?_⟩, fun k hk => hk.elim, trivial, trivial⟩
    show ((β (hs.getD i 0)).1 = none ∧ (β (hs.getD i 0)).2 = 0) ∨ ∃ b arr, (β (hs.getD i 0)).1 = some b ∧ w.heap[b]? = some (.cells arr T (0, 0)) ∧ arr.size = (β (hs.getD i 0)).2 * W ∧ _
    rw [gd]
    rcases q3 with q3 | ⟨b, arr, g1, g2, g3, g4⟩
    · exact .inl q3
    · exact .inr ⟨b, arr, g1, g2, g3, fun q e j c v e1 e2 e3 => up (hp e (List.mem_of_getElem? e1) c (List.mem_of_getElem? e2)) (g4 q e j c v e1 e2 e3)⟩
  | @map es hp =>
    obtain ⟨b, en, clock, h1, h2, h3, h4, h5, h6⟩ := hb
    exact ⟨⟨b, en, clock, by show (β (hs.getD i 0)).1 = _; rw [gd]; exact h1, h2, h3, fun q x e e1 e2 => ⟨up (hp x (List.mem_of_getElem? e1)).1 (h4 q x e e1 e2).1, up (hp x (List.mem_of_getElem? e1)).2 (h4 q x e e1 e2).2⟩, h5, h6⟩, fun k hk => hk.elim, trivial, trivial⟩
  | @box T cs ds ho hl hc =>
    obtain ⟨h0, b, arr, h1, h2, h3, h4⟩ := hb
    refine ⟨⟨ho, b, arr, by show (β (hs.getD i 0)).1 = _; rw [gd]; exact h1, h2, by rw [h3, hl], fun q d v e1 e2 => ?_⟩, fun k hk => ?_, trivial, trivial⟩
    · have hq : q < cs.length := by rw [hl]; exact (List.getElem?_eq_some_iff.1 e1).1
      exact (hc q cs[q] d (List.getElem?_eq_getElem hq) e1).ok hst (h4 q _ v (List.getElem?_eq_getElem hq) e2)
    · have hk : AV.menL ds k := hk
      rw [AV.menL_iff] at hk
      obtain ⟨d, hd, hk⟩ := hk
      obtain ⟨q, hq⟩ := List.getElem?_of_mem hd
      have hq' : q < cs.length := by rw [hl]; exact (List.getElem?_eq_some_iff.1 hq).1
      exact (hc q cs[q] d (List.getElem?_eq_getElem hq') hq).men k hk

/-- The results, as they stand at the end. -/
def retsK (Γ : Tab) (P : Program) (wr : FuncId → Bool) : List ResultVar → Sl → Hp → (List AV → Prop) → Prop
  | [], _, _, K => K []
  | .tmp t :: rs, s, H, K => getSK s t fun v => retsK Γ P wr rs s H fun l => K (v :: l)
  | .cell a t :: rs, s, H, K => opSem Γ P wr (WK s) (lookK H) (look H) 0 (.load t (.tmp a)) fun v _ => retsK Γ P wr rs s H fun l => K (v :: l)

def oneOf : List AV → AV
  | [v] => v
  | l => .tup l

/-- What is asked at a function's end. -/
def RetP (Γ : Tab) (P : Program) (wr : FuncId → Bool) (rs : List ResultVar) (nin : Nat) (r : AV) (Hout : Hp) : Ex → Sl → Hp → Prop
  | .exit _, _, _ => False
  | _, s, H => retsK Γ P wr rs s H fun l => SRet nin (oneOf l) H r Hout

theorem rets_ok (hΓ : GOK P Γ) {s : Sl} {H : Hp} {a : Act} {w : World} {F : Nat → Prop} {β : Nat → Option Nat × Nat} (hst : StI E n (getS s) (look H) a w F β) : ∀ (rs : List ResultVar) (K : List AV → Prop), retsK Γ P wr rs s H K →
    ∃ l vs, K l ∧ vs.length = l.length ∧ (rs.mapM (m := Sem) fun | .tmp t => pure (a.tmps.getD t Go.undef) | .cell x t => do loadVar t (← asAddr (a.tmps.getD x Go.undef))).run P w = .ok vs w ∧ ∀ (i : Nat) c v, l[i]? = some c → vs[i]? = some v → VR w (FBof E.Bor F) β c v := by
  intro rs
  induction rs with
  | nil => intro K hk; exact ⟨[], [], hk, rfl, by simp, by simp⟩
  | cons x rs ih =>
    intro K hk
    have cons : ∀ {c : AV} {v : Value} {l : List AV} {vs : List Value}, VR w (FBof E.Bor F) β c v → (∀ (i : Nat) c v, l[i]? = some c → vs[i]? = some v → VR w (FBof E.Bor F) β c v) → ∀ (i : Nat) c' v', (c :: l)[i]? = some c' → (v :: vs)[i]? = some v' → VR w (FBof E.Bor F) β c' v' := by
      intro c v l vs h1 h2 i c' v' e1 e2
      cases i with
      | zero => simp at e1 e2; subst e1; subst e2; exact h1
      | succ i => exact h2 i c' v' (by simpa using e1) (by simpa using e2)
    cases x with
    | tmp t =>
      simp only [retsK] at hk
      obtain ⟨l, vs, hk, h1, h2, h3⟩ := ih _ (getSK_ok hk)
      refine ⟨_, _ :: vs, hk, by simp [h1], ?_, cons (hst.slots t) h3⟩
      rw [List.mapM_cons]
      refine (Sem.run_seq _ _ _ _ _ _ (show (pure (a.tmps.getD t Go.undef) : Sem Value).run P w = .ok _ w from rfl)).trans ?_
      exact (Sem.run_seq _ _ _ _ _ _ h2).trans rfl
    | cell x t =>
      simp only [retsK] at hk
      have hout := load_ok (wr := wr) (base := 0) hΓ (fun x K => WK_ok s x K) (fun h K => lookK_ok H h K) hst (t := t) (x := .tmp x) hk
      have hev : a.eval (.tmp x) = a.tmps.getD x Go.undef := rfl
      rw [hev] at hout
      generalize hr : (Instr.loadAt t (a.tmps.getD x Go.undef)).run P w = r at hout
      cases hout with | @mk v y hk hv hm =>
      obtain ⟨l, vs, hk, h1, h2, h3⟩ := ih _ hk
      refine ⟨_, y :: vs, hk, by simp [h1], ?_, cons hv h3⟩
      have hr' : (do loadVar t (← asAddr (a.tmps.getD x Go.undef)) : Sem Value).run P w = .ok y w := by
        unfold Instr.loadAt at hr
        cases hx : a.tmps.getD x Go.undef with
        | pointer ad =>
          cases ad with
          | none => rw [hx] at hr; simp [Instr.sureAddr] at hr
          | some ad => rw [hx] at hr; simpa [Instr.sureAddr, asAddr] using hr
        | _ => rw [hx] at hr; simp [Instr.sureAddr] at hr
      rw [List.mapM_cons]
      refine (Sem.run_seq _ _ _ _ _ _ hr').trans ?_
      exact (Sem.run_seq _ _ _ _ _ _ h2).trans rfl

theorem ret_ok (hΓ : GOK P Γ) {fn : Func} {s : Sl} {H : Hp} {a : Act} {w : World} {F : Nat → Prop} {β : Nat → Option Nat × Nat} (hst : StI E n (getS s) (look H) a w F β) (K : List AV → Prop) (hk : retsK Γ P wr fn.results.toList s H K) :
    ∃ l v, K l ∧ (results fn a.tmps).run P w = .ok v w ∧ VR w (FBof E.Bor F) β (oneOf l) v := by
  obtain ⟨l, vs, hk, h1, h2, h3⟩ := rets_ok hΓ hst fn.results.toList K hk
  refine ⟨l, if h : vs.length = 1 then vs[0] else .tuple vs.toArray, hk, ?_, ?_⟩
  · unfold results
    rw [Array.mapM_eq_mapM_toList]
    have : (List.toArray <$> fn.results.toList.mapM (m := Sem) (fun | .tmp t => pure (a.tmps.getD t Go.undef) | .cell x t => do loadVar t (← asAddr (a.tmps.getD x Go.undef)))).run P w = .ok vs.toArray w := by
      rw [map_eq_pure_bind, Sem.run_seq _ _ _ _ _ _ h2]; rfl
    refine (Sem.run_seq _ _ _ _ _ _ this).trans ?_
    simp
  · split
    · rename_i h
      obtain ⟨c, rfl⟩ := List.length_eq_one_iff.1 (by rw [← h1]; exact h)
      exact h3 0 c _ rfl (by simp)
    · rename_i h
      have : oneOf l = .tup l := by
        match l, h1 with
        | [], _ => rfl
        | [c], h1 => exact (h h1).elim
        | _ :: _ :: _, _ => rfl
      rw [this]
      exact .tup l _ (by simpa using h1) fun i c v e1 e2 => h3 i c v e1 (by simpa using e2)

def argsS : Nat → List AV → Sl
  | _, [] => []
  | i, c :: cs => (i, c) :: argsS (i + 1) cs

theorem argsS_get : ∀ (cs : List AV) (i t : Nat), getS (argsS i cs) t = if i ≤ t then cs.getD (t - i) .any else .any := by
  intro cs
  induction cs with
  | nil => intro i t; simp [argsS, getS]
  | cons c cs ih =>
    intro i t
    simp only [argsS, getS, ih]
    by_cases e : i = t
    · subst e; simp
    · have hb : Nat.beq i t = false := by
        cases h : Nat.beq i t with
        | false => rfl
        | true => exact (e (Nat.eq_of_beq_eq_true h)).elim
      rw [hb]
      simp only [cond_false]
      by_cases h : i ≤ t
      · rw [if_pos h, if_pos (by omega)]
        rw [show t - i = (t - (i + 1)) + 1 by omega]
        simp
      · rw [if_neg h, if_neg (by omega)]

theorem callG_of_vc (hΓ : GOK P Γ) (hmix : P.follows .mixedOrders = true) {f : FuncId} {fn : Func} {c : Code} {args : List AV} {Hin : Hp} {r : AV} {Hout : Hp} (hf : P.funcs[f]? = some fn) (hname : (fn.name == "runtime.NumGoroutine") = false) (hb : fn.body = some c)
    (hfit : fits fn.ntmps c = true) (hn : args.length ≤ fn.ntmps) (hlive : ∀ B ∈ Hin, B.live)
    (h : VC Γ P wr Hin.length c (RetP Γ P wr fn.results.toList Hin.length r Hout) (argsS 0 args) Hin) : CallG P f args Hin r Hout := by
  refine ⟨⟨fn, hf, hname, by rw [hb]; rfl⟩, fun w F Bor β vs hargs => ?_⟩
  let E : Env := { w0 := w, Keep := fun b => b < w.heap.size ∧ ∀ h, (Hin.getD h .free).live → (β h).1 ≠ some b, Bor := Bor, F0 := F, nin := Hin.length, β0 := β }
  have hinl : ∀ i, i < Hin.length → (look Hin i).live := fun i hi => by
    have : look Hin i = Hin[i] := by simp [look, List.getD, List.getElem?_eq_getElem hi]
    rw [this]; exact hlive _ (List.getElem_mem hi)
  have hst : StI E fn.ntmps (getS (argsS 0 args)) (look Hin) { tmps := vs.toArray ++ Array.replicate (fn.ntmps - vs.toArray.size) Go.undef, defers := [] } w F β := {
    os := rfl, tape := rfl, output := rfl, size := Nat.le_refl _
    keep := fun _ _ => rfl
    keeplt := fun b hb => hb.1
    bor := fun b hb => ⟨hargs.blt b hb, fun h h1 h2 => (hargs.own h b h1 h2).2.1 hb⟩
    flt := hargs.flt
    fold := fun b hb _ => hb
    own := fun h b h1 h2 => ⟨(hargs.own h b h1 h2).1, fun hk => hk.2 h h1 h2, (hargs.own h b h1 h2).2.2⟩
    dis := hargs.dis
    len := by simp [hargs.len]; omega
    slots := fun t => by
      rw [argsS_get]
      simp only [Nat.zero_le, if_true, Nat.sub_zero]
      by_cases ht : t < args.length
      · have e1 : args[t]? = some args[t] := List.getElem?_eq_getElem ht
        have ht' : t < vs.length := by rw [hargs.len]; exact ht
        have e2 : vs[t]? = some vs[t] := List.getElem?_eq_getElem ht'
        have : (vs.toArray ++ Array.replicate (fn.ntmps - vs.toArray.size) Go.undef).getD t Go.undef = vs[t] := by
          simp [Array.getD, ht', show t < vs.length + (fn.ntmps - vs.length) by omega, Array.getElem_append]
        rw [this]
        have : args.getD t .any = args[t] := by simp [List.getD, e1]
        rw [this]
        exact hargs.rel t _ _ e1 e2
      · rw [getD_ge _ _ (by omega)]; exact .any _
    blks := hargs.blks
    ms := fun t k hk => by
      rw [argsS_get] at hk
      simp only [Nat.zero_le, if_true, Nat.sub_zero] at hk
      by_cases ht : t < args.length
      · have : args.getD t .any = args[t] := by simp [List.getD, List.getElem?_eq_getElem ht]
        rw [this] at hk
        exact hargs.ma _ (List.getElem_mem ht) k hk
      · rw [getD_ge _ _ (by omega)] at hk; simp only [AV.men] at hk
    mb := hargs.mb
    defers := rfl
    bin := fun i hi => ⟨rfl, Blk.live_ne (hinl i hi)⟩
    fs0 := fun b hb => hb }
  have hwp := vc_sound hΓ hmix (E := E) c _ _ _ _ w h hfit ⟨F, β, hst⟩
  refine calls_of_wp hf hb (wp_mono hwp fun e a' w' he => ?_)
  obtain ⟨e', s', H', h1, h2, F1, β1, hst'⟩ := he
  -- the end
  have fin : retsK Γ P wr fn.results.toList s' H' (fun l => SRet Hin.length (oneOf l) H' r Hout) → a'.defers = [] ∧ ∃ v, (results fn a'.tmps).run P w' = .ok v w' ∧ ∃ v' F' β', Ending.returned v = .returned v' ∧ RetSt w F β Hin r Hout v' w' F' β' := by
    intro h2
    obtain ⟨l, v, h3, hr, hv⟩ := ret_ok hΓ hst' _ h2
    obtain ⟨hs, pre, nd, hlen, hnin, hlv, hB, hconv⟩ := h3
    have hpre : ∀ i, i < Hin.length → hs[i]? = some i := fun i hi => by
      have hp : (hs.take Hin.length)[i]? = some i := by rw [pre, List.getElem?_range hi]
      rwa [List.getElem?_take_of_lt hi] at hp
    have hgd : ∀ i, i < hs.length → hs[i]? = some (hs.getD i 0) := fun i hi => by simp [List.getD, List.getElem?_eq_getElem hi]
    have notkeep : ∀ b, b < w.heap.size → ¬ E.Keep b → ∃ h, (Hin.getD h .free).live ∧ (β h).1 = some b := fun b h1 h2 => by
      apply Classical.byContradiction
      intro hc
      exact h2 ⟨h1, fun h h3 h4 => hc ⟨h, h3, h4⟩⟩
    have hinlt : ∀ h, (Hin.getD h .free).live → h < Hin.length := fun h hl => by
      rcases Nat.lt_or_ge h Hin.length with h' | h'
      · exact h'
      · rw [getD_ge _ _ h'] at hl; exact hl.elim
    have hout : ∀ i, (Hout.getD i .free).live → i < hs.length := fun i hl => by
      rcases Nat.lt_or_ge i hs.length with h' | h'
      · exact h'
      · rw [getD_ge _ _ (by omega)] at hl; exact hl.elim
    have hblk : ∀ i, i < hs.length → Own w' (FBof noBor (Frozen F1 β1 hs H')) (fun i => β1 (hs.getD i 0)) i (Hout.getD i .free) ∧ (∀ k, (Hout.getD i .free).men k → k < hs.length) ∧ (Hout.getD i .free).live ∧ (look H' (hs.getD i 0)).live := fun i hi => by
      have hi' : i < Hout.length := by omega
      have e : Hout.getD i .free = Hout[i] := by simp [List.getD, List.getElem?_eq_getElem hi']
      rw [e]
      exact (hB i _ _ (hgd i hi) (List.getElem?_eq_getElem hi')).ok hst' (hgd i hi)
    refine ⟨hst'.defers, v, hr, v, Frozen F1 β1 hs H', fun i => β1 (hs.getD i 0), rfl, ?_⟩
    exact {
      os := hst'.os, tape := hst'.tape, output := hst'.output, size := hst'.size
      same := fun b h1 h2 => hst'.keep b ⟨h1, h2⟩
      flt := fun b hb => by
        rcases hb with hb | ⟨h, _, h2, h3⟩
        · exact hst'.flt b hb
        · exact (hst'.own h b h2 h3).2.2
      fold := fun b hb hlt => by
        rcases hb with hb | ⟨h, h1, h2, h3⟩
        · exact hst'.fold b hb hlt
        · exfalso
          obtain ⟨h0, g1, g2⟩ := notkeep b hlt (hst'.own h b h2 h3).2.1
          have hi := hinlt h0 g1
          have hb0 : β1 h0 = β h0 := (hst'.bin h0 hi).1
          have : h = h0 := hst'.dis h h0 b h2 (hlv h0 hi) h3 (by rw [hb0]; exact g2)
          subst this
          exact h1 (List.mem_of_getElem? (hpre h hi))
      fsub := fun b hb => .inl (hst'.fs0 b hb)
      bsame := fun h hl => by
        have hi := hinlt h hl
        have e : hs.getD h 0 = h := by simp [List.getD, hpre h hi]
        show β1 (hs.getD h 0) = β h
        rw [e]; exact (hst'.bin h hi).1
      rel := hconv.ok hst' hv
      blks := fun i => by
        rcases Nat.lt_or_ge i hs.length with hi | hi
        · exact (hblk i hi).1
        · rw [getD_ge _ _ (by omega)]; trivial
      own := fun i b h1 h2 => by
        have hi := hout i h1
        have o := hst'.own _ b (hblk i hi).2.2.2 h2
        refine ⟨fun hb => ?_, o.2.2, fun hlt => notkeep b hlt o.2.1⟩
        rcases hb with hb | ⟨h, g1, g2, g3⟩
        · exact o.1 hb
        · have : h = hs.getD i 0 := hst'.dis _ _ b g2 (hblk i hi).2.2.2 g3 h2
          rw [this] at g1
          exact g1 (List.mem_of_getElem? (hgd i hi))
      dis := fun i j b h1 h2 h3 h4 => by
        have hi := hout i h1
        have hj := hout j h2
        have := hst'.dis _ _ b (hblk i hi).2.2.2 (hblk j hj).2.2.2 h3 h4
        have e1 := hgd i hi
        rw [this] at e1
        exact (List.getElem?_inj hi nd).1 (e1.trans (hgd j hj).symm)
      mr := fun k hk => Blk.live_ne (hblk k (hconv.men k hk)).2.2.1
      mb := fun i k hk => by
        rcases Nat.lt_or_ge i hs.length with hi | hi
        · exact Blk.live_ne (hblk k ((hblk i hi).2.1 k hk)).2.2.1
        · rw [getD_ge _ _ (by omega)] at hk; exact hk.elim }
  cases e' with
  | normal => cases e <;> first | exact h1.elim | exact fin h2
  | ret => cases e <;> first | exact h1.elim | exact fin h2
  | exit i => exact h2.elim
end
end Go.Proofs.YtacklcbgkigcaaaGreat
