/- A function's contract out of what VC asks of its code. -/
import Derived.Test.YtkaooejeljdbnaaAb17
namespace Go.Proofs.Ytkaooejeljdbnaa
open Go
set_option linter.unusedVariables false
set_option linter.unusedSimpArgs false

/-- From the state at the end to what the caller sees: 'hs' are the blocks that are handed on, all others are read alone from now on. -/
inductive Conv (hs : List Nat) (H : Hp) : AV → AV → Prop where
  | p (v : PV) (h : Pers v) : Conv hs H (.p v) (.p v)
  | tf (b : Bool) : Conv hs H (.tf b) (.p (.bool b))
  | emp (W : Nat) : Conv hs H .emp (.p (.sl false W []))
  | frz {h : Hd} {W off len : Nat} {T : TypeId} {es es' : List PV} (hB : look H h = .vec T W es) (hn : h.key ∉ hs) (hl : off + len ≤ es.length) (hp : ∀ e ∈ es, ∀ c ∈ e.cells, Pers c) (he : (es.drop off).take len = es') : Conv hs H (.vec h W off len) (.p (.sl false W es'))
  | frzmap {h : Hd} {es : List (PV × PV)} (hB : look H h = .map es) (hn : h.key ∉ hs) (hp : ∀ e ∈ es, Pers e.1 ∧ Pers e.2) : Conv hs H (.map h) (.p (.mp false es))
  | frzR {h : Hd} {len : Nat} {T : TypeId} {cs : List AV} {ps : List PV} (hB : look H h = .rows T cs) (hn : h.key ∉ hs) (hlen : len = ps.length) (ho : ∀ d ∈ ps, d.one = true) (hl : cs.length = ps.length) (hc : ∀ (i : Nat) c d, cs[i]? = some c → ps[i]? = some d → Conv hs H c (.p d)) : Conv hs H (.vec h 1 0 len) (.p (.sl false 1 ps))
  | vec {i h W off len : Nat} (hi : hs[i]? = some h) : Conv hs H (.vec h W off len) (.vec i W off len)
  | vecr {i h k W off len : Nat} (hi : hs[i]? = some h) : Conv hs H (.vec (.r h k) W off len) (.vec (.r i k) W off len)
  | bptr {i h o : Nat} (hi : hs[i]? = some h) : Conv hs H (.bptr h o) (.bptr i o)
  | map {i h : Nat} (hi : hs[i]? = some h) : Conv hs H (.map h) (.map i)
  | agg {cs ds : List AV} (ho : ∀ d ∈ ds, d.one = true) (hl : cs.length = ds.length) (h : ∀ (i : Nat) c d, cs[i]? = some c → ds[i]? = some d → Conv hs H c d) : Conv hs H (.agg cs) (.agg ds)
  | aggp {cs : List AV} {ps : List PV} (ho : ∀ d ∈ ps, d.one = true) (hl : cs.length = ps.length) (h : ∀ (i : Nat) c d, cs[i]? = some c → ps[i]? = some d → Conv hs H c (.p d)) : Conv hs H (.agg cs) (.p (.agg ps))
  | tup {cs ds : List AV} (hl : cs.length = ds.length) (h : ∀ (i : Nat) c d, cs[i]? = some c → ds[i]? = some d → Conv hs H c d) : Conv hs H (.tup cs) (.tup ds)

inductive ConvB (hs : List Nat) (H : Hp) : Blk → Blk → Prop where
  | vec {T : TypeId} {W : Nat} {es : List PV} (hp : ∀ e ∈ es, ∀ c ∈ e.cells, Pers c) : ConvB hs H (.vec T W es) (.vec T W es)
  | map {es : List (PV × PV)} (hp : ∀ e ∈ es, Pers e.1 ∧ Pers e.2) : ConvB hs H (.map es) (.map es)
  | box {T : TypeId} {cs ds : List AV} (ho : ∀ d ∈ ds, d.one = true) (hl : cs.length = ds.length) (h : ∀ (i : Nat) c d, cs[i]? = some c → ds[i]? = some d → Conv hs H c d) : ConvB hs H (.box T cs) (.box T ds)
  | rows {T : TypeId} {cs ds : List AV} (ho : ∀ d ∈ ds, d.one = true) (hl : cs.length = ds.length) (h : ∀ (i : Nat) c d, cs[i]? = some c → ds[i]? = some d → Conv hs H c d) : ConvB hs H (.rows T cs) (.rows T ds)
  | pool {T : TypeId} {W : Nat} {rs : List (Option (List PV))} (hp : ∀ (k : Nat) es, rs[k]? = some (some es) → ∀ e ∈ es, ∀ c ∈ e.cells, Pers c) : ConvB hs H (.pool T W rs) (.pool T W rs)

inductive SRet (nin : Hp) (av : AV) (H : Hp) (r : AV) (Hout : Hp) : Prop
  | mk (hs : List Nat) (pre : hs.take nin.length = List.range nin.length) (nd : hs.Nodup) (hlen : hs.length = Hout.length) (hnin : nin.length ≤ hs.length) (hlv : ∀ h, (look nin h).live → (look H h).live) (hnf : ∀ h, look nin h ≠ .free → look H h ≠ .free)
      (hb : ∀ (i h : Nat) B, hs[i]? = some h → Hout[i]? = some B → ConvB hs H (H.getD h .free) B) (hv : Conv hs H av r) : SRet nin av H r Hout

section
variable {P : Program} {Γ : Tab} {E : Env} {n : Nat} {wr : FuncId → Bool}

/-- What is read alone from the end on. -/
def Frozen (F : Nat → Prop) (β : Hd → Option Nat × Nat) (hs : List Nat) (H : Hp) (b : Nat) : Prop := F b ∨ ∃ h : Hd, h.key ∉ hs ∧ (look H h).live ∧ (β h).1 = some b
/-- What is handed on, by the caller's handles. -/
def backH (hs : List Nat) : Hd → Hd
  | .t i => .t (hs.getD i 0)
  | .r i k => .r (hs.getD i 0) k
theorem backH_key (hs : List Nat) (i : Hd) : (backH hs i).key = hs.getD i.key 0 := by cases i <;> rfl

theorem PR.toF {w : World} {B F F' : Nat → Prop} {v : PV} {x : Value} (h : PR w (FBof B F) v x) (hp : Pers v) (hF : ∀ b, F b → F' b) : PR w (FBof noBor F') v x := by
  refine (PR.pers hp h).mono (fun m b hb => ?_) fun _ _ _ => rfl
  obtain ⟨rfl, hb⟩ := hb
  exact hF b hb

theorem Conv.ok {hs : List Nat} {s : Nat → AV} {H : Hp} {a : Act} {w : World} {F : Nat → Prop} {β : Hd → Option Nat × Nat} (hst : StI E n s (look H) a w F β) {c d : AV} (h : Conv hs H c d) :
    ∀ {v : Value}, VR w (FBof E.Bor F) β c v → VR w (FBof noBor (Frozen F β hs H)) (fun i => β (backH hs i)) d v := by
  have gd : ∀ {i h : Nat}, hs[i]? = some h → hs.getD i 0 = h := fun e => by simp [List.getD, e]
  have gt : ∀ {i h : Nat}, hs[i]? = some h → backH hs (.t i) = .t h := fun e => by simp only [backH, gd e]
  have gr : ∀ {i h k : Nat}, hs[i]? = some h → backH hs (.r i k) = .r h k := fun e => by simp only [backH, gd e]
  have up : ∀ {p : PV} {x : Value}, Pers p → PR w (FBof E.Bor F) p x → PR w (FBof noBor (Frozen F β hs H)) p x := fun hp h => h.toF hp fun b hb => .inl hb
  induction h with
  | p v hp => intro x hv; exact .p (up hp hv.pOf)
  | tf b => intro x hv; exact .p (up (.bool b) hv.tfOf)
  | emp W =>
    intro x hv
    cases hv with
    | empn => exact .p (.nil _ _ _)
    | emp b off => exact .p (PR.sl false _ [] b off 0 (fun _ _ => Go.undef) (Nat.le_refl _) (fun h => absurd rfl h) (by simp) (by simp) (by simp) (by simp))
  | @frz h W off len T es es' hB hn hl hp he =>
    intro x hv
    subst he
    have hlv : (look H h).live := by rw [hB]; trivial
    have hbk := hst.blks h
    rw [hB] at hbk
    obtain ⟨q1, q2, q3⟩ := hbk
    have hll : ((es.drop off).take len).length = len := by simp; omega
    rcases hv.vecInv with ⟨b, o, cc, hb', hcl, hcm, ho, rfl⟩ | ⟨ad, hb', hz, hz', rfl, ha⟩
    · obtain ⟨arr, g1, g2, g3, g4⟩ : ∃ arr, (β h).1 = some b ∧ w.heap[b]? = some (.cells arr T (0, 0)) ∧ arr.size = (β h).2 * W ∧ ∀ (i : Nat) e (j : Nat) c v, es[i]? = some e → e.cells[j]? = some c → arr[i * W + j]? = some v → PR w (FBof E.Bor F) c v := by
        rcases q3 with q3 | ⟨b', arr, g1, g2, g3, g4⟩
        · rw [q3.1] at hb'; cases hb'
        · rw [g1] at hb'; cases hb'; exact ⟨arr, g1, g2, g3, g4⟩
      have get : ∀ (i : Nat) e, ((es.drop off).take len)[i]? = some e → i < len ∧ es[off + i]? = some e := fun i e he => by
        have hi : i < len := by have := (List.getElem?_eq_some_iff.1 he).1; rw [hll] at this; exact this
        rw [List.getElem?_take_of_lt hi, List.getElem?_drop] at he
        exact ⟨hi, he⟩
      have hin : ∀ i j, i < es.length → j < W → i * W + j < arr.size := fun i j hi hj => by
        rw [g3]
        have : (i + 1) * W ≤ (β h).2 * W := Nat.mul_le_mul_right _ (by omega)
        rw [Nat.add_mul] at this; omega
      have := PR.sl (w := w) (FB := FBof noBor (Frozen F β hs H)) false W ((es.drop off).take len) b o cc (fun i j => arr.getD ((off + i) * W + j) Go.undef) (by rw [hll]; omega) (fun _ => .inr ⟨h, hn, hlv, g1⟩)
        (fun e he => (q1 e (List.mem_of_mem_drop (List.mem_of_mem_take he))).1) (fun e he => (q1 e (List.mem_of_mem_drop (List.mem_of_mem_take he))).2) (fun i e j c e1 e2 => by
          obtain ⟨hi, he⟩ := get i e e1
          have hj : j < W := by rw [← (q1 e (List.mem_of_getElem? he)).1]; exact (List.getElem?_eq_some_iff.1 e2).1
          have := hin (off + i) j (by omega) hj
          rw [ho (by omega), show off * W + i * W + j = (off + i) * W + j by rw [Nat.add_mul]]
          simp only [World.cell?, g2]; simp [Array.getD, this]) (fun i e j c e1 e2 => by
          obtain ⟨hi, he⟩ := get i e e1
          have hj : j < W := by rw [← (q1 e (List.mem_of_getElem? he)).1]; exact (List.getElem?_eq_some_iff.1 e2).1
          have := hin (off + i) j (by omega) hj
          exact up (hp e (List.mem_of_getElem? he) c (List.mem_of_getElem? e2)) (g4 (off + i) e j c _ he e2 (by simp [Array.getD, this])))
      rw [hll] at this
      exact .p this
    · subst hz; subst hz'
      simp only [List.take_zero]
      cases ad with
      | none => exact .p (.nil _ _ _)
      | some ad =>
        obtain ⟨b, o, sp⟩ := ad
        have : sp = none := ha _ rfl
        subst this
        exact .p (PR.sl false W [] b o 0 (fun _ _ => Go.undef) (Nat.le_refl _) (fun h => absurd rfl h) (by simp) (by simp) (by simp) (by simp))
  | @frzmap h es hB hn hp =>
    intro x hv
    have hlv : (look H h).live := by rw [hB]; trivial
    have hbk := hst.blks h
    rw [hB] at hbk
    obtain ⟨b, en, clock, h1, h2, h3, h4, h5, h6⟩ := hbk
    cases hv with | map hb' =>
    rw [h1] at hb'; cases hb'
    exact .p (.mp false es b clock en (.inr ⟨h, hn, hlv, h1⟩) h2 h3 (fun i x e e1 e2 => up (hp x (List.mem_of_getElem? e1)).1 (h4 i x e e1 e2).1) (fun i x e e1 e2 => up (hp x (List.mem_of_getElem? e1)).2 (h4 i x e e1 e2).2) h5 h6)
  | @frzR h len T cs ps hB hn hlen hone hl _ ih =>
    intro x hv
    subst hlen
    have hlv : (look H h).live := by rw [hB]; trivial
    have hbk := hst.blks h
    rw [hB] at hbk
    obtain ⟨q1, q2, q3⟩ := hbk
    rcases hv.vecInv with ⟨b, o, cc, hb', hcl, hcm, ho, rfl⟩ | ⟨ad, hb', _, hz, rfl, ha⟩
    · obtain ⟨arr, g1, g2, g3, g4⟩ : ∃ arr, (β h).1 = some b ∧ w.heap[b]? = some (.cells arr T (0, 0)) ∧ arr.size = (β h).2 ∧ ∀ (i : Nat) c v, cs[i]? = some c → arr[i]? = some v → VR w (FBof E.Bor F) β c v := by
        rcases q3 with q3 | ⟨b', arr, g1, g2, g3, g4⟩
        · rw [q3.1] at hb'; cases hb'
        · rw [g1] at hb'; cases hb'; exact ⟨arr, g1, g2, g3, g4⟩
      have cl : ∀ e ∈ ps, e.cells = [e] := fun e he => PV.cells_one (hone e he)
      have get : ∀ (i : Nat) (e : PV), ps[i]? = some e → i < arr.size ∧ i < cs.length := fun i e he => by
        have := (List.getElem?_eq_some_iff.1 he).1
        omega
      refine .p (PR.sl false 1 ps b o _ (fun i j => arr.getD i Go.undef) (by omega) (fun _ => .inr ⟨h, hn, hlv, g1⟩) (fun e he => by rw [cl e he]; rfl) (fun e he c hc => by rw [cl e he] at hc; cases List.mem_singleton.1 hc; exact hone _ he) (fun i e j c e1 e2 => ?_) (fun i e j c e1 e2 => ?_))
      · obtain ⟨hi, _⟩ := get i e e1
        rw [cl e (List.mem_of_getElem? e1)] at e2
        have hj : j = 0 := by have := (List.getElem?_eq_some_iff.1 e2).1; simpa using this
        subst hj
        have hi2 := (List.getElem?_eq_some_iff.1 e1).1
        rw [ho (by omega)]
        simp only [World.cell?, g2]; simp [Array.getD, hi]
      · obtain ⟨hi, hi'⟩ := get i e e1
        rw [cl e (List.mem_of_getElem? e1)] at e2
        have hj : j = 0 := by have := (List.getElem?_eq_some_iff.1 e2).1; simpa using this
        subst hj
        cases e2
        exact (ih i cs[i] e (List.getElem?_eq_getElem hi') e1 (g4 i _ _ (List.getElem?_eq_getElem hi') (by simp [Array.getD, hi]))).pOf
    · have hcs : ps = [] := List.length_eq_zero_iff.1 hz
      subst hcs
      cases ad with
      | none => exact .p (.nil _ _ _)
      | some ad =>
        obtain ⟨b, o, sp⟩ := ad
        have : sp = none := ha _ rfl
        subst this
        exact .p (PR.sl false 1 [] b o 0 (fun _ _ => Go.undef) (Nat.le_refl _) (fun h => absurd rfl h) (by simp) (by simp) (by simp) (by simp))
  | @vec i h W off len hi =>
    intro x hv
    rcases hv.vecInv with ⟨b, o, cc, hb', hcl, hcm, ho, rfl⟩ | ⟨ad, hb', hz, hz', rfl, ha⟩
    · have := VR.vec (w := w) (FB := FBof noBor (Frozen F β hs H)) (β := fun i => β (backH hs i)) (h := i) (W := W) (off := off) (len := len) (b := b) (o := o) (c := cc) (by show (β (backH hs (.t i))).1 = _; rw [gt hi]; exact hb') hcl (by show _ ≤ (β (backH hs (.t i))).2; rw [gt hi]; exact hcm) ho
      exact this
    · subst hz; subst hz'
      exact .vecn ad ha (by show (β (backH hs (.t i))).1 = _; rw [gt hi]; exact hb')
  | @vecr i h k W off len hi =>
    intro x hv
    rcases hv.vecInv with ⟨b, o, cc, hb', hcl, hcm, ho, rfl⟩ | ⟨ad, hb', hz, hz', rfl, ha⟩
    · have := VR.vec (w := w) (FB := FBof noBor (Frozen F β hs H)) (β := fun i => β (backH hs i)) (h := .r i k) (W := W) (off := off) (len := len) (b := b) (o := o) (c := cc) (by show (β (backH hs (.r i k))).1 = _; rw [gr hi]; exact hb') hcl (by show _ ≤ (β (backH hs (.r i k))).2; rw [gr hi]; exact hcm) ho
      exact this
    · subst hz; subst hz'
      exact .vecn ad ha (by show (β (backH hs (.r i k))).1 = _; rw [gr hi]; exact hb')
  | bptr hi => intro x hv; cases hv with | bptr hb => exact .bptr (by show (β (backH hs (.t _))).1 = _; rw [gt hi]; exact hb)
  | map hi => intro x hv; cases hv with | map hb => exact .map (by show (β (backH hs (.t _))).1 = _; rw [gt hi]; exact hb)
  | @agg cs ds ho hl _ ih =>
    intro x hv
    cases hv with | agg _ vs hone hl' hr =>
    refine .agg ds vs ho (by rw [hl', hl]) fun i d v e1 e2 => ?_
    have hi : i < cs.length := by rw [hl]; exact (List.getElem?_eq_some_iff.1 e1).1
    exact ih i cs[i] d (List.getElem?_eq_getElem hi) e1 (hr i _ v (List.getElem?_eq_getElem hi) e2)
  | @aggp cs ps ho hl _ ih =>
    intro x hv
    cases hv with | agg _ vs hone hl' hr =>
    refine .p (.agg ps vs ho (by rw [hl', hl]) fun i d v e1 e2 => ?_)
    have hi : i < cs.length := by rw [hl]; exact (List.getElem?_eq_some_iff.1 e1).1
    exact (ih i cs[i] d (List.getElem?_eq_getElem hi) e1 (hr i _ v (List.getElem?_eq_getElem hi) e2)).pOf
  | @tup cs ds hl _ ih =>
    intro x hv
    cases hv with | tup _ vs hl' hr =>
    refine .tup ds vs (by rw [hl', hl]) fun i d v e1 e2 => ?_
    have hi : i < cs.length := by rw [hl]; exact (List.getElem?_eq_some_iff.1 e1).1
    exact ih i cs[i] d (List.getElem?_eq_getElem hi) e1 (hr i _ v (List.getElem?_eq_getElem hi) e2)

theorem Conv.men {hs : List Nat} {H : Hp} {c d : AV} (h : Conv hs H c d) : ∀ k, d.men k → k.key < hs.length ∧ c.men (backH hs k) := by
  have gd : ∀ {i h : Nat}, hs[i]? = some h → hs.getD i 0 = h := fun e => by simp [List.getD, e]
  induction h with
  | vec hi => intro k hk; obtain rfl : _ = k := hk; exact ⟨(List.getElem?_eq_some_iff.1 hi).1, by simp only [backH, gd hi]; rfl⟩
  | vecr hi => intro k hk; obtain rfl : _ = k := hk; exact ⟨(List.getElem?_eq_some_iff.1 hi).1, by simp only [backH, gd hi]; rfl⟩
  | bptr hi => intro k hk; obtain rfl : _ = k := hk; exact ⟨(List.getElem?_eq_some_iff.1 hi).1, by simp only [backH, gd hi]; rfl⟩
  | map hi => intro k hk; obtain rfl : _ = k := hk; exact ⟨(List.getElem?_eq_some_iff.1 hi).1, by simp only [backH, gd hi]; rfl⟩
  | @agg cs ds _ hl _ ih =>
    intro k hk
    simp only [AV.men, AV.menL_iff] at hk ⊢
    obtain ⟨d, hd, hk⟩ := hk
    obtain ⟨i, hi⟩ := List.getElem?_of_mem hd
    have hi' : i < cs.length := by rw [hl]; exact (List.getElem?_eq_some_iff.1 hi).1
    have := ih i cs[i] d (List.getElem?_eq_getElem hi') hi k hk
    exact ⟨this.1, _, List.getElem_mem hi', this.2⟩
  | @tup cs ds hl _ ih =>
    intro k hk
    simp only [AV.men, AV.menL_iff] at hk ⊢
    obtain ⟨d, hd, hk⟩ := hk
    obtain ⟨i, hi⟩ := List.getElem?_of_mem hd
    have hi' : i < cs.length := by rw [hl]; exact (List.getElem?_eq_some_iff.1 hi).1
    have := ih i cs[i] d (List.getElem?_eq_getElem hi') hi k hk
    exact ⟨this.1, _, List.getElem_mem hi', this.2⟩
  | _ => intro k hk; simp only [AV.men] at hk

/-- A block that is handed on, as it lies. -/
theorem ConvB.ok {hs : List Nat} {s : Nat → AV} {H : Hp} {a : Act} {w : World} {F : Nat → Prop} {β : Hd → Option Nat × Nat} (hst : StI E n s (look H) a w F β) {i h : Nat} {B : Blk} (hi : hs[i]? = some h) (hc : ConvB hs H (H.getD h .free) B) :
    (Own w (FBof noBor (Frozen F β hs H)) (fun i => β (backH hs i)) i B.top ∧ (∀ k, B.top.men k → k.key < hs.length ∧ (look H (.t h)).men (backH hs k)) ∧ (B.top.live → (look H (.t h)).live) ∧ B ≠ .free ∧ look H (.t h) ≠ .free) ∧
      ∀ k, Own w (FBof noBor (Frozen F β hs H)) (fun i => β (backH hs i)) (.r i k) (B.row k) ∧ B.row k = look H (.r h k) := by
  have gd : hs.getD i 0 = h := by simp [List.getD, hi]
  have gt : backH hs (.t i) = .t h := by simp only [backH, gd]
  have gr : ∀ k, backH hs (.r i k) = .r h k := fun k => by simp only [backH, gd]
  have up : ∀ {p : PV} {x : Value}, Pers p → PR w (FBof E.Bor F) p x → PR w (FBof noBor (Frozen F β hs H)) p x := fun hp h => h.toF hp fun b hb => .inl hb
  have hbt := hst.blks (.t h)
  have hbr := fun k => hst.blks (.r h k)
  simp only [look] at hbt hbr ⊢
  generalize hL : H.getD h .free = L at hc hbt hbr
  cases hc with
  | @vec T W es hp =>
    refine ⟨⟨?_, fun k hk => hk.elim, id, (fun e => by cases e), (fun e => by cases e)⟩, fun k => ⟨trivial, rfl⟩⟩
    obtain ⟨q1, q2, q3⟩ := hbt
    refine ⟨q1, by show _ ≤ (β (backH hs (.t i))).2; rw [gt]; exact q2, ?_⟩
    show ((β (backH hs (.t i))).1 = none ∧ (β (backH hs (.t i))).2 = 0) ∨ ∃ b arr, (β (backH hs (.t i))).1 = some b ∧ w.heap[b]? = some (.cells arr T (0, 0)) ∧ arr.size = (β (backH hs (.t i))).2 * W ∧ _
    rw [gt]
    rcases q3 with q3 | ⟨b, arr, g1, g2, g3, g4⟩
    · exact .inl q3
    · exact .inr ⟨b, arr, g1, g2, g3, fun q e j c v e1 e2 e3 => up (hp e (List.mem_of_getElem? e1) c (List.mem_of_getElem? e2)) (g4 q e j c v e1 e2 e3)⟩
  | @map es hp =>
    refine ⟨⟨?_, fun k hk => hk.elim, id, (fun e => by cases e), (fun e => by cases e)⟩, fun k => ⟨trivial, rfl⟩⟩
    obtain ⟨b, en, clock, h1, h2, h3, h4, h5, h6⟩ := hbt
    exact ⟨b, en, clock, by show (β (backH hs (.t i))).1 = _; rw [gt]; exact h1, h2, h3, fun q x e e1 e2 => ⟨up (hp x (List.mem_of_getElem? e1)).1 (h4 q x e e1 e2).1, up (hp x (List.mem_of_getElem? e1)).2 (h4 q x e e1 e2).2⟩, h5, h6⟩
  | @box T cs ds ho hl hc =>
    refine ⟨⟨?_, fun k hk => ?_, id, (fun e => by cases e), (fun e => by cases e)⟩, fun k => ⟨trivial, rfl⟩⟩
    · obtain ⟨h0, b, arr, h1, h2, h3, h4⟩ := hbt
      refine ⟨ho, b, arr, by show (β (backH hs (.t i))).1 = _; rw [gt]; exact h1, h2, by rw [h3, hl], fun q d v e1 e2 => ?_⟩
      have hq : q < cs.length := by rw [hl]; exact (List.getElem?_eq_some_iff.1 e1).1
      exact (hc q cs[q] d (List.getElem?_eq_getElem hq) e1).ok hst (h4 q _ v (List.getElem?_eq_getElem hq) e2)
    · have hk : AV.menL ds k := hk
      have := (Conv.agg ho hl hc).men k (by simp only [AV.men]; exact hk)
      refine ⟨this.1, ?_⟩
      have h2 := this.2
      simp only [AV.men] at h2
      exact h2
  | @rows T cs ds ho hl hc =>
    refine ⟨⟨?_, fun k hk => ?_, id, (fun e => by cases e), (fun e => by cases e)⟩, fun k => ⟨trivial, rfl⟩⟩
    · obtain ⟨h0, h1, h2⟩ := hbt
      refine ⟨ho, by show _ ≤ (β (backH hs (.t i))).2; rw [gt, ← hl]; exact h1, ?_⟩
      show ((β (backH hs (.t i))).1 = none ∧ (β (backH hs (.t i))).2 = 0) ∨ ∃ b arr, (β (backH hs (.t i))).1 = some b ∧ w.heap[b]? = some (.cells arr T (0, 0)) ∧ arr.size = (β (backH hs (.t i))).2 ∧ _
      rw [gt]
      rcases h2 with h2 | ⟨b, arr, g1, g2, g3, g4⟩
      · exact .inl h2
      · refine .inr ⟨b, arr, g1, g2, g3, fun q d v e1 e2 => ?_⟩
        have hq : q < cs.length := by rw [hl]; exact (List.getElem?_eq_some_iff.1 e1).1
        exact (hc q cs[q] d (List.getElem?_eq_getElem hq) e1).ok hst (g4 q _ v (List.getElem?_eq_getElem hq) e2)
    · have hk : AV.menL ds k := hk
      have := (Conv.agg ho hl hc).men k (by simp only [AV.men]; exact hk)
      refine ⟨this.1, ?_⟩
      have h2 := this.2
      simp only [AV.men] at h2
      exact h2
  | @pool T W rs hp =>
    refine ⟨⟨trivial, fun k hk => hk.elim, id, (fun e => by cases e), (fun e => by cases e)⟩, fun k => ⟨?_, rfl⟩⟩
    have hb := hbr k
    simp only [Blk.row] at hb ⊢
    cases hr : rs[k]? with
    | none => trivial
    | some o =>
      cases o with
      | none => trivial
      | some es =>
        rw [hr] at hb
        obtain ⟨q1, q2, q3⟩ := hb
        refine ⟨q1, by show _ ≤ (β (backH hs (.r i k))).2; rw [gr]; exact q2, ?_⟩
        show ((β (backH hs (.r i k))).1 = none ∧ (β (backH hs (.r i k))).2 = 0) ∨ ∃ b arr, (β (backH hs (.r i k))).1 = some b ∧ w.heap[b]? = some (.cells arr T (0, 0)) ∧ arr.size = (β (backH hs (.r i k))).2 * W ∧ _
        rw [gr]
        rcases q3 with q3 | ⟨b, arr, g1, g2, g3, g4⟩
        · exact .inl q3
        · exact .inr ⟨b, arr, g1, g2, g3, fun q e j c v e1 e2 e3 => up (hp k es hr e (List.mem_of_getElem? e1) c (List.mem_of_getElem? e2)) (g4 q e j c v e1 e2 e3)⟩

/-- The results, as they stand at the end. -/
def retsK (Γ : Tab) (P : Program) (wr : FuncId → Bool) : List ResultVar → Sl → Hp → (List AV → Prop) → Prop
  | [], _, _, K => K []
  | .tmp t :: rs, s, H, K => getSK s t fun v => retsK Γ P wr rs s H fun l => K (v :: l)
  | .cell a t :: rs, s, H, K => opSem Γ P wr (WK s) (lookK H) (look H) 0 (.load t (.tmp a)) fun v _ => retsK Γ P wr rs s H fun l => K (v :: l)

def oneOf : List AV → AV
  | [v] => v
  | l => .tup l

/-- What is asked at a function's end. -/
def RetP (Γ : Tab) (P : Program) (wr : FuncId → Bool) (rs : List ResultVar) (nin : Hp) (r : AV) (Hout : Hp) : Ex → Sl → Hp → Prop
  | .exit _, _, _ => False
  | _, s, H => retsK Γ P wr rs s H fun l => SRet nin (oneOf l) H r Hout

theorem rets_ok (hΓ : GOK P Γ) {s : Sl} {H : Hp} {a : Act} {w : World} {F : Nat → Prop} {β : Hd → Option Nat × Nat} (hst : StI E n (getS s) (look H) a w F β) : ∀ (rs : List ResultVar) (K : List AV → Prop), retsK Γ P wr rs s H K →
    ∃ l vs, K l ∧ vs.length = l.length ∧ (rs.mapM (m := Sem) fun | .tmp t => pure (a.tmps.getD t Go.undef) | .cell x t => do loadVar t (← asAddr (a.tmps.getD x Go.undef))).run P w = .ok vs w ∧ (∀ (i : Nat) c v, l[i]? = some c → vs[i]? = some v → VR w (FBof E.Bor F) β c v) ∧ ∀ c ∈ l, ∀ k, c.men k → look H k ≠ .free := by
  intro rs
  induction rs with
  | nil => intro K hk; exact ⟨[], [], hk, rfl, by simp, by simp, by simp⟩
  | cons x rs ih =>
    intro K hk
    have cons : ∀ {c : AV} {v : Value} {l : List AV} {vs : List Value}, VR w (FBof E.Bor F) β c v → (∀ (i : Nat) c v, l[i]? = some c → vs[i]? = some v → VR w (FBof E.Bor F) β c v) → ∀ (i : Nat) c' v', (c :: l)[i]? = some c' → (v :: vs)[i]? = some v' → VR w (FBof E.Bor F) β c' v' := by
      intro c v l vs h1 h2 i c' v' e1 e2
      cases i with
      | zero => simp at e1 e2; subst e1; subst e2; exact h1
      | succ i => exact h2 i c' v' (by simpa using e1) (by simpa using e2)
    cases x with
    | tmp t =>
      simp only [retsK] at hk
      obtain ⟨l, vs, hk, h1, h2, h3, h4⟩ := ih _ (getSK_ok hk)
      refine ⟨_, _ :: vs, hk, by simp [h1], ?_, cons (hst.slots t) h3, fun c hc k hk => by
        rcases List.mem_cons.1 hc with rfl | hc
        · exact hst.ms t k hk
        · exact h4 c hc k hk⟩
      rw [List.mapM_cons]
      refine (Sem.run_seq _ _ _ _ _ _ (show (pure (a.tmps.getD t Go.undef) : Sem Value).run P w = .ok _ w from rfl)).trans ?_
      exact (Sem.run_seq _ _ _ _ _ _ h2).trans rfl
    | cell x t =>
      simp only [retsK] at hk
      have hout := load_ok (wr := wr) (base := 0) hΓ (fun x K => WK_ok s x K) (fun h K => lookK_ok H h K) hst (t := t) (x := .tmp x) hk
      have hev : a.eval (.tmp x) = a.tmps.getD x Go.undef := rfl
      rw [hev] at hout
      generalize hr : (Instr.loadAt t (a.tmps.getD x Go.undef)).run P w = r at hout
      cases hout with | @mk v y hk hv hm =>
      obtain ⟨l, vs, hk, h1, h2, h3, h4⟩ := ih _ hk
      refine ⟨_, y :: vs, hk, by simp [h1], ?_, cons hv h3, fun c hc k hck => by
        rcases List.mem_cons.1 hc with e | hc
        · subst e; exact hm k hck
        · exact h4 c hc k hck⟩
      have hr' : (do loadVar t (← asAddr (a.tmps.getD x Go.undef)) : Sem Value).run P w = .ok y w := by
        unfold Instr.loadAt at hr
        cases hx : a.tmps.getD x Go.undef with
        | pointer ad =>
          cases ad with
          | none => rw [hx] at hr; simp [Instr.sureAddr] at hr
          | some ad => rw [hx] at hr; simpa [Instr.sureAddr, asAddr] using hr
        | _ => rw [hx] at hr; simp [Instr.sureAddr] at hr
      rw [List.mapM_cons]
      refine (Sem.run_seq _ _ _ _ _ _ hr').trans ?_
      exact (Sem.run_seq _ _ _ _ _ _ h2).trans rfl

theorem ret_ok (hΓ : GOK P Γ) {fn : Func} {s : Sl} {H : Hp} {a : Act} {w : World} {F : Nat → Prop} {β : Hd → Option Nat × Nat} (hst : StI E n (getS s) (look H) a w F β) (K : List AV → Prop) (hk : retsK Γ P wr fn.results.toList s H K) :
    ∃ l v, K l ∧ (results fn a.tmps).run P w = .ok v w ∧ VR w (FBof E.Bor F) β (oneOf l) v ∧ ∀ k, (oneOf l).men k → look H k ≠ .free := by
  obtain ⟨l, vs, hk, h1, h2, h3, h4⟩ := rets_ok hΓ hst fn.results.toList K hk
  have men : ∀ l v, (oneOf l).men v → ∃ c ∈ l, c.men v := by
    intro l v hv
    match l, hv with
    | [c], hv => exact ⟨c, by simp, hv⟩
    | [], hv => simp only [oneOf, AV.men, AV.menL] at hv
    | c :: d :: l, hv => simp only [oneOf, AV.men] at hv; exact AV.menL_iff.1 hv
  refine ⟨l, if h : vs.length = 1 then vs[0] else .tuple vs.toArray, hk, ?_, ?_, fun k hk => by obtain ⟨c, hc, hm⟩ := men l k hk; exact h4 c hc k hm⟩
  · unfold results
    rw [Array.mapM_eq_mapM_toList]
    have : (List.toArray <$> fn.results.toList.mapM (m := Sem) (fun | .tmp t => pure (a.tmps.getD t Go.undef) | .cell x t => do loadVar t (← asAddr (a.tmps.getD x Go.undef)))).run P w = .ok vs.toArray w := by
      rw [map_eq_pure_bind, Sem.run_seq _ _ _ _ _ _ h2]; rfl
    refine (Sem.run_seq _ _ _ _ _ _ this).trans ?_
    simp
  · split
    · rename_i h
      obtain ⟨c, rfl⟩ := List.length_eq_one_iff.1 (by rw [← h1]; exact h)
      exact h3 0 c _ rfl (by simp)
    · rename_i h
      have : oneOf l = .tup l := by
        match l, h1 with
        | [], _ => rfl
        | [c], h1 => exact (h h1).elim
        | _ :: _ :: _, _ => rfl
      rw [this]
      exact .tup l _ (by simpa using h1) fun i c v e1 e2 => h3 i c v e1 (by simpa using e2)

def argsS : Nat → List AV → Sl
  | _, [] => []
  | i, c :: cs => (i, c) :: argsS (i + 1) cs

theorem argsS_get : ∀ (cs : List AV) (i t : Nat), getS (argsS i cs) t = if i ≤ t then cs.getD (t - i) .any else .any := by
  intro cs
  induction cs with
  | nil => intro i t; simp [argsS, getS]
  | cons c cs ih =>
    intro i t
    simp only [argsS, getS, ih]
    by_cases e : i = t
    · subst e; simp
    · have hb : Nat.beq i t = false := by
        cases h : Nat.beq i t with
        | false => rfl
        | true => exact (e (Nat.eq_of_beq_eq_true h)).elim
      rw [hb]
      simp only [cond_false]
      by_cases h : i ≤ t
      · rw [if_pos h, if_pos (by omega)]
        rw [show t - i = (t - (i + 1)) + 1 by omega]
        simp
      · rw [if_neg h, if_neg (by omega)]

theorem callG_of_vc (hΓ : GOK P Γ) (hmix : P.follows .mixedOrders = true) {f : FuncId} {fn : Func} {c : Code} {args : List AV} {Hin : Hp} {r : AV} {Hout : Hp} (hf : P.funcs[f]? = some fn) (hname : (fn.name == "runtime.NumGoroutine") = false) (hb : fn.body = some c)
    (hfit : fits fn.ntmps c = true) (hn : args.length ≤ fn.ntmps) (hlive : ∀ B ∈ Hin, B ≠ .free)
    (h : VC Γ P wr (Hin.map Blk.plen) c (RetP Γ P wr fn.results.toList Hin r Hout) (argsS 0 args) Hin) : CallG P f args Hin r Hout := by
  refine ⟨⟨fn, hf, hname, by rw [hb]; rfl⟩, fun w F Bor β vs hargs => ?_⟩
  let E : Env := { w0 := w, Keep := fun b => b < w.heap.size ∧ ∀ h, (look Hin h).live → (β h).1 ≠ some b, Bor := Bor, F0 := F, In := fun h => look Hin h ≠ .free, β0 := β }
  have hIn : ∀ h, E.In h → InN (Hin.map Blk.plen) h := fun h hh => by
    cases h with
    | t i => have := look_lt hh; simpa [InN, Hd.key] using this
    | r i k =>
      have hi : i < Hin.length := look_lt hh
      have hk := look_row_lt hh
      have e : Hin.getD i .free = Hin[i] := by simp [List.getD, List.getElem?_eq_getElem hi]
      unfold plenAt at hk
      rw [e] at hk
      refine ⟨_, ?_, hk⟩
      rw [List.getElem?_map, List.getElem?_eq_getElem hi]
      revert hk
      cases Hin[i] <;> intro hk <;> first | (exact absurd hk (Nat.not_lt_zero _)) | rfl
  have hst : StI E fn.ntmps (getS (argsS 0 args)) (look Hin) { tmps := vs.toArray ++ Array.replicate (fn.ntmps - vs.toArray.size) Go.undef, defers := [] } w F β := {
    os := rfl, tape := rfl, output := rfl, size := Nat.le_refl _
    keep := fun _ _ => rfl
    keeplt := fun b hb => hb.1
    bor := fun b hb => ⟨hargs.blt b hb, fun h h1 h2 => (hargs.own h b h1 h2).2.1 hb⟩
    flt := hargs.flt
    fold := fun b hb _ => hb
    own := fun h b h1 h2 => ⟨(hargs.own h b h1 h2).1, fun hk => hk.2 h h1 h2, (hargs.own h b h1 h2).2.2⟩
    dis := hargs.dis
    len := by simp [hargs.len]; omega
    slots := fun t => by
      rw [argsS_get]
      simp only [Nat.zero_le, if_true, Nat.sub_zero]
      by_cases ht : t < args.length
      · have e1 : args[t]? = some args[t] := List.getElem?_eq_getElem ht
        have ht' : t < vs.length := by rw [hargs.len]; exact ht
        have e2 : vs[t]? = some vs[t] := List.getElem?_eq_getElem ht'
        have : (vs.toArray ++ Array.replicate (fn.ntmps - vs.toArray.size) Go.undef).getD t Go.undef = vs[t] := by
          simp [Array.getD, ht', show t < vs.length + (fn.ntmps - vs.length) by omega, Array.getElem_append]
        rw [this]
        have : args.getD t .any = args[t] := by simp [List.getD, e1]
        rw [this]
        exact hargs.rel t _ _ e1 e2
      · rw [getD_ge _ _ (by omega)]; exact .any _
    blks := hargs.blks
    ms := fun t k hk => by
      rw [argsS_get] at hk
      simp only [Nat.zero_le, if_true, Nat.sub_zero] at hk
      by_cases ht : t < args.length
      · have : args.getD t .any = args[t] := by simp [List.getD, List.getElem?_eq_getElem ht]
        rw [this] at hk
        exact hargs.ma _ (List.getElem_mem ht) k hk
      · rw [getD_ge _ _ (by omega)] at hk; simp only [AV.men] at hk
    mb := hargs.mb
    defers := rfl
    bin := fun i hi => ⟨rfl, hi⟩
    fs0 := fun b hb => hb }
  have hwp := vc_sound hΓ hmix (E := E) hIn c _ _ _ _ w h hfit ⟨F, β, hst⟩
  refine calls_of_wp hf hb (wp_mono hwp fun e a' w' he => ?_)
  obtain ⟨e', s', H', h1, h2, F1, β1, hst'⟩ := he
  -- the end
  have fin : retsK Γ P wr fn.results.toList s' H' (fun l => SRet Hin (oneOf l) H' r Hout) → a'.defers = [] ∧ ∃ v, (results fn a'.tmps).run P w' = .ok v w' ∧ ∃ v' F' β', Ending.returned v = .returned v' ∧ RetSt w F β Hin r Hout v' w' F' β' := by
    intro h2
    obtain ⟨l, v, h3, hr, hv, hmen⟩ := ret_ok hΓ hst' _ h2
    obtain ⟨hs, pre, nd, hlen, hnin, hlv, hnf, hB, hconv⟩ := h3
    have hpre : ∀ i, i < Hin.length → hs[i]? = some i := fun i hi => by
      have hp : (hs.take Hin.length)[i]? = some i := by rw [pre, List.getElem?_range hi]
      rwa [List.getElem?_take_of_lt hi] at hp
    have hgd : ∀ i, i < hs.length → hs[i]? = some (hs.getD i 0) := fun i hi => by simp [List.getD, List.getElem?_eq_getElem hi]
    have hback : ∀ h : Hd, h.key < Hin.length → backH hs h = h := fun h hh => by
      have e : hs.getD h.key 0 = h.key := by simp [List.getD, hpre h.key hh]
      cases h with
      | t i => simp only [Hd.key] at e; simp only [backH, e]
      | r i k => simp only [Hd.key] at e; simp only [backH, e]
    have notkeep : ∀ b, b < w.heap.size → ¬ E.Keep b → ∃ h, (look Hin h).live ∧ (β h).1 = some b := fun b h1 h2 => by
      apply Classical.byContradiction
      intro hc
      exact h2 ⟨h1, fun h h3 h4 => hc ⟨h, h3, h4⟩⟩
    have hout : ∀ i : Hd, look Hout i ≠ .free → i.key < hs.length := fun i hl => by rw [hlen]; exact look_lt hl
    have hblk : ∀ i : Hd, i.key < hs.length → Own w' (FBof noBor (Frozen F1 β1 hs H')) (fun i => β1 (backH hs i)) i (look Hout i) ∧ (∀ k, (look Hout i).men k → k.key < hs.length ∧ (look H' (backH hs i)).men (backH hs k)) ∧ ((look Hout i).live → (look H' (backH hs i)).live) ∧ (look H' (backH hs i) ≠ .free → look Hout i ≠ .free) := fun i hi => by
      have hi' : i.key < Hout.length := by omega
      have e : Hout.getD i.key .free = Hout[i.key] := by simp [List.getD, List.getElem?_eq_getElem hi']
      have := (hB i.key _ _ (hgd i.key hi) (List.getElem?_eq_getElem hi')).ok hst' (hgd i.key hi)
      obtain ⟨⟨t1, t2, t3, t4, t5⟩, hr⟩ := this
      cases i with
      | t i =>
        simp only [Hd.key] at e t1 t2 t3 t4 t5
        have el : look Hout (.t i) = (Hout[i]'hi').top := by simp only [look, e]; rfl
        rw [el]
        exact ⟨t1, t2, t3, fun _ => Blk.top_free t4⟩
      | r i k =>
        simp only [Hd.key] at e hr
        have el : look Hout (.r i k) = (Hout[i]'hi').row k := by simp only [look, e]; rfl
        rw [el]
        obtain ⟨r1, r2⟩ := hr k
        have r2' : (Hout[i]'hi').row k = look H' (.r (hs.getD i 0) k) := r2
        exact ⟨r1, fun j hj => (Blk.row_nomen _ _ _ hj).elim, fun hl => (show (look H' (.r (hs.getD i 0) k)).live from r2' ▸ hl), fun hne => r2' ▸ hne⟩
    refine ⟨hst'.defers, v, hr, v, Frozen F1 β1 hs H', fun i => β1 (backH hs i), rfl, ?_⟩
    have nfout : ∀ k : Hd, k.key < hs.length → look H' (backH hs k) ≠ .free → look Hout k ≠ .free := fun k hk => (hblk k hk).2.2.2
    exact {
      os := hst'.os, tape := hst'.tape, output := hst'.output, size := hst'.size
      same := fun b h1 h2 => hst'.keep b ⟨h1, h2⟩
      flt := fun b hb => by
        rcases hb with hb | ⟨h, _, h2, h3⟩
        · exact hst'.flt b hb
        · exact (hst'.own h b h2 h3).2.2
      fold := fun b hb hlt => by
        rcases hb with hb | ⟨h, h1, h2, h3⟩
        · exact hst'.fold b hb hlt
        · exfalso
          obtain ⟨h0, g1, g2⟩ := notkeep b hlt (hst'.own h b h2 h3).2.1
          have hi := look_lt (Blk.live_ne g1)
          have hb0 : β1 h0 = β h0 := (hst'.bin h0 (Blk.live_ne g1)).1
          have : h = h0 := hst'.dis h h0 b h2 (hlv h0 g1) h3 (by rw [hb0]; exact g2)
          subst this
          exact h1 (List.mem_of_getElem? (hpre h.key hi))
      fsub := fun b hb => .inl (hst'.fs0 b hb)
      bsame := fun h hl => by
        show β1 (backH hs h) = β h
        rw [hback h (look_lt hl)]; exact (hst'.bin h hl).1
      rel := hconv.ok hst' hv
      blks := fun i => by
        rcases Nat.lt_or_ge i.key hs.length with hi | hi
        · exact (hblk i hi).1
        · rw [look_ge (by omega)]; trivial
      own := fun i b h1 h2 => by
        have hi := hout i (Blk.live_ne h1)
        have o := hst'.own _ b ((hblk i hi).2.2.1 h1) h2
        refine ⟨fun hb => ?_, o.2.2, fun hlt => notkeep b hlt o.2.1⟩
        rcases hb with hb | ⟨h, g1, g2, g3⟩
        · exact o.1 hb
        · have : h = backH hs i := hst'.dis _ _ b g2 ((hblk i hi).2.2.1 h1) g3 h2
          rw [this, backH_key] at g1
          exact g1 (List.mem_of_getElem? (hgd i.key hi))
      dis := fun i j b h1 h2 h3 h4 => by
        have hi := hout i (Blk.live_ne h1)
        have hj := hout j (Blk.live_ne h2)
        have := hst'.dis _ _ b ((hblk i hi).2.2.1 h1) ((hblk j hj).2.2.1 h2) h3 h4
        have inj : ∀ p q, p < hs.length → q < hs.length → hs.getD p 0 = hs.getD q 0 → p = q := fun p q hp hq e => by
          have e1 := hgd p hp
          rw [e] at e1
          exact (List.getElem?_inj hp nd).1 (e1.trans (hgd q hq).symm)
        cases i <;> cases j <;> simp only [backH, Hd.t.injEq, Hd.r.injEq, reduceCtorEq] at this
        · exact congrArg Hd.t (inj _ _ hi hj this)
        · exact (congrArg (fun q => Hd.r q _) (inj _ _ hi hj this.1)).trans (congrArg (Hd.r _) this.2)
      mr := fun k hk => by
        obtain ⟨hkl, hm⟩ := hconv.men k hk
        refine nfout k hkl ?_
        exact hmen _ hm
      mb := fun i k hk => by
        have hif : look Hout i ≠ .free := fun e => by rw [e] at hk; exact hk.elim
        obtain ⟨hkl, hm⟩ := (hblk i (hout i hif)).2.1 k hk
        exact nfout k hkl (hst'.mb _ _ hm)
      nf := fun h hh => by
        have hi := look_lt hh
        refine nfout h (by omega) ?_
        rw [hback h hi]; exact hnf h hh }
  cases e' with
  | normal => cases e <;> first | exact h1.elim | exact fin h2
  | ret => cases e <;> first | exact h1.elim | exact fin h2
  | exit i => exact h2.elim
end
end Go.Proofs.Ytkaooejeljdbnaa
