/- The abstract machine's states: values as trees, owned blocks, and how they lie in the model's memory. -/
import Derived.Test.YtkaooejeljdbnaaProg
import Derived.Calls
import Derived.WalkKit
namespace Go.Proofs.Ytkaooejeljdbnaa
open Go

/-- Values that are read alone: trees. 'sl m W es': a slice of elements that are W cells wide each (m: lent for a call). 'pel': a pointer to what is read alone. -/
inductive PV where
  | int (k : IntKind) (n : Int)
  | bool (b : Bool)
  | agg (cs : List PV)
  | sl (m : Bool) (W : Nat) (es : List PV)
  | pel (m : Bool) (e : PV)
  | fn (f : FuncId) (caps : List PV)
  | mp (m : Bool) (es : List (PV × PV))
  | raw (v : Value)
  deriving Inhabited

def PV.cells : PV → List PV
  | .agg cs => cs
  | v => [v]

/-- It takes one cell. -/
def PV.one : PV → Bool
  | .agg _ => false
  | _ => true

theorem PV.cells_one {v : PV} (h : v.one = true) : v.cells = [v] := by
  cases v <;> first | rfl | exact Bool.noConfusion h

/-- How a tree lies in a world: 'FB m' are the blocks that may be read (m: lent ones). -/
inductive PR (w : World) (FB : Bool → Nat → Prop) : PV → Value → Prop where
  | int (k : IntKind) (n : Int) : PR w FB (.int k n) (.int k n)
  | bool (b : Bool) : PR w FB (.bool b) (.bool b)
  | agg (cs : List PV) (vs : Array Value) (hone : ∀ c ∈ cs, c.one = true) (hl : vs.size = cs.length) (h : ∀ (i : Nat) c v, cs[i]? = some c → vs[i]? = some v → PR w FB c v) : PR w FB (.agg cs) (.agg vs)
  | nil (m : Bool) (W : Nat) (ad : Option Addr) : PR w FB (.sl m W []) (.slice ad 0 0)
  | sl (m : Bool) (W : Nat) (es : List PV) (b off cap : Nat) (vals : Nat → Nat → Value) (hc : es.length ≤ cap) (hb : es ≠ [] → FB m b) (hW : ∀ e ∈ es, e.cells.length = W) (hone : ∀ e ∈ es, ∀ c ∈ e.cells, c.one = true)
      (hv : ∀ (i : Nat) e (j : Nat) c, es[i]? = some e → e.cells[j]? = some c → w.cell? ⟨b, off + i * W + j, none⟩ = some (vals i j))
      (hr : ∀ (i : Nat) e (j : Nat) c, es[i]? = some e → e.cells[j]? = some c → PR w FB c (vals i j)) : PR w FB (.sl m W es) (.slice (some ⟨b, off, none⟩) es.length cap)
  | pel (m : Bool) (e : PV) (b off : Nat) (vals : Nat → Value) (hb : FB m b) (hone : ∀ c ∈ e.cells, c.one = true) (hv : ∀ (j : Nat) c, e.cells[j]? = some c → w.cell? ⟨b, off + j, none⟩ = some (vals j))
      (hr : ∀ (j : Nat) c, e.cells[j]? = some c → PR w FB c (vals j)) : PR w FB (.pel m e) (.pointer (some ⟨b, off, none⟩))
  | fn (f : FuncId) (caps : List PV) (vs : Array Value) (hl : vs.size = caps.length) (h : ∀ (i : Nat) c v, caps[i]? = some c → vs[i]? = some v → PR w FB c v) : PR w FB (.fn f caps) (.func (.func f) #[] vs)
  | mp (m : Bool) (es : List (PV × PV)) (b clock : Nat) (en : Array MapEntry) (hb : FB m b) (hm : w.heap[b]? = some (.map en clock)) (hl : en.size = es.length)
      (hk : ∀ (i : Nat) (x : PV × PV) (e : MapEntry), es[i]? = some x → en[i]? = some e → PR w FB x.1 e.key)
      (hv : ∀ (i : Nat) (x : PV × PV) (e : MapEntry), es[i]? = some x → en[i]? = some e → PR w FB x.2 e.val)
      (hbo : ∀ (i : Nat) (e : MapEntry), en[i]? = some e → e.born < clock) (hd : ∀ (i j : Nat) (e e' : MapEntry), en[i]? = some e → en[j]? = some e' → e.born = e'.born → i = j) : PR w FB (.mp m es) (.map (some b))
  | raw (v : Value) (h : v.oneCell' = true) : PR w FB (.raw v) v

theorem PR.mono {w w' : World} {FB FB' : Bool → Nat → Prop} (hF : ∀ m b, FB m b → FB' m b) (hh : ∀ m b, FB m b → w'.heap[b]? = w.heap[b]?) {p : PV} {v : Value} (h : PR w FB p v) : PR w' FB' p v := by
  have cell : ∀ m b o, FB m b → w'.cell? ⟨b, o, none⟩ = w.cell? ⟨b, o, none⟩ := fun m b o h => by simp only [World.cell?, hh m b h]
  induction h with
  | int k n => exact .int k n
  | bool b => exact .bool b
  | agg cs vs hone hl _ ih => exact .agg cs vs hone hl ih
  | nil m W ad => exact .nil m W ad
  | sl m W es b off cap vals hc hb hW hone hv _ ih =>
    refine .sl m W es b off cap vals hc (fun h => hF m b (hb h)) hW hone (fun i e j c h1 h2 => ?_) ih
    rw [cell m b _ (hb (by intro h; rw [h] at h1; simp at h1))]; exact hv i e j c h1 h2
  | pel m e b off vals hb hone hv _ ih => exact .pel m e b off vals (hF m b hb) hone (fun j c h => by rw [cell m b _ hb]; exact hv j c h) ih
  | fn f caps vs hl _ ih => exact .fn f caps vs hl ih
  | mp m es b clock en hb hm hl _ _ hbo hd ihk ihv => exact .mp m es b clock en (hF m b hb) (by rw [hh m b hb]; exact hm) hl ihk ihv hbo hd
  | raw v h => exact .raw v h

/-- A tree in which nothing is lent. -/
inductive Pers : PV → Prop where
  | int (k n) : Pers (.int k n)
  | bool (b) : Pers (.bool b)
  | agg (cs : List PV) (h : ∀ c ∈ cs, Pers c) : Pers (.agg cs)
  | sl (W : Nat) (es : List PV) (h : ∀ e ∈ es, ∀ c ∈ e.cells, Pers c) : Pers (.sl false W es)
  | pel (e : PV) (h : ∀ c ∈ e.cells, Pers c) : Pers (.pel false e)
  | fn (f caps) (h : ∀ c ∈ caps, Pers c) : Pers (.fn f caps)
  | mp (es : List (PV × PV)) (h : ∀ e ∈ es, Pers e.1) (h' : ∀ e ∈ es, Pers e.2) : Pers (.mp false es)
  | raw (v) : Pers (.raw v)

def onlyF (FB : Bool → Nat → Prop) : Bool → Nat → Prop := fun m b => m = false ∧ FB false b

theorem PR.pers {w : World} {FB : Bool → Nat → Prop} {p : PV} (hp : Pers p) : ∀ {v : Value}, PR w FB p v → PR w (onlyF FB) p v := by
  induction hp with
  | int k n => intro v h; cases h; exact .int k n
  | bool b => intro v h; cases h; exact .bool b
  | agg cs _ ih => intro v h; cases h with | agg _ vs hone hl h => exact .agg cs vs hone hl fun i c v h1 h2 => ih c (List.mem_of_getElem? h1) (h i c v h1 h2)
  | sl W es _ ih =>
    intro v h
    cases h with
    | nil => exact .nil _ _ _
    | sl _ _ _ b off cap vals hc hb hW hone hv hr => exact .sl _ _ _ b off cap vals hc (fun h => ⟨rfl, hb h⟩) hW hone hv fun i e j c h1 h2 => ih e (List.mem_of_getElem? h1) c (List.mem_of_getElem? h2) (hr i e j c h1 h2)
  | pel e _ ih => intro v h; cases h with | pel _ _ b off vals hb hone hv hr => exact .pel _ _ b off vals ⟨rfl, hb⟩ hone hv fun j c h => ih c (List.mem_of_getElem? h) (hr j c h)
  | fn f caps _ ih => intro v h; cases h with | fn _ _ vs hl h => exact .fn f caps vs hl fun i c v h1 h2 => ih c (List.mem_of_getElem? h1) (h i c v h1 h2)
  | mp es _ _ ih1 ih2 =>
    intro v h
    cases h with
    | mp _ _ b clock en hb hm hl hk hv hbo hd => exact .mp _ _ b clock en ⟨rfl, hb⟩ hm hl (fun i x e h1 h2 => ih1 x (List.mem_of_getElem? h1) (hk i x e h1 h2)) (fun i x e h1 h2 => ih2 x (List.mem_of_getElem? h1) (hv i x e h1 h2)) hbo hd
  | raw v => intro x h; cases h with | raw _ h => exact .raw v h

/-- A handle: the call's own block at a place, or a row of the pool at a place. -/
inductive Hd where
  | t (n : Nat)
  | r (n k : Nat)
  deriving DecidableEq, Inhabited
instance (n : Nat) : OfNat Hd n := ⟨.t n⟩
instance : Coe Nat Hd := ⟨.t⟩
def Hd.key : Hd → Nat
  | .t n => n
  | .r n _ => n

/-- What a slot holds: a tree, or something of a block of the call's own (by the block's handle). -/
inductive AV where
  | any
  | undef
  | tf (b : Bool)
  | emp
  | p (v : PV)
  | bptr (h : Hd) (off : Nat)
  | eptr (h : Hd) (W i off : Nat)
  | vec (h : Hd) (W off len : Nat)
  | map (h : Hd)
  | agg (cs : List AV)
  | tup (cs : List AV)
  | fn (f : FuncId) (first caps : List AV)
  deriving Inhabited

/-- It takes one cell. -/
def AV.one : AV → Bool
  | .p v => v.one
  | .any | .undef | .agg _ | .tup _ => false
  | _ => true

inductive VR (w : World) (FB : Bool → Nat → Prop) (β : Hd → Option Nat × Nat) : AV → Value → Prop where
  | any (v : Value) : VR w FB β .any v
  | undef : VR w FB β .undef (.tuple #[])
  | tf (b : Bool) : VR w FB β (.tf b) (.bool b)
  | empn : VR w FB β .emp (.slice none 0 0)
  | emp (b off : Nat) : VR w FB β .emp (.slice (some ⟨b, off, none⟩) 0 0)
  | p {v : PV} {x : Value} (h : PR w FB v x) : VR w FB β (.p v) x
  | bptr {h : Hd} {off b : Nat} (hb : (β h).1 = some b) : VR w FB β (.bptr h off) (.pointer (some ⟨b, off, none⟩))
  | eptr {h : Hd} {W i off b : Nat} (hb : (β h).1 = some b) : VR w FB β (.eptr h W i off) (.pointer (some ⟨b, i * W + off, none⟩))
  | vec {h : Hd} {W off len b o c : Nat} (hb : (β h).1 = some b) (hc : len ≤ c) (hm : off + c ≤ (β h).2) (ho : c ≠ 0 → o = off * W) : VR w FB β (.vec h W off len) (.slice (some ⟨b, o, none⟩) len c)
  | vecn {h : Hd} {W : Nat} (a : Option Addr) (ha : ∀ x, a = some x → x.spot = none) (hb : (β h).1 = none) : VR w FB β (.vec h W 0 0) (.slice a 0 0)
  | map {h : Hd} {b : Nat} (hb : (β h).1 = some b) : VR w FB β (.map h) (.map (some b))
  | agg (cs : List AV) (vs : Array Value) (hone : ∀ c ∈ cs, c.one = true) (hl : vs.size = cs.length) (h : ∀ (i : Nat) c v, cs[i]? = some c → vs[i]? = some v → VR w FB β c v) : VR w FB β (.agg cs) (.agg vs)
  | tup (cs : List AV) (vs : Array Value) (hl : vs.size = cs.length) (h : ∀ (i : Nat) c v, cs[i]? = some c → vs[i]? = some v → VR w FB β c v) : VR w FB β (.tup cs) (.tuple vs)
  | fn (f : FuncId) (first caps : List AV) (fs vs : Array Value) (hfl : fs.size = first.length) (hf : ∀ (i : Nat) c v, first[i]? = some c → fs[i]? = some v → VR w FB β c v)
      (hl : vs.size = caps.length) (h : ∀ (i : Nat) c v, caps[i]? = some c → vs[i]? = some v → VR w FB β c v) : VR w FB β (.fn f first caps) (.func (.func f) fs vs)

mutual
/-- The handles that a slot's value names. -/
def AV.men : AV → Hd → Prop
  | .bptr h _, k | .eptr h _ _ _, k | .vec h _ _ _, k | .map h, k => h = k
  | .agg cs, k | .tup cs, k => AV.menL cs k
  | .fn _ first caps, k => AV.menL first k ∨ AV.menL caps k
  | _, _ => False
def AV.menL : List AV → Hd → Prop
  | [], _ => False
  | c :: cs, k => c.men k ∨ AV.menL cs k
end

theorem AV.menL_mem {cs : List AV} {c : AV} {k : Hd} (h : c ∈ cs) (hk : c.men k) : AV.menL cs k := by
  induction cs with
  | nil => cases h
  | cons x xs ih =>
    simp only [AV.menL]
    cases h with
    | head => exact .inl hk
    | tail _ h => exact .inr (ih h)

theorem VR.mono {w w' : World} {FB FB' : Bool → Nat → Prop} {β β' : Hd → Option Nat × Nat} (hF : ∀ m b, FB m b → FB' m b) (hh : ∀ m b, FB m b → w'.heap[b]? = w.heap[b]?)
    {p : AV} {v : Value} (h : VR w FB β p v) : (∀ k, p.men k → β' k = β k) → VR w' FB' β' p v := by
  induction h with
  | any v => exact fun _ => .any v
  | undef => exact fun _ => .undef
  | tf b => exact fun _ => .tf b
  | empn => exact fun _ => .empn
  | emp b off => exact fun _ => .emp b off
  | p h => exact fun _ => .p (h.mono hF hh)
  | bptr hb => exact fun H => .bptr (by rw [H _ rfl]; exact hb)
  | eptr hb => exact fun H => .eptr (by rw [H _ rfl]; exact hb)
  | @vec h W off len b o c hb hc hm ho => intro H; have := H h rfl; rw [← this] at hb hm; exact .vec hb hc hm ho
  | vecn a ha hb => exact fun H => .vecn a ha (by rw [H _ rfl]; exact hb)
  | map hb => exact fun H => .map (by rw [H _ rfl]; exact hb)
  | agg cs vs hone hl _ ih => exact fun H => .agg cs vs hone hl fun i c v h1 h2 => ih i c v h1 h2 fun k hk => H k (by simp only [AV.men]; exact AV.menL_mem (List.mem_of_getElem? h1) hk)
  | tup cs vs hl _ ih => exact fun H => .tup cs vs hl fun i c v h1 h2 => ih i c v h1 h2 fun k hk => H k (by simp only [AV.men]; exact AV.menL_mem (List.mem_of_getElem? h1) hk)
  | fn f first caps fs vs hfl _ hl _ ih1 ih2 =>
    exact fun H => .fn f first caps fs vs hfl (fun i c v h1 h2 => ih1 i c v h1 h2 fun k hk => H k (by simp only [AV.men]; exact .inl (AV.menL_mem (List.mem_of_getElem? h1) hk))) hl
      (fun i c v h1 h2 => ih2 i c v h1 h2 fun k hk => H k (by simp only [AV.men]; exact .inr (AV.menL_mem (List.mem_of_getElem? h1) hk)))

/-- A block of the call's own. 'free': not made yet. 'dead': given away. -/
inductive Blk where
  | free
  | dead
  | box (T : TypeId) (cs : List AV)
  | vec (T : TypeId) (W : Nat) (es : List PV)
  | map (es : List (PV × PV))
  | rows (T : TypeId) (cs : List AV)
  | pool (T : TypeId) (W : Nat) (rows : List (Option (List PV)))
  | iter (m : Bool) (es : List (PV × PV)) (seen : List Nat)
  deriving Inhabited

def Blk.live : Blk → Prop
  | .free | .dead | .pool _ _ _ => False
  | _ => True

def Blk.men : Blk → Hd → Prop
  | .box _ cs, k => AV.menL cs k
  | .rows _ cs, k => AV.menL cs k
  | _, _ => False

def Own (w : World) (FB : Bool → Nat → Prop) (β : Hd → Option Nat × Nat) (h : Hd) : Blk → Prop
  | .free | .dead | .pool _ _ _ => True
  | .box T cs => (∀ c ∈ cs, c.one = true) ∧ ∃ b arr, (β h).1 = some b ∧ w.heap[b]? = some (.cells arr T (0, 0)) ∧ arr.size = cs.length ∧ ∀ (i : Nat) c v, cs[i]? = some c → arr[i]? = some v → VR w FB β c v
  | .vec T W es => (∀ e ∈ es, e.cells.length = W ∧ ∀ c ∈ e.cells, c.one = true) ∧ es.length ≤ (β h).2 ∧ (((β h).1 = none ∧ (β h).2 = 0) ∨ ∃ b arr, (β h).1 = some b ∧ w.heap[b]? = some (.cells arr T (0, 0)) ∧ arr.size = (β h).2 * W ∧
      ∀ (i : Nat) e (j : Nat) c v, es[i]? = some e → e.cells[j]? = some c → arr[i * W + j]? = some v → PR w FB c v)
  | .map es => ∃ b en clock, (β h).1 = some b ∧ w.heap[b]? = some (.map en clock) ∧ en.size = es.length ∧
      (∀ (i : Nat) (x : PV × PV) (e : MapEntry), es[i]? = some x → en[i]? = some e → PR w FB x.1 e.key ∧ PR w FB x.2 e.val) ∧
      (∀ (i : Nat) (e : MapEntry), en[i]? = some e → e.born < clock) ∧ (∀ (i j : Nat) (e e' : MapEntry), en[i]? = some e → en[j]? = some e' → e.born = e'.born → i = j)
  | .rows T cs => (∀ c ∈ cs, c.one = true) ∧ cs.length ≤ (β h).2 ∧ (((β h).1 = none ∧ (β h).2 = 0) ∨ ∃ b arr, (β h).1 = some b ∧ w.heap[b]? = some (.cells arr T (0, 0)) ∧ arr.size = (β h).2 ∧ ∀ (i : Nat) c v, cs[i]? = some c → arr[i]? = some v → VR w FB β c v)

  | .iter m es seen => ∃ b mb en clock sb, (β h).1 = some b ∧ w.heap[b]? = some (.mapIter (some mb) clock sb clock) ∧ FB m mb ∧ w.heap[mb]? = some (.map en clock) ∧ en.size = es.length ∧
      (∀ (i : Nat) (x : PV × PV) (e : MapEntry), es[i]? = some x → en[i]? = some e → PR w FB x.1 e.key ∧ PR w FB x.2 e.val) ∧
      (∀ (i : Nat) (e : MapEntry), en[i]? = some e → e.born < clock) ∧ (∀ (i j : Nat) (e e' : MapEntry), en[i]? = some e → en[j]? = some e' → e.born = e'.born → i = j) ∧
      (∀ (i : Nat) (e : MapEntry), en[i]? = some e → (sb.contains e.born = true ↔ i ∈ seen))

theorem Own.mono {w w' : World} {FB FB' : Bool → Nat → Prop} {β β' : Hd → Option Nat × Nat} (hF : ∀ m b, FB m b → FB' m b) (hh : ∀ m b, FB m b → w'.heap[b]? = w.heap[b]?)
    {h : Hd} {B : Blk} (ho : Own w FB β h B) (hβ : B.live → β' h = β h) (hm : ∀ k, B.men k → β' k = β k) (hb : B.live → ∀ b, (β h).1 = some b → w'.heap[b]? = w.heap[b]?) : Own w' FB' β' h B := by
  cases B with
  | free => trivial
  | dead => trivial
  | pool T W rows => trivial
  | box T cs =>
    obtain ⟨h0, b, arr, h1, h2, h3, h4⟩ := ho
    exact ⟨h0, b, arr, by rw [hβ trivial]; exact h1, by rw [hb trivial b h1]; exact h2, h3, fun i c v e1 e2 => (h4 i c v e1 e2).mono hF hh fun k hk => hm k (AV.menL_mem (List.mem_of_getElem? e1) hk)⟩
  | vec T W es =>
    obtain ⟨h1, h2, h3⟩ := ho
    have e := hβ trivial
    refine ⟨h1, by rw [e]; exact h2, ?_⟩
    rcases h3 with h3 | ⟨b, arr, g1, g2, g3, g4⟩
    · exact .inl (by rw [e]; exact h3)
    · exact .inr ⟨b, arr, by rw [e]; exact g1, by rw [hb trivial b g1]; exact g2, by rw [e]; exact g3, fun i e j c v e1 e2 e3 => (g4 i e j c v e1 e2 e3).mono hF hh⟩
  | map es =>
    obtain ⟨b, en, clock, h1, h2, h3, h4, h5, h6⟩ := ho
    exact ⟨b, en, clock, by rw [hβ trivial]; exact h1, by rw [hb trivial b h1]; exact h2, h3, fun i x e e1 e2 => ⟨(h4 i x e e1 e2).1.mono hF hh, (h4 i x e e1 e2).2.mono hF hh⟩, h5, h6⟩
  | rows T cs =>
    obtain ⟨h1, h2, h3⟩ := ho
    have e := hβ trivial
    refine ⟨h1, by rw [e]; exact h2, ?_⟩
    rcases h3 with h3 | ⟨b, arr, g1, g2, g3, g4⟩
    · exact .inl (by rw [e]; exact h3)
    · exact .inr ⟨b, arr, by rw [e]; exact g1, by rw [hb trivial b g1]; exact g2, by rw [e]; exact g3, fun i c v e1 e2 => (g4 i c v e1 e2).mono hF hh fun k hk => hm k (AV.menL_mem (List.mem_of_getElem? e1) hk)⟩
  | iter m es seen =>
    obtain ⟨b, mb, en, clock, sb, h1, h2, h3, h4, h5, h6, h7, h8, h9⟩ := ho
    exact ⟨b, mb, en, clock, sb, by rw [hβ trivial]; exact h1, by rw [hb trivial b h1]; exact h2, hF m mb h3, by rw [hh m mb h3]; exact h4, h5, fun i x e e1 e2 => ⟨(h6 i x e e1 e2).1.mono hF hh, (h6 i x e e1 e2).2.mono hF hh⟩, h7, h8, h9⟩

/-- In which world a call began; which of its blocks must stay, which are lent, which are read alone. -/
structure Env where
  w0 : World
  Keep : Nat → Prop
  Bor : Nat → Prop
  F0 : Nat → Prop
  In : Hd → Prop
  β0 : Hd → Option Nat × Nat

def FBof (B F : Nat → Prop) : Bool → Nat → Prop
  | true => B
  | false => F

structure StI (E : Env) (n : Nat) (s : Nat → AV) (L : Hd → Blk) (a : Act) (w : World) (F : Nat → Prop) (β : Hd → Option Nat × Nat) : Prop where
  os : w.os = E.w0.os
  tape : w.tape = E.w0.tape
  output : w.output = E.w0.output
  size : E.w0.heap.size ≤ w.heap.size
  keep : ∀ b, E.Keep b → w.heap[b]? = E.w0.heap[b]?
  keeplt : ∀ b, E.Keep b → b < E.w0.heap.size
  bor : ∀ b, E.Bor b → E.Keep b
  flt : ∀ b, F b → b < w.heap.size
  fold : ∀ b, F b → b < E.w0.heap.size → E.F0 b
  own : ∀ h b, (L h).live → (β h).1 = some b → ¬ F b ∧ ¬ E.Keep b ∧ b < w.heap.size
  dis : ∀ h h' b, (L h).live → (L h').live → (β h).1 = some b → (β h').1 = some b → h = h'
  len : a.tmps.size = n
  slots : ∀ t, VR w (FBof E.Bor F) β (s t) (a.tmps.getD t Go.undef)
  blks : ∀ h, Own w (FBof E.Bor F) β h (L h)
  ms : ∀ t h, (s t).men h → L h ≠ .free
  mb : ∀ k h, (L k).men h → L h ≠ .free
  defers : a.defers = []
  bin : ∀ i, E.In i → β i = E.β0 i ∧ L i ≠ .free
  fs0 : ∀ b, E.F0 b → F b

/-- The abstract state (slots s, blocks L) is the machine's. -/
def St (E : Env) (n : Nat) (s : Nat → AV) (L : Hd → Blk) (a : Act) (w : World) : Prop := ∃ F β, StI E n s L a w F β

def upd {ι α : Type} [DecidableEq ι] (f : ι → α) (t : ι) (v : α) : ι → α := fun i => if i = t then v else f i
theorem upd_same {ι α : Type} [DecidableEq ι] (f : ι → α) (t : ι) (v : α) : upd f t v t = v := if_pos rfl
theorem upd_other {ι α : Type} [DecidableEq ι] (f : ι → α) {t i : ι} (v : α) (h : i ≠ t) : upd f t v i = f i := if_neg h

theorem St.men_upd {s : Nat → AV} {L : Hd → Blk} (h : ∀ t k, (s t).men k → L k ≠ .free) {d : Nat} {v : AV} (hv : ∀ k, v.men k → L k ≠ .free) : ∀ t k, (upd s d v t).men k → L k ≠ .free := by
  intro t k hk
  unfold upd at hk
  split at hk
  · exact hv k hk
  · exact h t k hk

theorem getD_set_self (xs : Array Value) (d : Nat) (x u : Value) (h : d < xs.size) : (xs.setIfInBounds d x).getD d u = x := by
  simp [Array.getD, h]
theorem getD_set_other (xs : Array Value) (d t : Nat) (x u : Value) (h : t ≠ d) : (xs.setIfInBounds d x).getD t u = xs.getD t u := by
  simp only [Array.getD, Array.size_setIfInBounds, Array.getInternal_eq_getElem]
  split
  · exact Array.getElem_setIfInBounds_ne (by assumption) (by omega)
  · rfl

theorem StI.put {E : Env} {n : Nat} {s : Nat → AV} {L : Hd → Blk} {a : Act} {w : World} {F : Nat → Prop} {β : Hd → Option Nat × Nat} (h : StI E n s L a w F β)
    {d : Nat} (hd : d < n) {v : AV} {x : Value} (hv : VR w (FBof E.Bor F) β v x) (hm : ∀ k, v.men k → L k ≠ .free) : StI E n (upd s d v) L (a.put (some d) x) w F β :=
  { h with
    len := by simp [Act.put, h.len]
    slots := by
      intro t
      unfold upd Act.put
      by_cases e : t = d
      · subst e; simp only [if_true]; rw [getD_set_self _ _ _ _ (by rw [h.len]; exact hd)]; exact hv
      · rw [if_neg e]; simp only []; rw [getD_set_other _ _ _ _ _ e]; exact h.slots t
    ms := St.men_upd h.ms hm
    defers := h.defers }

/-- A step of the world, the slots as they are. -/
theorem StI.step {E : Env} {n : Nat} {s : Nat → AV} {L L' : Hd → Blk} {a : Act} {w w' : World} {F F' : Nat → Prop} {β β' : Hd → Option Nat × Nat} (h : StI E n s L a w F β)
    (hos : w'.os = w.os) (htape : w'.tape = w.tape) (hout : w'.output = w.output) (hsz : w.heap.size ≤ w'.heap.size)
    (hF : ∀ b, F b → F' b) (hFlt : ∀ b, F' b → b < w'.heap.size) (hfold : ∀ b, F' b → b < E.w0.heap.size → E.F0 b)
    (hkeep : ∀ b, E.Keep b → w'.heap[b]? = w.heap[b]?) (hsame : ∀ b, F b → w'.heap[b]? = w.heap[b]?)
    (hβ : ∀ k, L k ≠ .free → β' k = β k) (hLf : ∀ k, L k ≠ .free → L' k ≠ .free)
    (hblk : ∀ k, (L' k = L k ∧ ((L k).live → ∀ b, (β k).1 = some b → w'.heap[b]? = w.heap[b]?)) ∨ (Own w' (FBof E.Bor F') β' k (L' k) ∧ ∀ j, (L' k).men j → L' j ≠ .free))
    (hown : ∀ k b, (L' k).live → (β' k).1 = some b → ¬ F' b ∧ ¬ E.Keep b ∧ b < w'.heap.size)
    (hdis : ∀ k k' b, (L' k).live → (L' k').live → (β' k).1 = some b → (β' k').1 = some b → k = k') : StI E n s L' a w' F' β' := by
  have hFB : ∀ m b, FBof E.Bor F m b → FBof E.Bor F' m b := by intro m b; cases m; exact hF b; exact id
  have hFs : ∀ m b, FBof E.Bor F m b → w'.heap[b]? = w.heap[b]? := by intro m b hb; cases m; exact hsame b hb; exact hkeep b (h.bor b hb)
  exact {
    os := hos.trans h.os, tape := htape.trans h.tape, output := hout.trans h.output, size := Nat.le_trans h.size hsz
    keep := fun b hb => (hkeep b hb).trans (h.keep b hb), keeplt := h.keeplt, bor := h.bor, flt := hFlt, fold := hfold, own := hown, dis := hdis, len := h.len
    slots := fun t => (h.slots t).mono hFB hFs fun k hk => hβ k (h.ms t k hk)
    blks := by
      intro k
      rcases hblk k with ⟨e, hb⟩ | ⟨ho, _⟩
      · rw [e]
        refine (h.blks k).mono hFB hFs (fun hl => hβ k (by intro e'; rw [e'] at hl; exact hl)) (fun j hj => hβ j (h.mb k j hj)) hb
      · exact ho
    ms := fun t k hk => hLf k (h.ms t k hk)
    mb := by
      intro k j hj
      rcases hblk k with ⟨e, _⟩ | ⟨_, hm⟩
      · rw [e] at hj; exact hLf j (h.mb k j hj)
      · exact hm j hj
    defers := h.defers
    bin := fun i hi => ⟨(hβ i (h.bin i hi).2).trans (h.bin i hi).1, hLf i (h.bin i hi).2⟩
    fs0 := fun b hb => hF b (h.fs0 b hb) }

theorem PR.oneCell {w FB} {p : PV} {v : Value} (h : PR w FB p v) (hp : p.one = true) : v.oneCell' = true := by
  cases h <;> first | rfl | assumption | exact Bool.noConfusion hp
theorem VR.oneCell {w FB β} {p : AV} {v : Value} (h : VR w FB β p v) (hp : p.one = true) : v.oneCell' = true := by
  cases h <;> first | rfl | (rename_i h; exact h.oneCell hp) | exact Bool.noConfusion hp
theorem oneCell_cells {v : Value} (h : v.oneCell' = true) : v.cells = #[v] := by
  cases v <;> first | rfl | exact Bool.noConfusion h

theorem Blk.live_ne {B : Blk} (h : B.live) : B ≠ .free := by intro e; rw [e] at h; exact h

/-- The world's heap as it was: draws, marks. -/
theorem StI.still {E : Env} {n : Nat} {s : Nat → AV} {L : Hd → Blk} {a : Act} {w w' : World} {F : Nat → Prop} {β : Hd → Option Nat × Nat} (h : StI E n s L a w F β)
    (hos : w'.os = w.os) (htape : w'.tape = w.tape) (hout : w'.output = w.output) (hh : w'.heap = w.heap) : StI E n s L a w' F β :=
  h.step hos htape hout (by rw [hh]; exact Nat.le_refl _) (fun _ => id) (by rw [hh]; exact h.flt) h.fold (fun _ _ => by rw [hh]) (fun _ _ => by rw [hh]) (fun _ _ => rfl) (fun _ => id)
    (fun _ => .inl ⟨rfl, fun _ _ _ => by rw [hh]⟩) (by rw [hh]; exact h.own) h.dis

/-- A new block that nobody names. -/
theorem StI.push {E : Env} {n : Nat} {s : Nat → AV} {L : Hd → Blk} {a : Act} {w w' : World} {F : Nat → Prop} {β : Hd → Option Nat × Nat} (h : StI E n s L a w F β) (o : Obj)
    (hos : w'.os = w.os) (htape : w'.tape = w.tape) (hout : w'.output = w.output) (hh : w'.heap = w.heap.push o) : StI E n s L a w' F β := by
  have key : ∀ b, b < w.heap.size → w'.heap[b]? = w.heap[b]? := fun b hb => by rw [hh, Array.getElem?_push, if_neg (by omega)]
  have hs : w'.heap.size = w.heap.size + 1 := by rw [hh]; simp
  have kl : ∀ b, E.Keep b → b < w.heap.size := fun b hb => Nat.lt_of_lt_of_le (h.keeplt b hb) h.size
  refine h.step hos htape hout (by omega) (fun _ => id) (fun b hb => by have := h.flt b hb; omega) h.fold (fun b hb => key b (kl b hb)) (fun b hb => key b (h.flt b hb)) (fun _ _ => rfl) (fun _ => id)
    (fun k => .inl ⟨rfl, fun hl b hb => key b (h.own k b hl hb).2.2⟩) (fun k b h1 h2 => ?_) h.dis
  have := h.own k b h1 h2
  exact ⟨this.1, this.2.1, by omega⟩

/-- A new block of the call's own. -/
theorem StI.alloc {E : Env} {n : Nat} {s : Nat → AV} {L : Hd → Blk} {a : Act} {w w' : World} {F : Nat → Prop} {β : Hd → Option Nat × Nat} (h : StI E n s L a w F β) (o : Obj) (B : Blk) (nh : Hd) (cap : Nat)
    (hos : w'.os = w.os) (htape : w'.tape = w.tape) (hout : w'.output = w.output) (hh : w'.heap = w.heap.push o) (hfree : L nh = .free)
    (hO : Own w' (FBof E.Bor F) (upd β nh (some w.heap.size, cap)) nh B) (hlive : B.live) (hmen : ∀ j, B.men j → L j ≠ .free) :
    StI E n s (upd L nh B) a w' F (upd β nh (some w.heap.size, cap)) := by
  have key : ∀ b, b < w.heap.size → w'.heap[b]? = w.heap[b]? := fun b hb => by rw [hh, Array.getElem?_push, if_neg (by omega)]
  have hs : w'.heap.size = w.heap.size + 1 := by rw [hh]; simp
  have kl : ∀ b, E.Keep b → b < w.heap.size := fun b hb => Nat.lt_of_lt_of_le (h.keeplt b hb) h.size
  have ne : ∀ k, L k ≠ .free → k ≠ nh := fun k hk e => hk (e ▸ hfree)
  have oldlt : ∀ k b, (L k).live → (β k).1 = some b → b < w.heap.size := fun k b h1 h2 => (h.own k b h1 h2).2.2
  refine h.step hos htape hout (by omega) (fun _ => id) (fun b hb => by have := h.flt b hb; omega) h.fold (fun b hb => key b (kl b hb)) (fun b hb => key b (h.flt b hb))
    (fun k hk => upd_other _ _ (ne k hk)) (fun k hk => by rw [upd_other _ _ (ne k hk)]; exact hk) (fun k => ?_) (fun k b h1 h2 => ?_) (fun k k' b h1 h2 h3 h4 => ?_)
  · by_cases e : k = nh
    · subst e; rw [upd_same]
      refine .inr ⟨hO, fun j hj => ?_⟩
      by_cases e' : j = k
      · subst e'; rw [upd_same]; exact Blk.live_ne hlive
      · rw [upd_other _ _ e']; exact hmen j hj
    · rw [upd_other _ _ e]; exact .inl ⟨rfl, fun hl b hb => key b (oldlt k b hl hb)⟩
  · by_cases e : k = nh
    · subst e; rw [upd_same] at h2; simp only [Option.some.injEq] at h2; subst h2
      exact ⟨fun hb => by have := h.flt _ hb; omega, fun hb => by have := kl _ hb; omega, by omega⟩
    · rw [upd_other _ _ e] at h1 h2
      have := h.own k b h1 h2
      exact ⟨this.1, this.2.1, by omega⟩
  · by_cases e : k = nh <;> by_cases e' : k' = nh
    · rw [e, e']
    · subst e; rw [upd_same] at h3; rw [upd_other _ _ e'] at h2 h4; simp only [Option.some.injEq] at h3; subst h3; have := oldlt k' _ h2 h4; omega
    · subst e'; rw [upd_same] at h4; rw [upd_other _ _ e] at h1 h3; simp only [Option.some.injEq] at h4; subst h4; have := oldlt k _ h1 h3; omega
    · rw [upd_other _ _ e] at h1 h3; rw [upd_other _ _ e'] at h2 h4; exact h.dis k k' b h1 h2 h3 h4

/-- One of the call's own blocks is written. -/
theorem StI.write {E : Env} {n : Nat} {s : Nat → AV} {L : Hd → Blk} {a : Act} {w w' : World} {F : Nat → Prop} {β : Hd → Option Nat × Nat} (h : StI E n s L a w F β) (B : Blk) (hd : Hd) {bk : Nat}
    (hos : w'.os = w.os) (htape : w'.tape = w.tape) (hout : w'.output = w.output) (hsz : w'.heap.size = w.heap.size) (hb : (β hd).1 = some bk) (hh : ∀ b, b ≠ bk → w'.heap[b]? = w.heap[b]?)
    (hl0 : (L hd).live) (hO : Own w' (FBof E.Bor F) β hd B) (hlive : B.live) (hmen : ∀ j, B.men j → L j ≠ .free) : StI E n s (upd L hd B) a w' F β := by
  have own := h.own hd bk hl0 hb
  have hL : ∀ k, (upd L hd B k).live → (L k).live := by
    intro k hk
    by_cases e : k = hd
    · subst e; exact hl0
    · rwa [upd_other _ _ e] at hk
  refine h.step hos htape hout (by omega) (fun _ => id) (fun b hb => by have := h.flt b hb; omega) h.fold (fun b hb => hh b (fun e => own.2.1 (e ▸ hb))) (fun b hb => hh b (fun e => own.1 (e ▸ hb))) (fun _ _ => rfl)
    (fun k hk => ?_) (fun k => ?_) (fun k b h1 h2 => ?_) (fun k k' b h1 h2 h3 h4 => h.dis k k' b (hL k h1) (hL k' h2) h3 h4)
  · by_cases e : k = hd
    · subst e; rw [upd_same]; exact Blk.live_ne hlive
    · rw [upd_other _ _ e]; exact hk
  · by_cases e : k = hd
    · subst e; rw [upd_same]
      refine .inr ⟨hO, fun j hj => ?_⟩
      by_cases e' : j = k
      · subst e'; rw [upd_same]; exact Blk.live_ne hlive
      · rw [upd_other _ _ e']; exact hmen j hj
    · rw [upd_other _ _ e]; exact .inl ⟨rfl, fun hl b hb => hh b (fun e' => e (h.dis k hd b hl hl0 hb (e' ▸ ‹(β hd).1 = some bk›)))⟩
  · have := h.own k b (hL k h1) h2
    exact ⟨this.1, this.2.1, by omega⟩

/-- A block of the call's own is no longer looked at. -/
theorem StI.kill {E : Env} {n : Nat} {s : Nat → AV} {L : Hd → Blk} {a : Act} {w : World} {F : Nat → Prop} {β : Hd → Option Nat × Nat} (h : StI E n s L a w F β) (hd : Hd) : StI E n s (upd L hd .dead) a w F β := by
  have hL : ∀ k, (upd L hd .dead k).live → (L k).live ∧ k ≠ hd := by
    intro k hk
    by_cases e : k = hd
    · subst e; rw [upd_same] at hk; exact hk.elim
    · rw [upd_other _ _ e] at hk; exact ⟨hk, e⟩
  refine h.step rfl rfl rfl (Nat.le_refl _) (fun _ => id) h.flt h.fold (fun _ _ => rfl) (fun _ _ => rfl) (fun _ _ => rfl) (fun k hk => ?_) (fun k => ?_) (fun k b h1 h2 => h.own k b (hL k h1).1 h2)
    (fun k k' b h1 h2 h3 h4 => h.dis k k' b (hL k h1).1 (hL k' h2).1 h3 h4)
  · by_cases e : k = hd
    · subst e; rw [upd_same]; exact fun e => by cases e
    · rw [upd_other _ _ e]; exact hk
  · by_cases e : k = hd
    · subst e; rw [upd_same]; exact .inr ⟨trivial, fun j hj => hj.elim⟩
    · rw [upd_other _ _ e]; exact .inl ⟨rfl, fun _ _ _ => rfl⟩

end Go.Proofs.Ytkaooejeljdbnaa
