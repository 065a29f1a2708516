/- What the operations do to an abstract state: conditions, in the order in which they are met, with what follows behind each. -/
import Derived.Test.YtkaooejeljdbnaaAb1
namespace Go.Proofs.Ytkaooejeljdbnaa
open Go
set_option linter.unusedVariables false

/-- A type, as far as the operations ask. -/
inductive Ty where
  | int (k : IntKind)
  | bool
  | slice (e : TypeId)
  | struct (fs : List (Nat × TypeId))
  | array (n : Nat) (e : TypeId)
  | map (k e : TypeId)
  | string
  | other

structure TI where
  d : Ty
  size : Nat
  bytes : Nat
  zero : List PV
  eq : Bool := false

def Ty.agg : Ty → Bool
  | .struct _ | .array _ _ => true
  | _ => false

def TyDesc (P : Program) (t : TypeId) : Ty → Prop
  | .int k => P.underlying t = some (.int k)
  | .bool => P.underlying t = some .bool
  | .slice e => P.underlying t = some (.slice e)
  | .struct fs => ∃ fields : Array Field, P.underlying t = some (.struct fields) ∧ fields.toList.map (fun f => (f.offset, f.type)) = fs
  | .array n e => P.underlying t = some (.array n e)
  | .map k e => P.underlying t = some (.map k e)
  | .string => P.underlying t = some .string
  | .other => ∃ d, P.underlying t = some d ∧ (match d with | .struct _ | .array _ _ => False | _ => True)

/-- Cells that are whole numbers and bools, held against each other. -/
inductive EqV : List Value → List Value → Bool → Prop
  | nil : EqV [] [] true
  | int {k a b xs ys r} (h : EqV xs ys r) : EqV (.int k a :: xs) (.int k b :: ys) ((a == b) && r)
  | bool {a b xs ys r} (h : EqV xs ys r) : EqV (.bool a :: xs) (.bool b :: ys) ((a == b) && r)

/-- Cells of the kinds of a zero value's cells. -/
inductive KindV : List PV → List Value → Prop
  | nil : KindV [] []
  | int {k z a zs vs} (h : KindV zs vs) : KindV (.int k z :: zs) (.int k a :: vs)
  | bool {z a zs vs} (h : KindV zs vs) : KindV (.bool z :: zs) (.bool a :: vs)
def sameK : List PV → List PV → Bool
  | [], [] => true
  | .int k _ :: zs, .int k' _ :: xs => decide (k = k') && sameK zs xs
  | .bool _ :: zs, .bool _ :: xs => sameK zs xs
  | _, _ => false

/-- The tie between the table and the program. -/
structure TyOK (P : Program) (t : TypeId) (i : TI) : Prop where
  desc : TyDesc P t i.d
  info : ∃ info z, P.info? t = some info ∧ info.size = i.size ∧ info.bytes = i.bytes ∧ info.zero = some z ∧ z.cells.size = i.size ∧ i.zero.length = i.size ∧
    (∀ w FB (j : Nat) c v, i.zero[j]? = some c → z.cells[j]? = some v → PR w FB c v)
  plain : ∀ c ∈ i.zero, c.one = true
  eqs : i.eq = true → P.eqGuardType P.depth t = false ∧ ∀ w xs ys r, EqV xs ys r → KindV i.zero xs → (Op.equal t (.agg xs.toArray) (.agg ys.toArray)).run P w = .ok r w
  keys : i.eq = true → ∀ w b xs, KindV i.zero xs → (Instr.checkKey b 10000 t (.agg xs.toArray)).run P w = .ok () w
  zagg : ∀ info z, P.info? t = some info → info.zero = some z → (i.d.agg = true → ∃ arr, z = .agg arr) ∧ (i.d.agg = false → z.cells = #[z])
  zrow : ∀ info z e, P.info? t = some info → info.zero = some z → i.d = .slice e → z = .slice none 0 0

abbrev Tab := TypeId → Option TI
def GOK (P : Program) (Γ : Tab) : Prop := ∀ t i, Γ t = some i → TyOK P t i

/-! #### blocks in a list -/

def Blk.top : Blk → Blk
  | .pool _ _ _ => .dead
  | B => B
def Blk.row : Blk → Nat → Blk
  | .pool T W rs, k => match rs[k]? with
    | some (some es) => .vec T W es
    | some none => .dead
    | none => .free
  | _, _ => .free
/-- The blocks of a list: each at its place, a pool's rows beside it. -/
def look (H : List Blk) : Hd → Blk
  | .t n => (H.getD n .free).top
  | .r n k => (H.getD n .free).row k
def Hd.beq : Hd → Hd → Bool
  | .t a, .t b => Nat.beq a b
  | .r a b, .r c d => Nat.beq a c && Nat.beq b d
  | _, _ => false
def FreeAt (L : Hd → Blk) (n : Nat) : Prop := L (.t n) = .free ∧ ∀ k, L (.r n k) = .free
/-- Keys of maps, held against each other. -/
def PV.keqL : List PV → List PV → Bool
  | [], [] => true
  | .int k a :: xs, .int k' b :: ys => decide (k = k') && ((a == b) && PV.keqL xs ys)
  | .bool a :: xs, .bool b :: ys => (a == b) && PV.keqL xs ys
  | _, _ => false
def PV.keq : PV → PV → Bool
  | .agg xs, .agg ys => PV.keqL xs ys
  | .int k a, .int k' b => decide (k = k') && a == b
  | _, _ => false

/-! #### calls -/

structure ArgSt (w : World) (F Bor : Nat → Prop) (β : Hd → Option Nat × Nat) (args : List AV) (Hin : List Blk) (vs : List Value) : Prop where
  len : vs.length = args.length
  rel : ∀ (i : Nat) a v, args[i]? = some a → vs[i]? = some v → VR w (FBof Bor F) β a v
  blks : ∀ h, Own w (FBof Bor F) β h (look Hin h)
  flt : ∀ b, F b → b < w.heap.size
  blt : ∀ b, Bor b → b < w.heap.size
  own : ∀ h b, (look Hin h).live → (β h).1 = some b → ¬ F b ∧ ¬ Bor b ∧ b < w.heap.size
  dis : ∀ h h' b, (look Hin h).live → (look Hin h').live → (β h).1 = some b → (β h').1 = some b → h = h'
  ma : ∀ a ∈ args, ∀ k, a.men k → look Hin k ≠ .free
  mb : ∀ h k, (look Hin h).men k → look Hin k ≠ .free

def noBor : Nat → Prop := fun _ => False

structure RetSt (w : World) (F : Nat → Prop) (β : Hd → Option Nat × Nat) (Hin : List Blk) (r : AV) (Hout : List Blk) (v : Value) (w' : World) (F' : Nat → Prop) (β' : Hd → Option Nat × Nat) : Prop where
  os : w'.os = w.os
  tape : w'.tape = w.tape
  output : w'.output = w.output
  size : w.heap.size ≤ w'.heap.size
  same : ∀ b, b < w.heap.size → (∀ h, (look Hin h).live → (β h).1 ≠ some b) → w'.heap[b]? = w.heap[b]?
  flt : ∀ b, F' b → b < w'.heap.size
  fold : ∀ b, F' b → b < w.heap.size → F b
  fsub : ∀ b, F b → F' b
  bsame : ∀ h, look Hin h ≠ .free → β' h = β h
  rel : VR w' (FBof noBor F') β' r v
  blks : ∀ h, Own w' (FBof noBor F') β' h (look Hout h)
  own : ∀ h b, (look Hout h).live → (β' h).1 = some b → ¬ F' b ∧ b < w'.heap.size ∧ (b < w.heap.size → ∃ h', (look Hin h').live ∧ (β h').1 = some b)
  dis : ∀ h h' b, (look Hout h).live → (look Hout h').live → (β' h).1 = some b → (β' h').1 = some b → h = h'
  mr : ∀ k, r.men k → look Hout k ≠ .free
  mb : ∀ h k, (look Hout h).men k → look Hout k ≠ .free
  nf : ∀ h, look Hin h ≠ .free → look Hout h ≠ .free

/-- A call of function f: handed 'args' (over the blocks 'Hin', which it may write), it answers r, and the blocks are 'Hout' (new ones behind the old). -/
structure CallG (P : Program) (f : FuncId) (args : List AV) (Hin : List Blk) (r : AV) (Hout : List Blk) : Prop where
  fn : ∃ fn, P.funcs[f]? = some fn ∧ (fn.name == "runtime.NumGoroutine") = false ∧ fn.body.isNone = false
  run : ∀ w F Bor β vs, ArgSt w F Bor β args Hin vs → Calls P f vs.toArray w fun e w' => ∃ v F' β', e = .returned v ∧ RetSt w F β Hin r Hout v w' F' β'

/-- A call that is handed trees and makes blocks alone. -/
abbrev CallP (P : Program) (f : FuncId) (args : List PV) (r : AV) (nb : List Blk) : Prop := CallG P f (args.map .p) [] r nb

/-! #### steps at which something is asked -/

inductive SWrap (k : IntKind) (e : Int) (K : Int → Prop) : Prop
  | mk (z : Int) (h : k.wrap e = z) (hk : K z)
inductive SCond (b : Bool) (A B : Prop) : Prop
  | mk (h1 : b = true → A) (h2 : b = false → B)
inductive SCmp (b : Bool) (K : AV → Prop) : Prop
  | sym (hk : K (.p (.bool b)))
  | yes (h : b = true) (hk : K (.tf true))
  | no (h : b = false) (hk : K (.tf false))
inductive SIdx (es : List PV) (i : Int) (K : Nat → PV → Prop) : Prop
  | mk (j : Nat) (e : PV) (hi : i = j) (h : es[j]? = some e) (hk : K j e)
inductive SPos (i : Int) (n : Nat) (K : Nat → Prop) : Prop
  | mk (j : Nat) (hi : i = j) (h : j < n) (hk : K j)
inductive SLt (i n : Nat) (K : Prop) : Prop
  | mk (h : i < n) (hk : K)
inductive SMake (n : Int) (bytes : Nat) (K : Nat → Prop) : Prop
  | mk (j : Nat) (hi : n = j) (h : j * bytes ≤ 140737488355328) (h' : j ≤ 140737488355328) (hk : K j)
/-- A row of rows is made: of empty rows that are read alone, or of the call's own. -/
inductive SMk (A B : Prop) : Prop
  | vec (h : A)
  | rows (h : B)
inductive SRoom (n bytes : Nat) (K : Prop) : Prop
  | mk (h : n * bytes ≤ 140737488355328) (h' : n ≤ 140737488355328) (hk : K)
inductive SNe (y : Int) (K : Prop) : Prop
  | mk (h : y ≠ 0) (hk : K)
inductive SGe (y : Int) (K : Prop) : Prop
  | mk (h : 0 ≤ y) (hk : K)
inductive SZ (e : Int) (K : Int → Prop) : Prop
  | mk (z : Int) (h : e = z) (hk : K z)
inductive SEs (es : List PV) (K : List PV → Prop) : Prop
  | mk (es' : List PV) (h : es = es') (hk : K es')
inductive SNil (len : Nat) (K : Bool → Prop) : Prop
  | mk (h1 : len ≠ 0 → K false) (h2 : len = 0 → K true ∧ K false)
inductive SEqN (a b : Nat) (K : Prop) : Prop
  | mk (h : a = b) (hk : K)
inductive SZN (e : Nat) (K : Nat → Prop) : Prop
  | mk (z : Nat) (h : e = z) (hk : K z)
/-- Bounds of a cut: low, high as numbers. -/
inductive SCut (lo hi : Int) (n : Nat) (K : Nat → Nat → Prop) : Prop
  | mk (l h : Nat) (hl : lo = l) (hh : hi = h) (h1 : l ≤ h) (h2 : h ≤ n) (hk : K l h)
/-- A cell of a row of rows. -/
inductive SIdxA (cs : List AV) (i : Int) (K : AV → Prop) : Prop
  | mk (j : Nat) (c : AV) (hi : i = j) (h : cs[j]? = some c) (hk : K c)
inductive SAs (es : List AV) (K : List AV → Prop) : Prop
  | mk (es' : List AV) (h : es = es') (hk : K es')
inductive SOnes (es : List PV) (K : Prop) : Prop
  | mk (h : ∀ e ∈ es, e.one = true) (hk : K)
/-- A part of the call's own row is lent. -/
inductive SView (es : List PV) (off len : Nat) (K : List PV → Prop) : Prop
  | mk (es' : List PV) (h : (es.drop off).take len = es') (hl : off + len ≤ es.length) (hk : K es')

mutual
def AV.ren (ρ : Hd → Hd) : AV → AV
  | .bptr h o => .bptr (ρ h) o
  | .eptr h W i o => .eptr (ρ h) W i o
  | .vec h W o l => .vec (ρ h) W o l
  | .map h => .map (ρ h)
  | .agg cs => .agg (AV.renL ρ cs)
  | .tup cs => .tup (AV.renL ρ cs)
  | .fn f fs cs => .fn f (AV.renL ρ fs) (AV.renL ρ cs)
  | .any => .any
  | .undef => .undef
  | .tf b => .tf b
  | .emp => .emp
  | .p v => .p v
def AV.renL (ρ : Hd → Hd) : List AV → List AV
  | [] => []
  | c :: cs => c.ren ρ :: AV.renL ρ cs
end

def Blk.ren (ρ : Hd → Hd) : Blk → Blk
  | .box T cs => .box T (AV.renL ρ cs)
  | .rows T cs => .rows T (AV.renL ρ cs)
  | B => B

/-- From the callee's numbers of blocks to the caller's. -/
def renN (hs : List Nat) (base : Nat) (i : Nat) : Nat := if i < hs.length then hs.getD i 0 else base + (i - hs.length)
def renOf (hs : List Nat) (base : Nat) : Hd → Hd
  | .t i => .t (renN hs base i)
  | .r i k => .r (renN hs base i) k

inductive SCall (P : Program) (wr : Bool) (f : FuncId) (args : List AV) (L : Hd → Blk) (base : Nat) (K : AV → List (Hd × Blk) → Prop) : Prop
  | mk (hs : List Nat) (args' : List AV) (r : AV) (Hin Hout : List Blk) (hw : wr = false → hs = []) (hn : hs.Nodup) (hb : ∀ h ∈ hs, h < base) (ha : AV.renL (renOf hs base) args' = args)
      (hin0 : Hin.length = hs.length) (hin : ∀ (i h : Nat) B, hs[i]? = some h → Hin[i]? = some B → L (.t h) = (B.ren (renOf hs base)).top ∧ ∀ k, L (.r h k) = B.row k) (hl : ∀ B ∈ Hin, B ≠ .free ∧ B ≠ .dead) (hm : ∀ B ∈ Hin, ∀ k, B.men k → k.key < hs.length)
      (hlen : hs.length ≤ Hout.length) (hfree : ∀ B ∈ Hout, B ≠ .free) (hargs : ∀ a ∈ args', ∀ k, a.men k → k.key < hs.length) (hc : CallG P f args' Hin r Hout)
      (hk : K (r.ren (renOf hs base)) (Hout.zipIdx.map fun x => (.t (renN hs base x.2), x.1.ren (renOf hs base)))) : SCall P wr f args L base K

/-- What a row of rows holds, lent: the call's own rows, and any. -/
inductive LendR (L : Hd → Blk) : AV → PV → Prop
  | p (v : PV) (h : v.one = true) : LendR L (.p v) v
  | vec {h : Hd} {W off len : Nat} {T : TypeId} {es : List PV} (hL : L h = .vec T W es) (hl : off + len ≤ es.length) : LendR L (.vec h W off len) (.sl true W ((es.drop off).take len))
inductive SLendR (L : Hd → Blk) (cs : List AV) (len : Nat) (K : List PV → Prop) : Prop
  | mk (ps : List PV) (hlen : len = cs.length) (hl : ps.length = cs.length) (h : ∀ (i : Nat) c p, cs[i]? = some c → ps[i]? = some p → LendR L c p) (hk : K ps)
/-- A map's entry: the first with the key. -/
inductive SGet (es : List (PV × PV)) (k : PV) (K : Option PV → Prop) : Prop
  | yes (i : Nat) (e : PV × PV) (h : es[i]? = some e) (he : PV.keq k e.1 = true) (hf : ∀ j e', j < i → es[j]? = some e' → PV.keq k e'.1 = false) (hk : K (some e.2))
  | no (h : ∀ e ∈ es, PV.keq k e.1 = false) (hk : K none)
/-- A map's entry is written. -/
inductive SPut (es : List (PV × PV)) (k v : PV) (K : List (PV × PV) → Prop) : Prop
  | old (i : Nat) (e : PV × PV) (es' : List (PV × PV)) (h : es[i]? = some e) (he : PV.keq k e.1 = true) (hf : ∀ j e', j < i → es[j]? = some e' → PV.keq k e'.1 = false) (hs : es.set i (k, v) = es') (hk : K es')
  | new (es' : List (PV × PV)) (h : ∀ e ∈ es, PV.keq k e.1 = false) (hs : es ++ [(k, v)] = es') (hk : K es')
/-- Are all of a map's keys of the key type's shape? -/
inductive SKeys (b : PV → Bool) (es : List (PV × PV)) (K : Prop) : Prop
  | mk (h : ∀ e ∈ es, b e.1 = true) (hk : K)
/-- The next entry of a map that is gone through: any that was not, or the end. -/
inductive SNext (es : List (PV × PV)) (seen : List Nat) (A : Nat → PV × PV → Prop) (B : Prop) : Prop
  | mk (h : ∀ i e, es[i]? = some e → i ∉ seen → A i e) (hend : (∀ i, i < es.length → i ∈ seen) → B) : SNext es seen A B

/-! #### lists, kept in sight -/

def getC : List AV → Nat → (AV → Prop) → Prop
  | [], _, _ => False
  | c :: _, 0, K => K c
  | _ :: cs, i + 1, K => getC cs i K

def getPV : List PV → Nat → (PV → Prop) → Prop
  | [], _, _ => False
  | c :: _, 0, K => K c
  | _ :: cs, i + 1, K => getPV cs i K

def mapPK : List PV → (List AV → Prop) → Prop
  | [], K => K []
  | c :: cs, K => mapPK cs fun l => K (.p c :: l)

def allP : List AV → (List PV → Prop) → (List AV → Prop) → Prop
  | [], K, _ => K []
  | .p v :: cs, K, J => allP cs (fun l => K (v :: l)) (fun l => J (.p v :: l))
  | .tf b :: cs, K, J => allP cs (fun l => K (.bool b :: l)) (fun l => J (.tf b :: l))
  | c :: cs, _, J => rebuild cs fun l => J (c :: l)
where
  rebuild : List AV → (List AV → Prop) → Prop
    | [], K => K []
    | c :: cs, K => rebuild cs fun l => K (c :: l)

/-- cs with vs in the places from off on. -/
def spliceK : List AV → Nat → List AV → (List AV → Prop) → Prop
  | [], 0, [], K => K []
  | [], _, _, _ => False
  | c :: cs, 0, [], K => allP.rebuild (c :: cs) K
  | _ :: cs, 0, v :: vs, K => spliceK cs 0 vs fun l => K (v :: l)
  | c :: cs, o + 1, vs, K => spliceK cs o vs fun l => K (c :: l)

/-- n cells of cs, from off on. -/
def rangeK : List AV → Nat → Nat → (List AV → Prop) → Prop
  | _, 0, 0, K => K []
  | [], _, _, _ => False
  | c :: cs, 0, n + 1, K => rangeK cs 0 n fun l => K (c :: l)
  | _ :: cs, o + 1, n, K => rangeK cs o n K

def rangeP : List PV → Nat → Nat → (List PV → Prop) → Prop
  | _, 0, 0, K => K []
  | [], _, _, _ => False
  | c :: cs, 0, n + 1, K => rangeP cs 0 n fun l => K (c :: l)
  | _ :: cs, o + 1, n, K => rangeP cs o n K

def mkAgg (cs : List AV) (K : AV → Prop) : Prop := allP cs (fun l => K (.p (.agg l))) (fun l => K (.agg l))

section
variable (Γ : Tab) (P : Program)

/-- A value as a tree. -/
def asP (t : TypeId) (v : AV) (K : PV → Prop) : Prop :=
  match v with
  | .p v => K v
  | .tf b => K (.bool b)
  | .emp => match Γ t with
    | some ⟨.slice e, _, _, _, _⟩ => match Γ e with
      | some i => K (.sl false i.size [])
      | none => False
    | _ => False
  | .agg cs => allP cs (fun l => K (.agg l)) (fun _ => False)
  | .fn f [] caps => allP caps (fun l => K (.fn f l)) (fun _ => False)
  | _ => False

/-- A value's cells. -/
def cellsOf (t : TypeId) (v : AV) (K : List AV → Prop) : Prop :=
  match v with
  | .p (.agg cs) => mapPK cs K
  | .p v => K [.p v]
  | .tf b => K [.tf b]
  | .emp => asP Γ t .emp fun v => K [.p v]
  | .agg cs => K cs
  | .bptr h o => K [.bptr h o]
  | .eptr h W i o => K [.eptr h W i o]
  | .vec h W o l => K [.vec h W o l]
  | .map h => K [.map h]
  | .fn f fs cs => K [.fn f fs cs]
  | _ => False

/-- A cell of a box that is lent. -/
def lend1 (L : Hd → Blk) (LK : Hd → (Blk → Prop) → Prop) (c : AV) (K : PV → Prop) : Prop :=
  match c with
  | .vec h W off len => LK h fun B => match B with
    | .vec _ W' es => cond (Nat.beq W W') (SView es off len fun es' => K (.sl true W es')) False
    | .rows _ cs => cond (Nat.beq W 1 && Nat.beq off 0) (SLendR L cs len fun ps => K (.sl true 1 ps)) False
    | _ => False
  | .map h => LK h fun B => match B with
    | .map es => K (.mp true es)
    | _ => False
  | .p v => cond v.one (K v) False
  | .tf b => K (.bool b)
  | _ => False
def lendCells (L : Hd → Blk) (LK : Hd → (Blk → Prop) → Prop) : List AV → (List PV → Prop) → Prop
  | [], K => K []
  | c :: cs, K => lend1 L LK c fun v => lendCells L LK cs fun l => K (v :: l)
/-- A value as it is handed to a call that doesn't write it. -/
def lendA0 (L : Hd → Blk) (LK : Hd → (Blk → Prop) → Prop) (t : TypeId) (v : AV) (K : AV → Prop) : Prop :=
  match v with
  | .vec h W off len => LK h fun B => match B with
    | .vec _ W' es => cond (Nat.beq W W') (SView es off len fun es' => K (.p (.sl true W es'))) False
    | _ => False
  | .bptr h 0 => LK h fun B => match B with
    | .box T cs => match Γ T with
      | some i => match i.d.agg with
        | true => allP cs (fun l => K (.p (.pel true (.agg l)))) (fun cs => lendCells L LK cs fun l => K (.p (.pel true (.agg l))))
        | false => allP cs (fun l => match l with
          | [c] => cond c.one (K (.p (.pel true c))) False
          | _ => False) (fun _ => False)
      | none => False
    | _ => False
  | .map h => LK h fun B => match B with
    | .map es => K (.p (.mp true es))
    | _ => False
  | v => asP Γ t v fun v => K (.p v)

/-- What a closure holds, as it is handed on: pointers to the call's own boxes are lent. -/
def lendCaps (L : Hd → Blk) (LK : Hd → (Blk → Prop) → Prop) : List AV → (List PV → Prop) → Prop
  | [], K => K []
  | c :: cs, K => lendA0 Γ L LK 0 c fun v => match v with
    | .p v => lendCaps L LK cs fun l => K (v :: l)
    | _ => False
def lendA (L : Hd → Blk) (LK : Hd → (Blk → Prop) → Prop) (t : TypeId) (v : AV) (K : AV → Prop) : Prop :=
  match v with
  | .fn f [] caps => lendCaps Γ L LK caps fun l => K (.p (.fn f l))
  | .agg cs => lendCaps Γ L LK cs fun l => cond (l.all PV.one) (K (.p (.agg l))) False
  | .vec h 1 0 len => LK h fun B => match B with
    | .rows _ cs => SLendR L cs len fun ps => K (.p (.sl true 1 ps))
    | .vec _ W' es => cond (Nat.beq 1 W') (SView es 0 len fun es' => K (.p (.sl true 1 es'))) False
    | _ => False
  | v => lendA0 Γ L LK t v K

/-- A value as it is handed to a call that may write it. -/
def lendW (t : TypeId) (v : AV) (K : AV → Prop) : Prop :=
  match v with
  | .vec h W o l => K (.vec h W o l)
  | .bptr h o => K (.bptr h o)
  | .map h => K (.map h)
  | v => asP Γ t v fun v => K (.p v)

def lendL (L : Hd → Blk) (LK : Hd → (Blk → Prop) → Prop) (wr : Bool) : List (TypeId × AV) → (List AV → Prop) → Prop
  | [], K => K []
  | x :: vs, K => match wr with
    | true => lendW Γ x.1 x.2 fun v' => lendL L LK wr vs fun l' => K (v' :: l')
    | false => lendA Γ L LK x.1 x.2 fun v' => lendL L LK wr vs fun l' => K (v' :: l')

def evalL (W : Operand → (AV → Prop) → Prop) : List Operand → (List AV → Prop) → Prop
  | [], K => K []
  | x :: xs, K => W x fun v => evalL W xs fun l => K (v :: l)

/-- The parts of a struct or an array that is built. -/
def buildK (W : Operand → (AV → Prop) → Prop) (place : Nat → Option (Nat × TypeId)) : List (Nat × Operand) → List AV → (List AV → Prop) → Prop
  | [], cs, K => K cs
  | (i, x) :: ps, cs, K => match place i with
    | some (off, t) => W x fun v => cellsOf Γ t v fun vs => match Γ t with
      | some ti => cond (Nat.beq vs.length ti.size) (spliceK cs off vs fun cs' => buildK W place ps cs' K) False
      | none => False
    | none => False

/-- The elements of a slice that is built: all of them, in order. -/
def elemsK (W : Operand → (AV → Prop) → Prop) (e : TypeId) (size : Nat) : Nat → List (Nat × Operand) → (List PV → Prop) → Prop
  | _, [], K => K []
  | n, (i, x) :: ps, K => cond (Nat.beq i n) (W x fun v => asP Γ e v fun v' => cond (Nat.beq v'.cells.length size) (elemsK W e size (n + 1) ps fun l => K (v' :: l)) False) False

def AV.isVec : AV → Bool
  | .vec _ _ _ _ => true
  | _ => false
/-- An element of a row of rows that is built: the call's own row, or any. -/
def rowEl (e : TypeId) (v : AV) (K : AV → Prop) : Prop :=
  match v with
  | .vec h Wd o l => K (.vec h Wd o l)
  | v => asP Γ e v fun v' => cond v'.one (K (.p v')) False
def rowsK (W : Operand → (AV → Prop) → Prop) (e : TypeId) : Nat → List (Nat × Operand) → (List AV → Prop) → Prop
  | _, [], K => K []
  | n, (i, x) :: ps, K => cond (Nat.beq i n) (W x fun v => rowEl Γ e v fun c => rowsK W e (n + 1) ps fun l => K (c :: l)) False
def TI.isRow (i : TI) : Bool :=
  match i.d with
  | .slice _ => Nat.beq i.size 1
  | _ => false

def boolOf (v : AV) (K : Bool → Prop) : Prop :=
  match v with
  | .tf b => K b
  | .p (.bool b) => K b
  | _ => False

/-- Are lists of whole numbers and bools the same, place by place? -/
def eqCells : List PV → List PV → (Bool → Prop) → Prop
  | [], [], K => K true
  | .int k a :: xs, .int k' b :: ys, K => if k = k' then eqCells xs ys fun r => K ((a == b) && r) else False
  | .bool a :: xs, .bool b :: ys, K => eqCells xs ys fun r => K ((a == b) && r)
  | _, _, _ => False

def intOp (op : BinOp) (k : IntKind) (a b : Int) (K : AV → List (Hd × Blk) → Prop) : Prop :=
  match op with
  | .add => SWrap k (a + b) fun z => K (.p (.int k z)) []
  | .sub => SWrap k (a - b) fun z => K (.p (.int k z)) []
  | .mul => SWrap k (a * b) fun z => K (.p (.int k z)) []
  | .quo => SNe b (SWrap k (a.tdiv b) fun z => K (.p (.int k z)) [])
  | .rem => SNe b (SZ (a.tmod b) fun z => K (.p (.int k z)) [])
  | .and => SWrap k ((BitVec.ofInt k.bits a &&& BitVec.ofInt k.bits b).toNat : Int) fun z => K (.p (.int k z)) []
  | .or => SWrap k ((BitVec.ofInt k.bits a ||| BitVec.ofInt k.bits b).toNat : Int) fun z => K (.p (.int k z)) []
  | .xor => SWrap k ((BitVec.ofInt k.bits a ^^^ BitVec.ofInt k.bits b).toNat : Int) fun z => K (.p (.int k z)) []
  | .andNot => SWrap k ((BitVec.ofInt k.bits a &&& ~~~ BitVec.ofInt k.bits b).toNat : Int) fun z => K (.p (.int k z)) []
  | .eql => SCmp (a == b) fun v => K v []
  | .neq => SCmp (a != b) fun v => K v []
  | .lss => SCmp (decide (a < b)) fun v => K v []
  | .leq => SCmp (decide (a ≤ b)) fun v => K v []
  | .gtr => SCmp (decide (a > b)) fun v => K v []
  | .geq => SCmp (decide (a ≥ b)) fun v => K v []
  | .shl | .shr => False

def intBin (op : BinOp) (k : IntKind) (a : Int) (k' : IntKind) (b : Int) (K : AV → List (Hd × Blk) → Prop) : Prop :=
  match op with
  | .shl => SGe b (SWrap k (a * 2 ^ (min b.toNat k.bits)) fun z => K (.p (.int k z)) [])
  | .shr => SGe b (SZ (a.fdiv (2 ^ (min b.toNat k.bits))) fun z => K (.p (.int k z)) [])
  | op => if k = k' then intOp op k a b K else False

def aggBin (i : TI) (op : BinOp) (xs ys : List PV) (K : AV → List (Hd × Blk) → Prop) : Prop :=
  match i.eq with
  | true => cond (sameK i.zero xs) (match op with
    | .eql => eqCells xs ys fun r => SCmp r fun v => K v []
    | .neq => eqCells xs ys fun r => SCmp (!r) fun v => K v []
    | _ => False) False
  | false => False

def boolBin (i : TI) (op : BinOp) (a b : Bool) (K : AV → List (Hd × Blk) → Prop) : Prop :=
  match i.d with
  | .bool => match op with
    | .eql => SCmp (a == b) fun v => K v []
    | .neq => SCmp (!(a == b)) fun v => K v []
    | _ => False
  | _ => False

def binK (op : BinOp) (t : TypeId) (x y : AV) (K : AV → List (Hd × Blk) → Prop) : Prop :=
  match x with
  | .p (.int k a) => match y with
    | .p (.int k' b) => intBin op k a k' b K
    | _ => False
  | .p (.agg xs) => match y with
    | .p (.agg ys) => match Γ t with
      | some i => aggBin i op xs ys K
      | none => False
    | _ => False
  | .p (.bool a) => match Γ t with
    | some i => boolOf y fun b => boolBin i op a b K
    | none => False
  | .tf a => match Γ t with
    | some i => boolOf y fun b => boolBin i op a b K
    | none => False
  | _ => False

/-- Is a slice nil? -/
def isNil : Operand → Bool
  | .const (.slice none 0 0) => true
  | _ => false

def nilOf (v : AV) (K : Bool → Prop) : Prop :=
  match v with
  | .p (.sl _ _ es) => SNil es.length K
  | .emp => SNil 0 K
  | .vec _ _ _ len => SNil len K
  | _ => False

def nilK (op : BinOp) (t : TypeId) (v : AV) (K : AV → List (Hd × Blk) → Prop) : Prop :=
  match Γ t with
  | some i => match i.d with
    | .slice _ => match op with
      | .eql => nilOf v fun r => K (.tf r) []
      | .neq => nilOf v fun r => K (.tf (!r)) []
      | _ => False
    | _ => False
  | none => False

def optK (W : Operand → (AV → Prop) → Prop) (x : Option Operand) (d : Int) (K : Int → Prop) : Prop :=
  match x with
  | none => K d
  | some x => W x fun v => match v with
    | .p (.int _ n) => K n
    | _ => False

/-- The element type of a slice type. -/
def elemK (t : TypeId) (K : TypeId → TI → Prop) : Prop :=
  match Γ t with
  | some i => match i.d with
    | .slice e => match Γ e with
      | some j => K e j
      | none => False
    | _ => False
  | none => False

/-- A type's zero value, as one element. -/
def zeroK (i : TI) (K : PV → Prop) : Prop :=
  match i.d.agg with
  | true => K (.agg i.zero)
  | false => match i.zero with
    | [z] => K z
    | _ => False

/-- What an append adds. -/
def addedK (LK : Hd → (Blk → Prop) → Prop) (x : AV) (K : Nat → List PV → Prop) : Prop :=
  match x with
  | .emp => K 0 []
  | .p (.sl _ W es) => K W es
  | .vec h W off len => LK h fun B => match B with
    | .vec _ W' es => cond (Nat.beq W W') (SView es off len fun es' => K W es') False
    | _ => False
  | _ => False

/-- What an append adds, of the row's own width. -/
def addedS (LK : Hd → (Blk → Prop) → Prop) (size : Nat) (x : AV) (K : List PV → Prop) : Prop :=
  addedK LK x fun W xs => match x with
    | .emp => K []
    | _ => cond (Nat.beq W size) (K xs) False

/-- Is this another block? -/
def notVec (h : Hd) (x : AV) : Bool :=
  match x with
  | .vec h' _ _ _ => !(Hd.beq h h')
  | _ => true

def appendK (LK : Hd → (Blk → Prop) → Prop) (base : Nat) (e : TypeId) (i : TI) (s x : AV) (K : AV → List (Hd × Blk) → Prop) : Prop :=
  cond (Nat.ble 1 i.size) (match s with
  | .emp => addedS LK i.size x fun xs => SRoom xs.length i.bytes (K (.vec base i.size 0 xs.length) [(base, .vec e i.size xs)])
  | .vec h W 0 len => cond (Nat.beq W i.size && notVec h x) (LK h fun B => match B with
    | .vec T W' es => cond (Nat.beq W W' && Nat.beq T e) (SEqN len es.length (addedS LK i.size x fun xs => SRoom (es.length + xs.length) i.bytes
        (SEs (es ++ xs) fun es' => SZN (es.length + xs.length) fun m => K (.vec base i.size 0 m) [(h, .dead), (base, .vec e i.size es')]))) False
    | _ => False) False
  | _ => False) False

/-- A row of rows, as a whole? -/
def isRows (LK : Hd → (Blk → Prop) → Prop) (v : AV) (K : Option (List AV) → Prop) : Prop :=
  match v with
  | .vec h 1 0 len => LK h fun B => match B with
    | .rows _ cs => cond (Nat.beq len cs.length) (K (some cs)) False
    | .vec _ _ _ => K none
    | _ => False
  | _ => K none

def appendR (LK : Hd → (Blk → Prop) → Prop) (base : Nat) (e : TypeId) (i : TI) (s x : AV) (xs : List AV) (K : AV → List (Hd × Blk) → Prop) : Prop :=
  cond (Nat.beq i.size 1 && !xs.isEmpty) (match s with
    | .emp => SRoom xs.length i.bytes (K (.vec base 1 0 xs.length) [(base, .rows e xs)])
    | .vec h 1 0 len => LK h fun B => match B with
      | .rows T es => cond (Nat.beq T e) (SEqN len es.length (SRoom (es.length + xs.length) i.bytes (SAs (es ++ xs) fun cs => SZN (es.length + xs.length) fun m => K (.vec base 1 0 m) [(h, .dead), (base, .rows e cs)]))) False
      | _ => False
    | _ => False) False
def appendA (LK : Hd → (Blk → Prop) → Prop) (base : Nat) (e : TypeId) (i : TI) (s x : AV) (K : AV → List (Hd × Blk) → Prop) : Prop :=
  isRows LK x fun o => match o with
    | none => appendK LK base e i s x K
    | some xs => appendR LK base e i s x xs K

def lenK (t : TypeId) (x : AV) (K : AV → List (Hd × Blk) → Prop) : Prop :=
  elemK Γ t fun _ _ => match x with
    | .p (.sl _ _ es) => SZ es.length fun z => K (.p (.int .i64 z)) []
    | .vec _ _ _ len => SZ len fun z => K (.p (.int .i64 z)) []
    | .emp => K (.p (.int .i64 0)) []
    | _ => False

def twoK (x y : AV) (f : Int → Int → Int) (K : AV → List (Hd × Blk) → Prop) : Prop :=
  match x with
  | .p (.int k a) => match y with
    | .p (.int _ b) => SZ (f a b) fun z => K (.p (.int k z)) []
    | _ => False
  | _ => False

def copyK (LK : Hd → (Blk → Prop) → Prop) (t : TypeId) (d x : AV) (K : AV → List (Hd × Blk) → Prop) : Prop :=
  match d with
  | .vec h W 0 len => cond (notVec h x) (LK h fun B => match B with
    | .vec T W' es => elemK Γ t fun e i => cond (Nat.beq W i.size && (Nat.beq W W' && Nat.ble 1 W)) (SLt len (es.length + 1) (addedS LK i.size x fun xs =>
        SEs (xs.take len ++ es.drop (min xs.length len)) fun es' => SZ ((min xs.length len : Nat) : Int) fun z => K (.p (.int .i64 z)) [(h, .vec T W' es')])) False
    | _ => False) False
  | _ => False

def clearK (LK : Hd → (Blk → Prop) → Prop) (t : TypeId) (d : AV) (K : AV → List (Hd × Blk) → Prop) : Prop :=
  match d with
  | .vec h W 0 len => LK h fun B => match B with
    | .vec T W' es => elemK Γ t fun e i => cond (Nat.beq W i.size && (Nat.beq W W' && Nat.ble 1 W)) (SLt len (es.length + 1) (zeroK i fun z => SEs (List.replicate len z ++ es.drop len) fun es' => K .undef [(h, .vec T W' es')])) False
    | _ => False
  | _ => False

def builtinK (LK : Hd → (Blk → Prop) → Prop) (base : Nat) (b : Builtin) (ts : List TypeId) (vs : List AV) (K : AV → List (Hd × Blk) → Prop) : Prop :=
  match vs with
  | [x] => match ts with
    | t :: _ => match b with
      | .len => lenK Γ t x K
      | .clear => clearK Γ LK t x K
      | _ => False
    | _ => False
  | [x, y] => match ts with
    | t :: t' :: ts' => match b with
      | .max => twoK x y (fun a b => if b > a then b else a) K
      | .min => twoK x y (fun a b => if b < a then b else a) K
      | .append => cond (Nat.beq t t' && ts'.isEmpty) (elemK Γ t fun e i => appendA LK base e i x y K) False
      | .copy => copyK Γ LK t x y K
      | _ => False
    | _ => False
  | _ => False

def convK (src dst : TypeId) (v : AV) (K : AV → List (Hd × Blk) → Prop) : Prop :=
  match v with
  | .p (.int _ n) => match Γ dst with
    | some i => match Γ src with
      | some _ => match i.d with
        | .int k => SWrap k n fun z => K (.p (.int k z)) []
        | _ => False
      | none => False
    | none => False
  | _ => False

def makeK (base : Nat) (t : TypeId) (vl vc : AV) (K : AV → List (Hd × Blk) → Prop) : Prop :=
  match vl with
  | .p (.int _ n) => match vc with
    | .p (.int _ m) => elemK Γ t fun e i => zeroK i fun z => SZ m fun m' => SLt (m' - n).natAbs 1 (SMake n i.bytes fun j => match i.isRow with
      | false => K (.vec base i.size 0 j) [(base, .vec e i.size (List.replicate j z))]
      | true => SMk (K (.vec base i.size 0 j) [(base, .vec e i.size (List.replicate j z))]) (K (.vec base 1 0 j) [(base, .rows e (List.replicate j .emp))]))
    | _ => False
  | _ => False

def sliceK (W : Operand → (AV → Prop) → Prop) (t : TypeId) (v : AV) (lo hi mx : Option Operand) (K : AV → List (Hd × Blk) → Prop) : Prop :=
  match v with
  | .p (.sl m Wd es) => cond (mx.isNone || hi.isSome) (elemK Γ t fun _ i => cond (Nat.beq i.size Wd) (optK W lo 0 fun l => optK W hi es.length fun h => optK W mx h fun mm => SZ mm fun mm' => SLt (mm' - h).natAbs 1 (SCut l h es.length fun l h =>
      SEs ((es.take h).drop l) fun es' => K (.p (.sl m Wd es')) [])) False) False
  | .vec hd Wd off len => match mx with
    | none => elemK Γ t fun _ i => cond (Nat.beq i.size Wd) (optK W lo 0 fun l => optK W hi len fun h => SCut l h len fun l h => K (.vec hd Wd (off + l) (h - l)) []) False
    | some _ => cond hi.isSome (elemK Γ t fun _ i => cond (Nat.beq i.size Wd) (optK W lo 0 fun l => optK W hi len fun h => optK W mx h fun mm => SZ mm fun mm' => SLt (mm' - h).natAbs 1 (SCut l h len fun l h => K (.vec hd Wd (off + l) (h - l)) [])) False) False
  | _ => False

def fieldOf (t : TypeId) (f : Nat) (K : Nat → TI → Prop) : Prop :=
  match Γ t with
  | some i => match i.d with
    | .struct fs => match fs[f]? with
      | some x => match Γ x.2 with
        | some j => K x.1 j
        | none => False
      | none => False
    | _ => False
  | none => False

def fieldAddrK (t : TypeId) (v : AV) (f : Nat) (K : AV → List (Hd × Blk) → Prop) : Prop :=
  fieldOf Γ t f fun o fi => cond (Nat.ble 1 fi.size) (match v with
    | .bptr h off => K (.bptr h (off + o)) []
    | .eptr h Wd i off => K (.eptr h Wd i (off + o)) []
    | .p (.pel m (.agg cs)) => match fi.d.agg with
      | true => rangeP cs o fi.size fun l => K (.p (.pel m (.agg l))) []
      | false => getPV cs o fun c => cond c.one (K (.p (.pel m c)) []) False
    | _ => False) False

def fieldK (t : TypeId) (v : AV) (f : Nat) (K : AV → List (Hd × Blk) → Prop) : Prop :=
  fieldOf Γ t f fun o fi => match v with
    | .p (.agg cs) => match fi.d.agg with
      | true => rangeP cs o fi.size fun l => K (.p (.agg l)) []
      | false => getPV cs o fun c => K (.p c) []
    | .agg cs => match fi.d.agg with
      | true => rangeK cs o fi.size fun l => mkAgg l fun v => K v []
      | false => getC cs o fun c => K c []
    | _ => False

/-- An array type's length and elements. -/
def arrK (t : TypeId) (K : Nat → TI → Prop) : Prop :=
  match Γ t with
  | some i => match i.d with
    | .array len e => match Γ e with
      | some j => K len j
      | none => False
    | _ => False
  | none => False

def indexAddrK (t : TypeId) (v ix : AV) (K : AV → List (Hd × Blk) → Prop) : Prop :=
  match ix with
  | .p (.int _ n) => match v with
    | .p (.sl m Wd es) => elemK Γ t fun _ ti => cond (Nat.beq ti.size Wd) (SIdx es n fun _ e => K (.p (.pel m e)) []) False
    | .vec h Wd off len => elemK Γ t fun _ ti => cond (Nat.beq ti.size Wd) (SPos n len fun j => K (.eptr h Wd (j + off) 0) []) False
    | .bptr h off => arrK Γ t fun len ti => cond (Nat.ble 1 ti.size) (SPos n len fun j => K (.bptr h (off + j * ti.size)) []) False
    | .eptr h Wd i off => arrK Γ t fun len ti => cond (Nat.ble 1 ti.size) (SPos n len fun j => K (.eptr h Wd i (off + j * ti.size)) []) False
    | _ => False
  | _ => False

def indexK (t : TypeId) (v ix : AV) (K : AV → List (Hd × Blk) → Prop) : Prop :=
  match ix with
  | .p (.int _ n) => match v with
    | .p (.agg cs) => match Γ t with
      | some i => match i.d with
        | .array len e => match Γ e with
          | some j => cond (Nat.beq j.size 1 && (Nat.beq len cs.length && !j.d.agg)) (SIdx cs n fun _ c => K (.p c) []) False
          | none => False
        | _ => False
      | none => False
    | .p (.raw (.string b)) => match Γ t with
      | some i => match i.d with
        | .string => SPos n b.size fun j => SZ ((b.data.getD j 0).toNat : Nat) fun z => K (.p (.int .u8 z)) []
        | _ => False
      | none => False
    | _ => False
  | _ => False

/-- A map type's keys and elements. -/
def mapK (t : TypeId) (K : TypeId → TI → TypeId → TI → Prop) : Prop :=
  match Γ t with
  | some i => match i.d with
    | .map k e => match Γ k with
      | some ki => match Γ e with
        | some ei => K k ki e ei
        | none => False
      | none => False
    | _ => False
  | none => False
/-- Is this a key of the type's shape? -/
def TI.keyB (i : TI) (p : PV) : Bool :=
  match i.d with
  | .int k => match p with
    | .int k' _ => decide (k = k')
    | _ => false
  | _ => match p with
    | .agg xs => i.eq && (i.d.agg && sameK i.zero xs)
    | _ => false
def entriesK (LK : Hd → (Blk → Prop) → Prop) (v : AV) (K : List (PV × PV) → Prop) : Prop :=
  match v with
  | .map h => LK h fun B => match B with
    | .map es => K es
    | _ => False
  | .p (.mp _ es) => K es
  | _ => False
def updateK (LK : Hd → (Blk → Prop) → Prop) (t : TypeId) (vm vk vx : AV) (K : AV → List (Hd × Blk) → Prop) : Prop :=
  mapK Γ t fun kt ki et _ => asP Γ kt vk fun key => asP Γ et vx fun val => cond (ki.keyB key) (match vm with
  | .map h => LK h fun B => match B with
    | .map es => SKeys ki.keyB es (SPut es key val fun es' => K .undef [(h, .map es')])
    | _ => False
  | _ => False) False
def lookupK (LK : Hd → (Blk → Prop) → Prop) (t : TypeId) (vm vk : AV) (ok : Bool) (K : AV → List (Hd × Blk) → Prop) : Prop :=
  mapK Γ t fun kt ki _ ei => asP Γ kt vk fun key => cond (ki.keyB key) (entriesK LK vm fun es => SKeys ki.keyB es (SGet es key fun o => match o with
    | some v => match ok with
      | true => K (.tup [.p v, .tf true]) []
      | false => K (.p v) []
    | none => zeroK ei fun z => match ok with
      | true => K (.tup [.p z, .tf false]) []
      | false => K (.p z) [])) False
def rangeOf (base : Nat) (t : TypeId) (v : AV) (K : AV → List (Hd × Blk) → Prop) : Prop :=
  mapK Γ t fun _ _ _ _ => match v with
  | .p (.mp m es) => K (.bptr base 0) [(base, .iter m es [])]
  | _ => False
def nextK (LK : Hd → (Blk → Prop) → Prop) (v : AV) (K : AV → List (Hd × Blk) → Prop) : Prop :=
  match v with
  | .bptr h 0 => LK h fun B => match B with
    | .iter m es seen => SNext es seen (fun i e => K (.tup [.tf true, .p e.1, .p e.2]) [(h, .iter m es (seen ++ [i]))]) (K (.tup [.tf false]) [])
    | _ => False
  | _ => False

/-- What an operation yields, and which blocks it makes or writes. 'mut': does this function write what it is handed? -/
def opSem (wr : FuncId → Bool) (W : Operand → (AV → Prop) → Prop) (LK : Hd → (Blk → Prop) → Prop) (L : Hd → Blk) (base : Nat) (op : Op) (K : AV → List (Hd × Blk) → Prop) : Prop :=
  match op with
  | .move x | .assign x => W x fun v => K v []
  | .pick c a b => W c fun v => match v with
    | .tf true => W a fun v => K v []
    | .tf false => W b fun v => K v []
    | .p (.bool t) => match t with
      | true => W a fun v => K v []
      | false => W b fun v => K v []
    | _ => False
  | .alloc t => match Γ t with
    | some i => mapPK i.zero fun cs => K (.bptr base 0) [(base, .box t cs)]
    | none => False
  | .box t x => W x fun v => cellsOf Γ t v fun cs => K (.bptr base 0) [(base, .box t cs)]
  | .build t parts => match Γ t with
    | some ⟨.struct fs, _, _, zero, _⟩ => cond (fs.all fun f => (Γ f.2).isSome) (mapPK zero fun zs => buildK Γ W (fun i => fs[i]?) parts.toList zs fun cs => mkAgg cs fun v => K v []) False
    | some ⟨.array n e, _, _, zero, _⟩ => match Γ e with
      | some i => mapPK zero fun zs => buildK Γ W (fun j => some (j * i.size, e)) parts.toList zs fun cs => mkAgg cs fun v => K v []
      | none => False
    | _ => False
  | .buildSlice t n parts => match Γ t with
    | some ⟨.slice e, _, _, _, _⟩ => match Γ e with
      | some i => match n, parts.toList with
        | 0, [] => K .emp []
        | n, _ => match i.isRow with
          | true => evalL W (parts.toList.map (·.2)) fun vs => match vs.any AV.isVec with
            | true => rowsK Γ W e 0 parts.toList fun cs => cond (Nat.beq cs.length n && (Nat.ble n 1000 && Nat.ble 1 n)) (K (.vec base 1 0 n) [(base, .rows e cs)]) False
            | false => elemsK Γ W e i.size 0 parts.toList fun es => cond (Nat.beq es.length n && (Nat.ble (n * i.size) 1000 && Nat.ble 1 (n * i.size))) (K (.vec base i.size 0 n) [(base, .vec e i.size es)]) False
          | false => elemsK Γ W e i.size 0 parts.toList fun es => cond (Nat.beq es.length n && (Nat.ble (n * i.size) 1000 && Nat.ble 1 (n * i.size))) (K (.vec base i.size 0 n) [(base, .vec e i.size es)]) False
      | none => False
    | _ => False
  | .load t x => W x fun v => match v with
    | .bptr h off => LK h fun B => match B, Γ t with
      | .box _ cs, some i => match i.d.agg with
        | true => rangeK cs off i.size fun l => mkAgg l fun v => K v []
        | false => getC cs off fun c => K c []
      | _, _ => False
    | .eptr h W i off => LK h fun B => match B, Γ t with
      | .vec _ W' es, some ti => cond (Nat.beq W W') (SIdx es i fun _ e => match ti.d.agg, off, e with
        | true, 0, .agg cs => cond (Nat.beq ti.size W) (K (.p (.agg cs)) []) (rangeP cs 0 ti.size fun l => K (.p (.agg l)) [])
        | true, off + 1, .agg cs => rangeP cs (off + 1) ti.size fun l => K (.p (.agg l)) []
        | false, off, e => getPV e.cells off fun c => K (.p c) []
        | _, _, _ => False) False
      | .rows _ cs, some ti => cond (Nat.beq W 1 && (Nat.beq off 0 && !ti.d.agg)) (SIdxA cs i fun c => K c []) False
      | _, _ => False
    | .p (.pel _ e) => match Γ t with
      | some ti => match ti.d.agg, e with
        | true, .agg cs => cond (Nat.beq ti.size cs.length) (K (.p (.agg cs)) []) False
        | false, .agg cs => getPV cs 0 fun c => K (.p c) []
        | false, e => K (.p e) []
        | _, _ => False
      | none => False
    | _ => False
  | .store t x y => W x fun p => W y fun v => match p with
    | .bptr h off => LK h fun B => match B, Γ t with
      | .box T cs, some i => cellsOf Γ t v fun vs => cond (Nat.beq vs.length i.size) (spliceK cs off vs fun cs' => K .undef [(h, .box T cs')]) False
      | _, _ => False
    | .eptr h W i 0 => LK h fun B => match B, Γ t with
      | .vec T W' es, some ti => match v with
        | .vec g Wd o l => cond (Nat.beq W 1 && (Nat.beq W' 1 && (Nat.beq ti.size 1 && !ti.d.agg))) (SOnes es (SLt i es.length (SAs ((es.map .p).set i (.vec g Wd o l)) fun cs' => K .undef [(h, .rows T cs')]))) False
        | v => cond (Nat.beq W W' && Nat.beq ti.size W) (asP Γ t v fun e => cond (Nat.beq e.cells.length W) (SLt i es.length (SEs (es.set i e) fun es' => K .undef [(h, .vec T W es')])) False) False
      | .rows T cs, some ti => cond (Nat.beq W 1 && (Nat.beq ti.size 1 && !ti.d.agg)) (rowEl Γ t v fun c => SLt i cs.length (SAs (cs.set i c) fun cs' => K .undef [(h, .rows T cs')])) False
      | _, _ => False
    | _ => False
  | .binOp op t x y _ => match isNil y with
    | true => W x fun a => nilK Γ op t a K
    | false => W x fun a => W y fun b => binK Γ op t a b K
  | .unOp op _ x => W x fun v => match op, v with
    | .neg, .p (.int k n) => SWrap k (0 - n) fun z => K (.p (.int k z)) []
    | .xor, .p (.int k n) => SWrap k ((BitVec.ofInt k.bits (if k.signed then -1 else k.max) ^^^ BitVec.ofInt k.bits n).toNat : Int) fun z => K (.p (.int k z)) []
    | .not, .p (.bool b) => SCmp (!b) fun v => K v []
    | .not, .tf b => K (.tf (!b)) []
    | _, _ => False
  | .nilCheck x => W x fun v => match v with
    | .bptr h o => K (.bptr h o) []
    | .eptr h Wd i o => K (.eptr h Wd i o) []
    | .p (.pel m e) => K (.p (.pel m e)) []
    | _ => False
  | .convert src dst x => W x fun v => convK Γ src dst v K
  | .makeFunc (.func f) fs cs => evalL W fs.toList fun fs => evalL W cs.toList fun cs => K (.fn f fs cs) []
  | .makeSlice t l c => W l fun vl => W c fun vc => makeK Γ base t vl vc K
  | .slice t x lo hi mx => W x fun v => sliceK Γ W t v lo hi mx K
  | .fieldAddr t x f => W x fun v => fieldAddrK Γ t v f K
  | .field t x f => W x fun v => fieldK Γ t v f K
  | .indexAddr t x i => W x fun v => W i fun ix => indexAddrK Γ t v ix K
  | .index t x i => W x fun v => W i fun ix => indexK Γ t v ix K
  | .extract x i => W x fun v => match v with
    | .tup cs => getC cs i fun c => K c []
    | _ => False
  | .makeMap t none => mapK Γ t fun _ _ _ _ => K (.map base) [(base, .map [])]
  | .mapUpdate t m k x => W m fun vm => W k fun vk => W x fun vx => updateK Γ LK t vm vk vx K
  | .insert t m k x => W m fun vm => W k fun vk => W x fun vx => updateK Γ LK t vm vk vx K
  | .lookup t x k ok => W x fun vm => W k fun vk => lookupK Γ LK t vm vk ok K
  | .range t x => W x fun v => rangeOf Γ base t v K
  | .next x false => W x fun v => nextK LK v K
  | .call ⟨.builtin b, xs, ts⟩ => evalL W xs.toList fun vs => builtinK Γ LK base b ts.toList vs K
  | .call ⟨.value f, xs, ts⟩ => cond (Nat.beq ts.toList.length xs.toList.length) (W f fun vf => match vf with
    | .fn fid fs cs => evalL W xs.toList fun vs => lendL Γ L LK (wr fid) ((fs.map fun v => (0, v)) ++ (ts.toList.zip vs ++ cs.map fun v => (0, v))) fun args => SCall P (wr fid) fid args L base K
    | .p (.fn fid cs) => evalL W xs.toList fun vs => lendL Γ L LK (wr fid) (ts.toList.zip vs ++ cs.map fun v => (0, .p v)) fun args => SCall P (wr fid) fid args L base K
    | _ => False) False
  | _ => False

end
end Go.Proofs.Ytkaooejeljdbnaa
