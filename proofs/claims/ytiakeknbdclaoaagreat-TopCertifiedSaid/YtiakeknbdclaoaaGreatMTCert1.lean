/- FTCert: what its proof needs, part 1. -/
import Derived.Laws.StructEq
import Derived.ChangeKeysEq
import Derived.Test.YtiakeknbdclaoaaGreatProg
import Derived.Calls
import Derived.WalkKit
import Derived.MapKept
import Derived.WideKeyRuns
import Derived.Orders
import Derived.KernelRfl
import Derived.Laws.MathBits
import Derived.ProofKit
import Derived.Carry
import Derived.OpenShut
set_option linter.unusedVariables false
set_option linter.unusedSimpArgs false
namespace Go.Proofs.YtiakeknbdclaoaaGreat
open Go
set_option maxRecDepth 10000
theorem qO{P:Prop}(h:P:=by omega):P:=h
theorem qD{P:Prop}(h:P:=by decide):P:=h
theorem qS{P:Prop}(h:P:=by simp):P:=h
theorem qK{P:Prop}(h:P:=by kernel_rfl):P:=h
inductive PV where
 |int (k:IntKind) (n:Int)
 |bool (b:Bool)
 |agg (cs:List PV)
 |sl (m:Bool) (W:Nat) (es:List PV)
 |f5 (m:Bool) (e:PV)
 |fn (f:FuncId) (caps:List PV)
 |lp (f:FuncId) (fs:List PV)
 |mp (m:Bool) (es:List (PV×PV))
 |raw (v:Value)
 deriving Inhabited
def PV.cells:PV->List PV
 | .agg cs=>cs
 |v=>[v]
def PV.one:PV->Bool
 | .agg _=>false
 |_=>true
theorem PV.fH {v:PV} (h:v.one=true):v.cells=[v]:=by
 cases v<;>first|rfl|exact Bool.noConfusion h
inductive PR (w:World) (FB:Bool->Nat->Prop):PV->Value->Prop where
 |int (k:IntKind) (n:Int):PR w FB (.int k n) (.int k n)
 |bool (b:Bool):PR w FB (.bool b) (.bool b)
 |agg (cs:List PV) (vs:Array Value) (hone:∀c∈cs,c.one=true) (hl:vs.size=cs.length) (h:∀(i:Nat) c v,cs[i]?=some c->vs[i]?=some v->PR w FB c v):PR w FB (.agg cs) (.agg vs)
 |nil (m:Bool) (W:Nat) (ad:Option Addr):PR w FB (.sl m W []) (.slice ad 0 0)
 |sl (m:Bool) (W:Nat) (es:List PV) (b off cap:Nat) (vals:Nat->Nat->Value) (hc:es.length<=cap) (hb:es≠[]->FB m b) (hW:∀e∈es,e.cells.length=W) (hone:∀e∈es,∀c∈e.cells,c.one=true)
   (hv:∀(i:Nat) e (j:Nat) c,es[i]?=some e->e.cells[j]?=some c->w.cell? ⟨b,off+i*W+j,none⟩=some (vals i j))
   (hr:∀(i:Nat) e (j:Nat) c,es[i]?=some e->e.cells[j]?=some c->PR w FB c (vals i j)):PR w FB (.sl m W es) (.slice (some ⟨b,off,none⟩) es.length cap)
 |f5 (m:Bool) (e:PV) (b off:Nat) (vals:Nat->Value) (hb:FB m b) (hone:∀c∈e.cells,c.one=true) (hv:∀(j:Nat) c,e.cells[j]?=some c->w.cell? ⟨b,off+j,none⟩=some (vals j))
   (hr:∀(j:Nat) c,e.cells[j]?=some c->PR w FB c (vals j)):PR w FB (.f5 m e) (.pointer (some ⟨b,off,none⟩))
 |fn (f:FuncId) (caps:List PV) (vs:Array Value) (hl:vs.size=caps.length) (h:∀(i:Nat) c v,caps[i]?=some c->vs[i]?=some v->PR w FB c v):PR w FB (.fn f caps) (.func (.func f) #[] vs)
 |lp (f:FuncId) (fs:List PV) (vs:Array Value) (hl:vs.size=fs.length) (h:∀(i:Nat) c v,fs[i]?=some c->vs[i]?=some v->PR w FB c v):PR w FB (.lp f fs) (.func (.func f) vs #[])
 |mp (m:Bool) (es es0:List (PV×PV)) (hp:es0.Perm es) (b clock:Nat) (en:Array MapEntry) (hb:FB m b) (hm:w.heap[b]?=some (.map en clock)) (hl:en.size=es0.length)
   (hk:∀(i:Nat) (x:PV×PV) (e:MapEntry),es0[i]?=some x->en[i]?=some e->PR w FB x.1 e.key)
   (hv:∀(i:Nat) (x:PV×PV) (e:MapEntry),es0[i]?=some x->en[i]?=some e->PR w FB x.2 e.val)
   (hbo:∀(i:Nat) (e:MapEntry),en[i]?=some e->e.born<clock) (hd:∀(i j:Nat) (e e':MapEntry),en[i]?=some e->en[j]?=some e'->e.born=e'.born->i=j):PR w FB (.mp m es) (.map (some b))
 |raw (v:Value) (h:v.oneCell'=true):PR w FB (.raw v) v
theorem PR.mono {w w':World} {FB FB':Bool->Nat->Prop} (hF:∀m b,FB m b->FB' m b) (hh:∀m b,FB m b->w'.heap[b]?=w.heap[b]?) {p:PV} {v:Value} (h:PR w FB p v):PR w' FB' p v:=by
 have cell:∀m b o,FB m b->w'.cell? ⟨b,o,none⟩=w.cell? ⟨b,o,none⟩:=fun m b o h=>by simp only[World.cell?,hh m b h]
 induction h with
 |int k n=>exact .int k n
 |bool b=>exact .bool b
 |agg cs vs hone hl _ ih=>exact .agg cs vs hone hl ih
 |nil m W ad=>exact .nil m W ad
 |sl m W es b off cap vals hc hb hW hone hv _ ih=>
  refine .sl m W es b off cap vals hc (fun h=>hF m b (hb h)) hW hone (fun i e j c h1 h2=>?_) ih
  rw[cell m b _ (hb (by intro h;rw[h]at h1;simp at h1))];exact hv i e j c h1 h2
 |f5 m e b off vals hb hone hv _ ih=>exact .f5 m e b off vals (hF m b hb) hone (fun j c h=>by rw[cell m b _ hb];exact hv j c h) ih
 |fn f caps vs hl _ ih=>exact .fn f caps vs hl ih
 |lp f fs vs hl _ ih=>exact .lp f fs vs hl ih
 |mp m es es0 hp b clock en hb hm hl _ _ hbo hd ihk ihv=>exact .mp m es es0 hp b clock en (hF m b hb) (by rw[hh m b hb];exact hm) hl ihk ihv hbo hd
 |raw v h=>exact .raw v h
inductive ct:PV->Prop where
 |int (k n):ct (.int k n)
 |bool (b):ct (.bool b)
 |agg (cs:List PV) (h:∀c∈cs,ct c):ct (.agg cs)
 |sl (W:Nat) (es:List PV) (h:∀e∈es,∀c∈e.cells,ct c):ct (.sl false W es)
 |f5 (e:PV) (h:∀c∈e.cells,ct c):ct (.f5 false e)
 |fn (f caps) (h:∀c∈caps,ct c):ct (.fn f caps)
 |lp (f fs) (h:∀c∈fs,ct c):ct (.lp f fs)
 |mp (es:List (PV×PV)) (h:∀e∈es,ct e.1) (h':∀e∈es,ct e.2):ct (.mp false es)
 |raw (v):ct (.raw v)
def OY (FB:Bool->Nat->Prop):Bool->Nat->Prop:=fun m b=>m=false/\FB false b
theorem PR.wH {w:World} {FB:Bool->Nat->Prop} {p:PV} (hp:ct p):∀{v:Value},PR w FB p v->PR w (OY FB) p v:=by
 induction hp with
 |int k n=>intro v h;cases h;exact .int k n
 |bool b=>intro v h;cases h;exact .bool b
 |agg cs _ ih=>intro v h;cases h with|agg _ vs hone hl h=>exact .agg cs vs hone hl fun i c v h1 h2=>ih c (List.mem_of_getElem? h1) (h i c v h1 h2)
 |sl W es _ ih=>
  intro v h
  cases h with
  |nil=>exact .nil _ _ _
  |sl _ _ _ b off cap vals hc hb hW hone hv hr=>exact .sl _ _ _ b off cap vals hc (fun h=>⟨rfl,hb h⟩) hW hone hv fun i e j c h1 h2=>ih e (List.mem_of_getElem? h1) c (List.mem_of_getElem? h2) (hr i e j c h1 h2)
 |f5 e _ ih=>intro v h;cases h with|f5 _ _ b off vals hb hone hv hr=>exact .f5 _ _ b off vals ⟨rfl,hb⟩ hone hv fun j c h=>ih c (List.mem_of_getElem? h) (hr j c h)
 |fn f caps _ ih=>intro v h;cases h with|fn _ _ vs hl h=>exact .fn f caps vs hl fun i c v h1 h2=>ih c (List.mem_of_getElem? h1) (h i c v h1 h2)
 |lp f fs _ ih=>intro v h;cases h with|lp _ _ vs hl h=>exact .lp f fs vs hl fun i c v h1 h2=>ih c (List.mem_of_getElem? h1) (h i c v h1 h2)
 |mp es _ _ ih1 ih2=>
  intro v h
  cases h with
  |mp _ _ es0 hp b clock en hb hm hl hk hv hbo hd=>exact .mp _ _ es0 hp b clock en ⟨rfl,hb⟩ hm hl (fun i x e h1 h2=>ih1 x (hp.mem_iff.1 (List.mem_of_getElem? h1)) (hk i x e h1 h2)) (fun i x e h1 h2=>ih2 x (hp.mem_iff.1 (List.mem_of_getElem? h1)) (hv i x e h1 h2)) hbo hd
 |raw v=>intro x h;cases h with|raw _ h=>exact .raw v h
inductive Hd where
 |t (n:Nat)
 |r (n k:Nat)
 deriving DecidableEq,Inhabited
instance (n:Nat):OfNat Hd n:=⟨.t n⟩
instance:Coe Nat Hd:=⟨.t⟩
def Hd.key:Hd->Nat
 | .t n=>n
 | .r n _=>n
inductive AV where
 |any
 |undef
 |tf (b:Bool)
 |emp
 |rB (m:Bool) (W:Nat) (es:List PV)
 |p (v:PV)
 |aC (h:Hd) (off:Nat)
 |dO (h:Hd) (W i off:Nat)
 |vec (h:Hd) (W off len:Nat)
 |map (h:Hd)
 |agg (cs:List AV)
 |bK (cs:List AV)
 |fn (f:FuncId) (first caps:List AV)
 deriving Inhabited
def AV.one:AV->Bool
 | .p v=>v.one
 | .any| .undef| .agg _| .bK _=>false
 |_=>true
inductive VR (w:World) (FB:Bool->Nat->Prop) (β:Hd->Option Nat×Nat):AV->Value->Prop where
 |any (v:Value):VR w FB β .any v
 |undef:VR w FB β .undef (.tuple #[])
 |tf (b:Bool):VR w FB β (.tf b) (.bool b)
 |lu:VR w FB β .emp (.slice none 0 0)
 |emp (ad:Addr):VR w FB β .emp (.slice (some ad) 0 0)
 |rB {m:Bool} {W:Nat} {es:List PV} {ad:Option Addr} (h:PR w FB (.sl m W es) (.slice ad es.length es.length)):VR w FB β (.rB m W es) (.slice ad es.length es.length)
 |p {v:PV} {x:Value} (h:PR w FB v x):VR w FB β (.p v) x
 |aC {h:Hd} {off b:Nat} (hb:(β h).1=some b):VR w FB β (.aC h off) (.pointer (some ⟨b,off,none⟩))
 |dO {h:Hd} {W i off b:Nat} (hb:(β h).1=some b):VR w FB β (.dO h W i off) (.pointer (some ⟨b,i*W+off,none⟩))
 |vec {h:Hd} {W off len b o c:Nat} (hb:(β h).1=some b) (hc:len<=c) (hm:off+c<=(β h).2) (ho:c≠0->o=off*W):VR w FB β (.vec h W off len) (.slice (some ⟨b,o,none⟩) len c)
 |jZ {h:Hd} {W:Nat} (a:Option Addr) (hb:(β h).1=none):VR w FB β (.vec h W 0 0) (.slice a 0 0)
 |map {h:Hd} {b:Nat} (hb:(β h).1=some b):VR w FB β (.map h) (.map (some b))
 |agg (cs:List AV) (vs:Array Value) (hone:∀c∈cs,c.one=true) (hl:vs.size=cs.length) (h:∀(i:Nat) c v,cs[i]?=some c->vs[i]?=some v->VR w FB β c v):VR w FB β (.agg cs) (.agg vs)
 |bK (cs:List AV) (vs:Array Value) (hl:vs.size=cs.length) (h:∀(i:Nat) c v,cs[i]?=some c->vs[i]?=some v->VR w FB β c v):VR w FB β (.bK cs) (.tuple vs)
 |fn (f:FuncId) (first caps:List AV) (fs vs:Array Value) (hfl:fs.size=first.length) (hf:∀(i:Nat) c v,first[i]?=some c->fs[i]?=some v->VR w FB β c v)
   (hl:vs.size=caps.length) (h:∀(i:Nat) c v,caps[i]?=some c->vs[i]?=some v->VR w FB β c v):VR w FB β (.fn f first caps) (.func (.func f) fs vs)
mutual
def AV.aT:AV->Hd->Prop
 | .aC h _,k| .dO h _ _ _,k| .vec h _ _ _,k| .map h,k=>h=k
 | .agg cs,k| .bK cs,k=>AV.bm cs k
 | .fn _ first caps,k=>AV.bm first k\/AV.bm caps k
 |_,_=>False
def AV.bm:List AV->Hd->Prop
 |[],_=>False
 |c::cs,k=>c.aT k\/AV.bm cs k
end
theorem AV.bj {cs:List AV} {c:AV} {k:Hd} (h:c∈cs) (hk:c.aT k):AV.bm cs k:=by
 induction cs with
 |nil=>cases h
 |cons x xs ih=>
  simp only[AV.bm]
  cases h with
  |head=>exact .inl hk
  |tail _ h=>exact .inr (ih h)
theorem VR.mono {w w':World} {FB FB':Bool->Nat->Prop} {β β':Hd->Option Nat×Nat} (hF:∀m b,FB m b->FB' m b) (hh:∀m b,FB m b->w'.heap[b]?=w.heap[b]?)
  {p:AV} {v:Value} (h:VR w FB β p v):(∀k,p.aT k->β' k=β k)->VR w' FB' β' p v:=by
 induction h with
 |any v=>exact fun _=>.any v
 |undef=>exact fun _=>.undef
 |tf b=>exact fun _=>.tf b
 |lu=>exact fun _=>.lu
 |emp ad=>exact fun _=>.emp ad
 |rB h=>exact fun _=>.rB (h.mono hF hh)
 |p h=>exact fun _=>.p (h.mono hF hh)
 |aC hb=>exact fun H=>.aC (by rw[H _ rfl];exact hb)
 |dO hb=>exact fun H=>.dO (by rw[H _ rfl];exact hb)
 | @vec h W off len b o c hb hc hm ho=>intro H;have:=H h rfl;rw[<-this]at hb hm;exact .vec hb hc hm ho
 |jZ a hb=>exact fun H=>.jZ a (by rw[H _ rfl];exact hb)
 |map hb=>exact fun H=>.map (by rw[H _ rfl];exact hb)
 |agg cs vs hone hl _ ih=>exact fun H=>.agg cs vs hone hl fun i c v h1 h2=>ih i c v h1 h2 fun k hk=>H k (by simp only[AV.aT];exact AV.bj (List.mem_of_getElem? h1) hk)
 |bK cs vs hl _ ih=>exact fun H=>.bK cs vs hl fun i c v h1 h2=>ih i c v h1 h2 fun k hk=>H k (by simp only[AV.aT];exact AV.bj (List.mem_of_getElem? h1) hk)
 |fn f first caps fs vs hfl _ hl _ ih1 ih2=>
  exact fun H=>.fn f first caps fs vs hfl (fun i c v h1 h2=>ih1 i c v h1 h2 fun k hk=>H k (by simp only[AV.aT];exact .inl (AV.bj (List.mem_of_getElem? h1) hk))) hl
   (fun i c v h1 h2=>ih2 i c v h1 h2 fun k hk=>H k (by simp only[AV.aT];exact .inr (AV.bj (List.mem_of_getElem? h1) hk)))
inductive aA where
 |free
 |dead
 |box (T:TypeId) (cs:List AV)
 |vec (T:TypeId) (W:Nat) (es:List PV)
 |map (es:List (PV×PV))
 |rows (T:TypeId) (cs:List AV)
 |bu (T:TypeId) (W:Nat) (rows:List (Option (List PV)))
 |iter (m:Bool) (es:List (PV×PV)) (seen:List Nat)
 deriving Inhabited
def aA.live:aA->Prop
 | .free| .dead| .bu _ _ _=>False
 |_=>True
def aA.aT:aA->Hd->Prop
 | .box _ cs,k=>AV.bm cs k
 | .rows _ cs,k=>AV.bm cs k
 |_,_=>False
def rK (w:World) (FB:Bool->Nat->Prop) (β:Hd->Option Nat×Nat) (h:Hd):aA->Prop
 | .free| .dead| .bu _ _ _=>True
 | .box T cs=>(∀c∈cs,c.one=true)/\∃b arr,(β h).1=some b/\w.heap[b]?=some (.cells arr T (0,0))/\arr.size=cs.length/\∀(i:Nat) c v,cs[i]?=some c->arr[i]?=some v->VR w FB β c v
 | .vec T W es=>(∀e∈es,e.cells.length=W/\∀c∈e.cells,c.one=true)/\es.length<=(β h).2/\(((β h).1=none/\(β h).2=0)\/∃b arr,(β h).1=some b/\w.heap[b]?=some (.cells arr T (0,0))/\arr.size=(β h).2*W/\
   ∀(i:Nat) e (j:Nat) c v,es[i]?=some e->e.cells[j]?=some c->arr[i*W+j]?=some v->PR w FB c v)
 | .map es=>∃b en clock,(β h).1=some b/\w.heap[b]?=some (.map en clock)/\en.size=es.length/\
   (∀(i:Nat) (x:PV×PV) (e:MapEntry),es[i]?=some x->en[i]?=some e->PR w FB x.1 e.key/\PR w FB x.2 e.val)/\
   (∀(i:Nat) (e:MapEntry),en[i]?=some e->e.born<clock)/\(∀(i j:Nat) (e e':MapEntry),en[i]?=some e->en[j]?=some e'->e.born=e'.born->i=j)
 | .rows T cs=>(∀c∈cs,c.one=true)/\cs.length<=(β h).2/\(((β h).1=none/\(β h).2=0)\/∃b arr,(β h).1=some b/\w.heap[b]?=some (.cells arr T (0,0))/\arr.size=(β h).2/\∀(i:Nat) c v,cs[i]?=some c->arr[i]?=some v->VR w FB β c v)
 | .iter m es seen=>∃b mb en clock sb,(β h).1=some b/\w.heap[b]?=some (.mapIter (some mb) clock sb clock)/\FB m mb/\w.heap[mb]?=some (.map en clock)/\en.size=es.length/\
   (∀(i:Nat) (x:PV×PV) (e:MapEntry),es[i]?=some x->en[i]?=some e->PR w FB x.1 e.key/\PR w FB x.2 e.val)/\
   (∀(i:Nat) (e:MapEntry),en[i]?=some e->e.born<clock)/\(∀(i j:Nat) (e e':MapEntry),en[i]?=some e->en[j]?=some e'->e.born=e'.born->i=j)/\
   (∀(i:Nat) (e:MapEntry),en[i]?=some e->(sb.contains e.born=true↔i∈seen))/\(∀j,seen.getLast?=some j->∃e,en[j]?=some e/\sb.back?=some e.born)
theorem rK.mono {w w':World} {FB FB':Bool->Nat->Prop} {β β':Hd->Option Nat×Nat} (hF:∀m b,FB m b->FB' m b) (hh:∀m b,FB m b->w'.heap[b]?=w.heap[b]?)
  {h:Hd} {B:aA} (ho:rK w FB β h B) (hβ:B.live->β' h=β h) (hm:∀k,B.aT k->β' k=β k) (hb:B.live->∀b,(β h).1=some b->w'.heap[b]?=w.heap[b]?):rK w' FB' β' h B:=by
 cases B with
 |free=>trivial
 |dead=>trivial
 |bu T W rows=>trivial
 |box T cs=>
  obtain⟨h0,b,arr,h1,h2,h3,h4⟩:=ho
  exact⟨h0,b,arr,by rw[hβ trivial];exact h1,by rw[hb trivial b h1];exact h2,h3,fun i c v e1 e2=>(h4 i c v e1 e2).mono hF hh fun k hk=>hm k (AV.bj (List.mem_of_getElem? e1) hk)⟩
 |vec T W es=>
  obtain⟨h1,h2,h3⟩:=ho
  have e:=hβ trivial
  refine⟨h1,by rw[e];exact h2,?_⟩
  rcases h3 with h3|⟨b,arr,g1,g2,g3,g4⟩
  ·exact .inl (by rw[e];exact h3)
  ·exact .inr ⟨b,arr,by rw[e];exact g1,by rw[hb trivial b g1];exact g2,by rw[e];exact g3,fun i e j c v e1 e2 e3=>(g4 i e j c v e1 e2 e3).mono hF hh⟩
 |map es=>
  obtain⟨b,en,clock,h1,h2,h3,h4,h5,h6⟩:=ho
  exact⟨b,en,clock,by rw[hβ trivial];exact h1,by rw[hb trivial b h1];exact h2,h3,fun i x e e1 e2=>⟨(h4 i x e e1 e2).1.mono hF hh,(h4 i x e e1 e2).2.mono hF hh⟩,h5,h6⟩
 |rows T cs=>
  obtain⟨h1,h2,h3⟩:=ho
  have e:=hβ trivial
  refine⟨h1,by rw[e];exact h2,?_⟩
  rcases h3 with h3|⟨b,arr,g1,g2,g3,g4⟩
  ·exact .inl (by rw[e];exact h3)
  ·exact .inr ⟨b,arr,by rw[e];exact g1,by rw[hb trivial b g1];exact g2,by rw[e];exact g3,fun i c v e1 e2=>(g4 i c v e1 e2).mono hF hh fun k hk=>hm k (AV.bj (List.mem_of_getElem? e1) hk)⟩
 |iter m es seen=>
  obtain⟨b,mb,en,clock,sb,h1,h2,h3,h4,h5,h6,h7,h8,h9,h10⟩:=ho
  exact⟨b,mb,en,clock,sb,by rw[hβ trivial];exact h1,by rw[hb trivial b h1];exact h2,hF m mb h3,by rw[hh m mb h3];exact h4,h5,fun i x e e1 e2=>⟨(h6 i x e e1 e2).1.mono hF hh,(h6 i x e e1 e2).2.mono hF hh⟩,h7,h8,h9,h10⟩
structure Env where
 w0:World
 qh:Nat->Prop
 bW:Nat->Prop
 F0:Nat->Prop
 In:Hd->Prop
 β0:Hd->Option Nat×Nat
def aM (B F:Nat->Prop):Bool->Nat->Prop
 |true=>B
 |false=>F
structure cC (E:Env) (n:Nat) (s:Nat->AV) (L:Hd->aA) (a:Act) (w:World) (F:Nat->Prop) (β:Hd->Option Nat×Nat):Prop where
 os:w.os=E.w0.os
 tape:w.tape=E.w0.tape
 output:w.output=E.w0.output
 size:E.w0.heap.size<=w.heap.size
 p9:∀b,E.qh b->w.heap[b]?=E.w0.heap[b]?
 iT:∀b,E.qh b->b<E.w0.heap.size
 Ca:∀b,E.bW b->E.qh b
 nA:∀b,F b->b<w.heap.size
 fold:∀b,F b->b<E.w0.heap.size->E.F0 b
 own:∀h b,(L h).live->(β h).1=some b->¬F b/\¬E.qh b/\b<w.heap.size
 nG:∀h h' b,(L h).live->(L h').live->(β h).1=some b->(β h').1=some b->h=h'
 len:a.tmps.size=n
 iD:∀t,VR w (aM E.bW F) β (s t) (a.tmps.getD t Go.undef)
 d4:∀h,rK w (aM E.bW F) β h (L h)
 ms:∀t h,(s t).aT h->L h≠ .free
 mb:∀k h,(L k).aT h->L h≠ .free
 defers:a.defers=[]
 bin:∀i,E.In i->β i=E.β0 i/\L i≠ .free
 L6:∀b,E.F0 b->F b
def St (E:Env) (n:Nat) (s:Nat->AV) (L:Hd->aA) (a:Act) (w:World):Prop:=∃F β,cC E n s L a w F β
def a8 {ι α:Type} [DecidableEq ι] (f:ι->α) (t:ι) (v:α):ι->α:=fun i=>if i=t then v else f i
theorem ah {ι α:Type} [DecidableEq ι] (f:ι->α) (t:ι) (v:α):a8 f t v t=v:=if_pos rfl
theorem aj {ι α:Type} [DecidableEq ι] (f:ι->α) {t i:ι} (v:α) (h:i≠t):a8 f t v i=f i:=if_neg h
theorem St.CM {s:Nat->AV} {L:Hd->aA} (h:∀t k,(s t).aT k->L k≠ .free) {d:Nat} {v:AV} (hv:∀k,v.aT k->L k≠ .free):∀t k,(a8 s d v t).aT k->L k≠ .free:=by
 intro t k hk
 unfold a8 at hk
 split at hk
 ·exact hv k hk
 ·exact h t k hk
theorem vr (xs:Array Value) (d:Nat) (x u:Value) (h:d<xs.size):(xs.setIfInBounds d x).getD d u=x:=by
 simp[Array.getD,h]
theorem t9 (xs:Array Value) (d t:Nat) (x u:Value) (h:t≠d):(xs.setIfInBounds d x).getD t u=xs.getD t u:=by
 simp only[Array.getD,Array.size_setIfInBounds,Array.getInternal_eq_getElem]
 split
 ·exact Array.getElem_setIfInBounds_ne (by assumption) qO
 ·rfl
theorem cC.put {E:Env} {n:Nat} {s:Nat->AV} {L:Hd->aA} {a:Act} {w:World} {F:Nat->Prop} {β:Hd->Option Nat×Nat} (h:cC E n s L a w F β)
  {d:Nat} (hd:d<n) {v:AV} {x:Value} (hv:VR w (aM E.bW F) β v x) (hm:∀k,v.aT k->L k≠ .free):cC E n (a8 s d v) L (a.put (some d) x) w F β:=
 {h with
  len:=by simp[Act.put,h.len]
  iD:=by
   intro t
   unfold a8 Act.put
   by_cases e:t=d
   ·subst e;simp only[if_true];rw[vr _ _ _ _ (by rw[h.len];exact hd)];exact hv
   ·rw[if_neg e];simp only[];rw[t9 _ _ _ _ _ e];exact h.iD t
  ms:=St.CM h.ms hm
  defers:=h.defers}
theorem cC.step {E:Env} {n:Nat} {s:Nat->AV} {L L':Hd->aA} {a:Act} {w w':World} {F F':Nat->Prop} {β β':Hd->Option Nat×Nat} (h:cC E n s L a w F β)
  (hos:w'.os=w.os) (htape:w'.tape=w.tape) (hout:w'.output=w.output) (hsz:w.heap.size<=w'.heap.size)
  (hF:∀b,F b->F' b) (hFlt:∀b,F' b->b<w'.heap.size) (hfold:∀b,F' b->b<E.w0.heap.size->E.F0 b)
  (hkeep:∀b,E.qh b->w'.heap[b]?=w.heap[b]?) (hsame:∀b,F b->w'.heap[b]?=w.heap[b]?)
  (hβ:∀k,L k≠ .free->β' k=β k) (hLf:∀k,L k≠ .free->L' k≠ .free)
  (hblk:∀k,(L' k=L k/\((L k).live->∀b,(β k).1=some b->w'.heap[b]?=w.heap[b]?))\/(rK w' (aM E.bW F') β' k (L' k)/\∀j,(L' k).aT j->L' j≠ .free))
  (hown:∀k b,(L' k).live->(β' k).1=some b->¬F' b/\¬E.qh b/\b<w'.heap.size)
  (hdis:∀k k' b,(L' k).live->(L' k').live->(β' k).1=some b->(β' k').1=some b->k=k'):cC E n s L' a w' F' β':=by
 have hFB:∀m b,aM E.bW F m b->aM E.bW F' m b:=by intro m b;cases m;exact hF b;exact id
 have hFs:∀m b,aM E.bW F m b->w'.heap[b]?=w.heap[b]?:=by intro m b hb;cases m;exact hsame b hb;exact hkeep b (h.Ca b hb)
 exact{
  os:=hos.trans h.os,tape:=htape.trans h.tape,output:=hout.trans h.output,size:=Nat.le_trans h.size hsz
  p9:=fun b hb=>(hkeep b hb).trans (h.p9 b hb),iT:=h.iT,Ca:=h.Ca,nA:=hFlt,fold:=hfold,own:=hown,nG:=hdis,len:=h.len
  iD:=fun t=>(h.iD t).mono hFB hFs fun k hk=>hβ k (h.ms t k hk)
  d4:=by
   intro k
   rcases hblk k with⟨e,hb⟩|⟨ho,_⟩
   ·rw[e]
    refine(h.d4 k).mono hFB hFs (fun hl=>hβ k (by intro e';rw[e']at hl;exact hl)) (fun j hj=>hβ j (h.mb k j hj)) hb
   ·exact ho
  ms:=fun t k hk=>hLf k (h.ms t k hk)
  mb:=by
   intro k j hj
   rcases hblk k with⟨e,_⟩|⟨_,hm⟩
   ·rw[e]at hj;exact hLf j (h.mb k j hj)
   ·exact hm j hj
  defers:=h.defers
  bin:=fun i hi=>⟨(hβ i (h.bin i hi).2).trans (h.bin i hi).1,hLf i (h.bin i hi).2⟩
  L6:=fun b hb=>hF b (h.L6 b hb)}
theorem PR.gG {w FB} {p:PV} {v:Value} (h:PR w FB p v) (hp:p.one=true):v.oneCell'=true:=by
 cases h<;>first|rfl|assumption|exact Bool.noConfusion hp
theorem VR.gG {w FB β} {p:AV} {v:Value} (h:VR w FB β p v) (hp:p.one=true):v.oneCell'=true:=by
 cases h<;>first|rfl|(rename_i h;exact h.gG hp)|exact Bool.noConfusion hp
theorem iv {v:Value} (h:v.oneCell'=true):v.cells= #[v]:=by
 cases v<;>first|rfl|exact Bool.noConfusion h
theorem aA.ck {B:aA} (h:B.live):B≠ .free:=by intro e;rw[e]at h;exact h
theorem cC.still {E:Env} {n:Nat} {s:Nat->AV} {L:Hd->aA} {a:Act} {w w':World} {F:Nat->Prop} {β:Hd->Option Nat×Nat} (h:cC E n s L a w F β)
  (hos:w'.os=w.os) (htape:w'.tape=w.tape) (hout:w'.output=w.output) (hh:w'.heap=w.heap):cC E n s L a w' F β:=
 h.step hos htape hout (by rw[hh];exact Nat.le_refl _) (fun _=>id) (by rw[hh];exact h.nA) h.fold (fun _ _=>by rw[hh]) (fun _ _=>by rw[hh]) (fun _ _=>rfl) (fun _=>id)
  (fun _=>.inl ⟨rfl,fun _ _ _=>by rw[hh]⟩) (by rw[hh];exact h.own) h.nG
theorem cC.push {E:Env} {n:Nat} {s:Nat->AV} {L:Hd->aA} {a:Act} {w w':World} {F:Nat->Prop} {β:Hd->Option Nat×Nat} (h:cC E n s L a w F β) (o:Obj)
  (hos:w'.os=w.os) (htape:w'.tape=w.tape) (hout:w'.output=w.output) (hh:w'.heap=w.heap.push o):cC E n s L a w' F β:=by
 have key:∀b,b<w.heap.size->w'.heap[b]?=w.heap[b]?:=fun b hb=>by rw[hh,Array.getElem?_push,if_neg qO]
 have hs:w'.heap.size=w.heap.size+1:=by rw[hh];simp
 have kl:∀b,E.qh b->b<w.heap.size:=fun b hb=>Nat.lt_of_lt_of_le (h.iT b hb) h.size
 refine h.step hos htape hout qO (fun _=>id) (fun b hb=>by have:=h.nA b hb;omega) h.fold (fun b hb=>key b (kl b hb)) (fun b hb=>key b (h.nA b hb)) (fun _ _=>rfl) (fun _=>id)
  (fun k=>.inl ⟨rfl,fun hl b hb=>key b (h.own k b hl hb).2.2⟩) (fun k b h1 h2=>?_) h.nG
 have:=h.own k b h1 h2
 exact⟨this.1,this.2.1,qO⟩
theorem cC.alloc {E:Env} {n:Nat} {s:Nat->AV} {L:Hd->aA} {a:Act} {w w':World} {F:Nat->Prop} {β:Hd->Option Nat×Nat} (h:cC E n s L a w F β) (o:Obj) (B:aA) (nh:Hd) (cap:Nat)
  (hos:w'.os=w.os) (htape:w'.tape=w.tape) (hout:w'.output=w.output) (hh:w'.heap=w.heap.push o) (hfree:L nh= .free)
  (hO:rK w' (aM E.bW F) (a8 β nh (some w.heap.size,cap)) nh B) (hlive:B.live) (hmen:∀j,B.aT j->L j≠ .free):
  cC E n s (a8 L nh B) a w' F (a8 β nh (some w.heap.size,cap)):=by
 have key:∀b,b<w.heap.size->w'.heap[b]?=w.heap[b]?:=fun b hb=>by rw[hh,Array.getElem?_push,if_neg qO]
 have hs:w'.heap.size=w.heap.size+1:=by rw[hh];simp
 have kl:∀b,E.qh b->b<w.heap.size:=fun b hb=>Nat.lt_of_lt_of_le (h.iT b hb) h.size
 have ne:∀k,L k≠ .free->k≠nh:=fun k hk e=>hk (e▸hfree)
 have oldlt:∀k b,(L k).live->(β k).1=some b->b<w.heap.size:=fun k b h1 h2=>(h.own k b h1 h2).2.2
 refine h.step hos htape hout qO (fun _=>id) (fun b hb=>by have:=h.nA b hb;omega) h.fold (fun b hb=>key b (kl b hb)) (fun b hb=>key b (h.nA b hb))
  (fun k hk=>aj _ _ (ne k hk)) (fun k hk=>by rw[aj _ _ (ne k hk)];exact hk) (fun k=>?_) (fun k b h1 h2=>?_) (fun k k' b h1 h2 h3 h4=>?_)
 ·by_cases e:k=nh
  ·subst e;rw[ah]
   refine .inr ⟨hO,fun j hj=>?_⟩
   by_cases e':j=k
   ·subst e';rw[ah];exact aA.ck hlive
   ·rw[aj _ _ e'];exact hmen j hj
  ·rw[aj _ _ e];exact .inl ⟨rfl,fun hl b hb=>key b (oldlt k b hl hb)⟩
 ·by_cases e:k=nh
  ·subst e;rw[ah]at h2;simp only[Option.some.injEq]at h2;subst h2
   exact⟨fun hb=>by have:=h.nA _ hb;omega,fun hb=>by have:=kl _ hb;omega,qO⟩
  ·rw[aj _ _ e]at h1 h2
   have:=h.own k b h1 h2
   exact⟨this.1,this.2.1,qO⟩
 ·by_cases e:k=nh<;>by_cases e':k'=nh
  ·rw[e,e']
  ·subst e;rw[ah]at h3;rw[aj _ _ e']at h2 h4;simp only[Option.some.injEq]at h3;subst h3;have:=oldlt k' _ h2 h4;omega
  ·subst e';rw[ah]at h4;rw[aj _ _ e]at h1 h3;simp only[Option.some.injEq]at h4;subst h4;have:=oldlt k _ h1 h3;omega
  ·rw[aj _ _ e]at h1 h3;rw[aj _ _ e']at h2 h4;exact h.nG k k' b h1 h2 h3 h4
theorem cC.write {E:Env} {n:Nat} {s:Nat->AV} {L:Hd->aA} {a:Act} {w w':World} {F:Nat->Prop} {β:Hd->Option Nat×Nat} (h:cC E n s L a w F β) (B:aA) (hd:Hd) {bk:Nat}
  (hos:w'.os=w.os) (htape:w'.tape=w.tape) (hout:w'.output=w.output) (hsz:w'.heap.size=w.heap.size) (hb:(β hd).1=some bk) (hh:∀b,b≠bk->w'.heap[b]?=w.heap[b]?)
  (hl0:(L hd).live) (hO:rK w' (aM E.bW F) β hd B) (hlive:B.live) (hmen:∀j,B.aT j->L j≠ .free):cC E n s (a8 L hd B) a w' F β:=by
 have own:=h.own hd bk hl0 hb
 have hL:∀k,(a8 L hd B k).live->(L k).live:=by
  intro k hk
  by_cases e:k=hd
  ·subst e;exact hl0
  ·rwa[aj _ _ e]at hk
 refine h.step hos htape hout qO (fun _=>id) (fun b hb=>by have:=h.nA b hb;omega) h.fold (fun b hb=>hh b (fun e=>own.2.1 (e▸hb))) (fun b hb=>hh b (fun e=>own.1 (e▸hb))) (fun _ _=>rfl)
  (fun k hk=>?_) (fun k=>?_) (fun k b h1 h2=>?_) (fun k k' b h1 h2 h3 h4=>h.nG k k' b (hL k h1) (hL k' h2) h3 h4)
 ·by_cases e:k=hd
  ·subst e;rw[ah];exact aA.ck hlive
  ·rw[aj _ _ e];exact hk
 ·by_cases e:k=hd
  ·subst e;rw[ah]
   refine .inr ⟨hO,fun j hj=>?_⟩
   by_cases e':j=k
   ·subst e';rw[ah];exact aA.ck hlive
   ·rw[aj _ _ e'];exact hmen j hj
  ·rw[aj _ _ e];exact .inl ⟨rfl,fun hl b hb=>hh b (fun e'=>e (h.nG k hd b hl hl0 hb (e'▸‹(β hd).1=some bk›)))⟩
 ·have:=h.own k b (hL k h1) h2
  exact⟨this.1,this.2.1,qO⟩
theorem cC.kill {E:Env} {n:Nat} {s:Nat->AV} {L:Hd->aA} {a:Act} {w:World} {F:Nat->Prop} {β:Hd->Option Nat×Nat} (h:cC E n s L a w F β) (hd:Hd):cC E n s (a8 L hd .dead) a w F β:=by
 have hL:∀k,(a8 L hd .dead k).live->(L k).live/\k≠hd:=by
  intro k hk
  by_cases e:k=hd
  ·subst e;rw[ah]at hk;exact hk.elim
  ·rw[aj _ _ e]at hk;exact⟨hk,e⟩
 refine h.step rfl rfl rfl (Nat.le_refl _) (fun _=>id) h.nA h.fold (fun _ _=>rfl) (fun _ _=>rfl) (fun _ _=>rfl) (fun k hk=>?_) (fun k=>?_) (fun k b h1 h2=>h.own k b (hL k h1).1 h2)
  (fun k k' b h1 h2 h3 h4=>h.nG k k' b (hL k h1).1 (hL k' h2).1 h3 h4)
 ·by_cases e:k=hd
  ·subst e;rw[ah];exact fun e=>by cases e
  ·rw[aj _ _ e];exact hk
 ·by_cases e:k=hd
  ·subst e;rw[ah];exact .inr ⟨trivial,fun j hj=>hj.elim⟩
  ·rw[aj _ _ e];exact .inl ⟨rfl,fun _ _ _=>rfl⟩
section
inductive Ty where
 |int (k:IntKind)
 |bool
 |slice (e:TypeId)
 |struct (fs:List (Nat×TypeId))
 |array (n:Nat) (e:TypeId)
 |map (k e:TypeId)
 |string
 |other
structure TI where
 d:Ty
 size:Nat
 bytes:Nat
 zero:List PV
 eq:Bool:=false
def Ty.agg:Ty->Bool
 | .struct _| .array _ _=>true
 |_=>false
def s5 (P:Program) (t:TypeId):Ty->Prop
 | .int k=>P.underlying t=some (.int k)
 | .bool=>P.underlying t=some .bool
 | .slice e=>P.underlying t=some (.slice e)
 | .struct fs=>∃fields:Array Field,P.underlying t=some (.struct fields)/\fields.toList.map (fun f=>(f.offset,f.type))=fs
 | .array n e=>P.underlying t=some (.array n e)
 | .map k e=>P.underlying t=some (.map k e)
 | .string=>P.underlying t=some .string
 | .other=>∃d,P.underlying t=some d/\(match d with| .struct _| .array _ _=>False|_=>True)
inductive I3:List Value->List Value->Bool->Prop
 |nil:I3 [] [] true
 |int {k a b xs ys r} (h:I3 xs ys r):I3 (.int k a::xs) (.int k b::ys) ((a==b)&&r)
 |bool {a b xs ys r} (h:I3 xs ys r):I3 (.bool a::xs) (.bool b::ys) ((a==b)&&r)
inductive iB:List PV->List Value->Prop
 |nil:iB [] []
 |int {k z a zs vs} (h:iB zs vs):iB (.int k z::zs) (.int k a::vs)
 |bool {z a zs vs} (h:iB zs vs):iB (.bool z::zs) (.bool a::vs)
def lJ:List PV->List PV->Bool
 |[],[]=>true
 | .int k _::zs,.int k' _::xs=>decide (k=k')&&lJ zs xs
 | .bool _::zs,.bool _::xs=>lJ zs xs
 |_,_=>false
structure oJ (P:Program) (t:TypeId) (i:TI):Prop where
 desc:s5 P t i.d
 info:∃info z,P.info? t=some info/\info.size=i.size/\info.bytes=i.bytes/\info.zero=some z/\z.cells.size=i.size/\i.zero.length=i.size/\
  (∀w FB (j:Nat) c v,i.zero[j]?=some c->z.cells[j]?=some v->PR w FB c v)
 plain:∀c∈i.zero,c.one=true
 eqs:i.eq=true->P.eqGuardType P.depth t=false/\∀w xs ys r,I3 xs ys r->iB i.zero xs->(Op.equal t (.agg xs.toArray) (.agg ys.toArray)).run P w= .ok r w
 keys:i.eq=true->∀w b xs,iB i.zero xs->(Instr.checkKey b 10000 t (.agg xs.toArray)).run P w= .ok () w
 Mx:∀info z,P.info? t=some info->info.zero=some z->(i.d.agg=true->∃arr,z= .agg arr)/\(i.d.agg=false->z.cells= #[z])
 NV:∀info z e,P.info? t=some info->info.zero=some z->i.d= .slice e->z= .slice none 0 0
abbrev oy:=TypeId->Option TI
def gW (P:Program) (Γ:oy):Prop:=∀t i,Γ t=some i->oJ P t i
def aA.top:aA->aA
 | .bu _ _ _=>.dead
 |B=>B
def aA.row:aA->Nat->aA
 | .bu T W rs,k=>match rs[k]? with
  |some (some es)=>.vec T W es
  |some none=>.dead
  |none=>.free
 |_,_=>.free
def look (H:List aA):Hd->aA
 | .t n=>(H.getD n .free).top
 | .r n k=>(H.getD n .free).row k
def Hd.beq:Hd->Hd->Bool
 | .t a,.t b=>Nat.beq a b
 | .r a b,.r c d=>Nat.beq a c&&Nat.beq b d
 |_,_=>false
def fZ (L:Hd->aA) (n:Nat):Prop:=L (.t n)= .free/\∀k,L (.r n k)= .free
def PV.x9:List PV->List PV->Bool
 |[],[]=>true
 | .int k a::xs,.int k' b::ys=>decide (k=k')&&((a==b)&&PV.x9 xs ys)
 | .bool a::xs,.bool b::ys=>(a==b)&&PV.x9 xs ys
 |_,_=>false
def PV.iZ:PV->PV->Bool
 | .agg xs,.agg ys=>PV.x9 xs ys
 | .int k a,.int k' b=>decide (k=k')&&a==b
 |_,_=>false
structure Dq (w:World) (F bW:Nat->Prop) (β:Hd->Option Nat×Nat) (args:List AV) (Hin:List aA) (vs:List Value):Prop where
 len:vs.length=args.length
 rel:∀(i:Nat) a v,args[i]?=some a->vs[i]?=some v->VR w (aM bW F) β a v
 d4:∀h,rK w (aM bW F) β h (look Hin h)
 nA:∀b,F b->b<w.heap.size
 blt:∀b,bW b->b<w.heap.size
 own:∀h b,(look Hin h).live->(β h).1=some b->¬F b/\¬bW b/\b<w.heap.size
 nG:∀h h' b,(look Hin h).live->(look Hin h').live->(β h).1=some b->(β h').1=some b->h=h'
 ma:∀a∈args,∀k,a.aT k->look Hin k≠ .free
 mb:∀h k,(look Hin h).aT k->look Hin k≠ .free
def fR:Nat->Prop:=fun _=>False
structure L7 (w:World) (F:Nat->Prop) (β:Hd->Option Nat×Nat) (Hin:List aA) (r:AV) (Hout:List aA) (v:Value) (w':World) (F':Nat->Prop) (β':Hd->Option Nat×Nat):Prop where
 os:w'.os=w.os
 tape:w'.tape=w.tape
 output:w'.output=w.output
 size:w.heap.size<=w'.heap.size
 same:∀b,b<w.heap.size->(∀h,(look Hin h).live->(β h).1≠some b)->w'.heap[b]?=w.heap[b]?
 nA:∀b,F' b->b<w'.heap.size
 fold:∀b,F' b->b<w.heap.size->F b
 IJ:∀b,F b->F' b
 LX:∀h,look Hin h≠ .free->β' h=β h
 rel:VR w' (aM fR F') β' r v
 d4:∀h,rK w' (aM fR F') β' h (look Hout h)
 own:∀h b,(look Hout h).live->(β' h).1=some b->¬F' b/\b<w'.heap.size/\(b<w.heap.size->∃h',(look Hin h').live/\(β h').1=some b)
 nG:∀h h' b,(look Hout h).live->(look Hout h').live->(β' h).1=some b->(β' h').1=some b->h=h'
 mr:∀k,r.aT k->look Hout k≠ .free
 mb:∀h k,(look Hout h).aT k->look Hout k≠ .free
 nf:∀h,look Hin h≠ .free->look Hout h≠ .free
structure df (P:Program) (f:FuncId) (args:List AV) (Hin:List aA) (r:AV) (Hout:List aA):Prop where
 fn:∃fn,P.funcs[f]?=some fn/\(fn.name== "runtime.NumGoroutine")=false/\fn.body.isNone=false
 run:∀w F bW β vs,Dq w F bW β args Hin vs->Calls P f vs.toArray w fun e w'=>∃v F' β',e= .returned v/\L7 w F β Hin r Hout v w' F' β'
abbrev ae (P:Program) (f:FuncId) (args:List PV) (r:AV) (nb:List aA):Prop:=df P f (args.map .p) [] r nb
inductive ai (k:IntKind) (e:Int) (K:Int->Prop):Prop
 |mk (z:Int) (h:k.wrap e=z) (hk:K z)
inductive iK (b:Bool) (A B:Prop):Prop
 |mk (h1:b=true->A) (h2:b=false->B)
inductive ao (b:Bool) (K:AV->Prop):Prop
 |sym (hk:K (.p (.bool b)))
 |yes (h:b=true) (hk:K (.tf true))
 |no (h:b=false) (hk:K (.tf false))
inductive aF (es:List PV) (i:Int) (K:Nat->PV->Prop):Prop
 |mk (j:Nat) (e:PV) (hi:i=j) (h:es[j]?=some e) (hk:K j e)
inductive aK (i:Int) (n:Nat) (K:Nat->Prop):Prop
 |mk (j:Nat) (hi:i=j) (h:j<n) (hk:K j)
inductive cm (i n:Nat) (K:Prop):Prop
 |mk (h:i<n) (hk:K)
inductive cy (n:Int) (bytes:Nat) (K:Nat->Prop):Prop
 |mk (j:Nat) (hi:n=j) (h:j*bytes<=140737488355328) (h':j<=140737488355328) (hk:K j)
inductive OU (A B:Prop):Prop
 |e (h:A)
 |s (h:B)
inductive Ou (A B:Prop):Prop
 |vec (h:A)
 |rows (h:B)
inductive cG (n bytes:Nat) (K:Prop):Prop
 |mk (h:n*bytes<=140737488355328) (h':n<=140737488355328) (hk:K)
inductive yk (y:Int) (K:Prop):Prop
 |mk (h:y≠0) (hk:K)
inductive DH (y:Int) (K:Prop):Prop
 |mk (h:0<=y) (hk:K)
inductive SZ (e:Int) (K:Int->Prop):Prop
 |mk (z:Int) (h:e=z) (hk:K z)
inductive dp (es:List PV) (K:List PV->Prop):Prop
 |mk (es':List PV) (h:es=es') (hk:K es')
inductive uT (len:Nat) (K:Bool->Prop):Prop
 |mk (h1:len≠0->K false) (h2:len=0->K true/\K false)
inductive iq (a b:Nat) (K:Prop):Prop
 |mk (h:a=b) (hk:K)
inductive pa (e:Nat) (K:Nat->Prop):Prop
 |mk (z:Nat) (h:e=z) (hk:K z)
inductive fO (lo hi:Int) (n:Nat) (K:Nat->Nat->Prop):Prop
 |mk (l h:Nat) (hl:lo=l) (hh:hi=h) (h1:l<=h) (h2:h<=n) (hk:K l h)
inductive H4 (c A B C:Prop):Prop
 |sl (h:A)
 |emp (hc:c) (h:B)
 |rB (h:C)
def MO (mx:Option Operand) (l h:Nat) (A B C:Prop):Prop:=
 match mx with
 |none=>A
 |some _=>H4 (l=h) A B C
inductive bJ (cs:List AV) (i:Int) (K:AV->Prop):Prop
 |mk (j:Nat) (c:AV) (hi:i=j) (h:cs[j]?=some c) (hk:K c)
inductive rR (es:List AV) (K:List AV->Prop):Prop
 |mk (es':List AV) (h:es=es') (hk:K es')
inductive Me (es:List PV) (K:Prop):Prop
 |mk (h:∀e∈es,e.one=true) (hk:K)
inductive bl (es:List PV) (off len:Nat) (K:List PV->Prop):Prop
 |mk (es':List PV) (h:(es.drop off).take len=es') (hl:off+len<=es.length) (hk:K es')
mutual
def AV.dm (ρ:Hd->Hd):AV->AV
 | .aC h o=>.aC (ρ h) o
 | .dO h W i o=>.dO (ρ h) W i o
 | .vec h W o l=>.vec (ρ h) W o l
 | .map h=>.map (ρ h)
 | .agg cs=>.agg (AV.de ρ cs)
 | .bK cs=>.bK (AV.de ρ cs)
 | .fn f fs cs=>.fn f (AV.de ρ fs) (AV.de ρ cs)
 | .any=>.any
 | .undef=>.undef
 | .tf b=>.tf b
 | .emp=>.emp
 | .rB m W es=>.rB m W es
 | .p v=>.p v
def AV.de (ρ:Hd->Hd):List AV->List AV
 |[]=>[]
 |c::cs=>c.dm ρ::AV.de ρ cs
end
def aA.dm (ρ:Hd->Hd):aA->aA
 | .box T cs=>.box T (AV.de ρ cs)
 | .rows T cs=>.rows T (AV.de ρ cs)
 |B=>B
def fk (hs:List Nat) (base:Nat) (i:Nat):Nat:=if i<hs.length then hs.getD i 0 else base+(i-hs.length)
def bz (hs:List Nat) (base:Nat):Hd->Hd
 | .t i=>.t (fk hs base i)
 | .r i k=>.r (fk hs base i) k
structure OL (w:World) (F bW:Nat->Prop) (r:PV) (v:Value) (w':World) (F':Nat->Prop):Prop where
 os:w'.os=w.os
 tape:w'.tape=w.tape
 output:w'.output=w.output
 size:w.heap.size<=w'.heap.size
 same:∀b,b<w.heap.size->w'.heap[b]?=w.heap[b]?
 nA:∀b,F' b->b<w'.heap.size
 fold:∀b,F' b->b<w.heap.size->F b
 IJ:∀b,F b->F' b
 rel:PR w' (aM bW F') r v
structure Df (P:Program) (f:FuncId) (args:List PV) (r:PV):Prop where
 fn:∃fn,P.funcs[f]?=some fn/\(fn.name== "runtime.NumGoroutine")=false/\fn.body.isNone=false
 run:∀w F bW β vs,Dq w F bW β (args.map .p) [] vs->Calls P f vs.toArray w fun e w'=>∃v F',e= .returned v/\OL w F bW r v w' F'
inductive aa (P:Program) (wr:Bool) (f:FuncId) (raw args:List AV) (L:Hd->aA) (base:Nat) (K:AV->List (Hd×aA)->Prop):Prop
 |mk (hs:List Nat) (args':List AV) (r:AV) (Hin Hout:List aA) (hw:wr=false->hs=[]) (hn:hs.Nodup) (hb:∀h∈hs,h<base) (ha:AV.de (bz hs base) args'=args)
   (hin0:Hin.length=hs.length) (hin:∀(i h:Nat) B,hs[i]?=some h->Hin[i]?=some B->L (.t h)=(B.dm (bz hs base)).top/\∀k,L (.r h k)=B.row k) (hl:∀B∈Hin,B≠ .free/\B≠ .dead) (hm:∀B∈Hin,∀k,B.aT k->k.key<hs.length)
   (hlen:hs.length<=Hout.length) (hfree:∀B∈Hout,B≠ .free) (hargs:∀a∈args',∀k,a.aT k->k.key<hs.length) (hc:df P f args' Hin r Hout)
   (hk:K (r.dm (bz hs base)) (Hout.zipIdx.map fun x=>(.t (fk hs base x.2),x.1.dm (bz hs base)))):aa P wr f raw args L base K
 |FH (pvs:List PV) (r:PV) (hraw:pvs.map .p=raw) (hc:Df P f pvs r) (hk:K (.p r) []):aa P wr f raw args L base K
inductive py (L:Hd->aA):AV->PV->Prop
 |p (v:PV) (h:v.one=true):py L (.p v) v
 |vec {h:Hd} {W off len:Nat} {T:TypeId} {es:List PV} (hL:L h= .vec T W es) (hl:off+len<=es.length):py L (.vec h W off len) (.sl true W ((es.drop off).take len))
inductive ie (L:Hd->aA) (cs:List AV) (len:Nat) (K:List PV->Prop):Prop
 |mk (ps:List PV) (hlen:len=cs.length) (hl:ps.length=cs.length) (h:∀(i:Nat) c p,cs[i]?=some c->ps[i]?=some p->py L c p) (hk:K ps)
inductive eo (es:List (PV×PV)) (k:PV) (K:Option PV->Prop):Prop
 |yes (i:Nat) (e:PV×PV) (h:es[i]?=some e) (he:PV.iZ k e.1=true) (hf:∀j e',j≠i->es[j]?=some e'->PV.iZ k e'.1=false) (hk:K (some e.2))
 |no (h:∀e∈es,PV.iZ k e.1=false) (hk:K none)
inductive dZ (es:List (PV×PV)) (k v:PV) (K:List (PV×PV)->Prop):Prop
 |iN (i:Nat) (e:PV×PV) (es':List (PV×PV)) (h:es[i]?=some e) (he:PV.iZ k e.1=true) (hf:∀j e',j<i->es[j]?=some e'->PV.iZ k e'.1=false) (hs:es.set i (k,v)=es') (hk:K es')
 |new (es':List (PV×PV)) (h:∀e∈es,PV.iZ k e.1=false) (hs:es++[(k,v)]=es') (hk:K es')
inductive HF (es:List (PV×PV)) (seen:List Nat) (K:PV×PV->Prop):Prop
 |mk (j:Nat) (e:PV×PV) (hj:seen.getLast?=some j) (he:es[j]?=some e) (hk:K e)
inductive bn (b:PV->Bool) (es:List (PV×PV)) (K:Prop):Prop
 |mk (h:∀e∈es,b e.1=true) (hk:K)
inductive JA (es:List (PV×PV)) (seen:List Nat) (A:Nat->PV×PV->Prop) (B:Prop):Prop
 |mk (h:∀i e,es[i]?=some e->i∉seen->A i e) (hend:(∀i,i<es.length->i∈seen)->B):JA es seen A B
def Ce:List AV->Nat->(AV->Prop)->Prop
 |[],_,_=>False
 |c::_,0,K=>K c
 |_::cs,i+1,K=>Ce cs i K
def po:List PV->Nat->(PV->Prop)->Prop
 |[],_,_=>False
 |c::_,0,K=>K c
 |_::cs,i+1,K=>po cs i K
def uk:List PV->(List AV->Prop)->Prop
 |[],K=>K []
 |c::cs,K=>uk cs fun l=>K (.p c::l)
def ij:List AV->(List PV->Prop)->(List AV->Prop)->Prop
 |[],K,_=>K []
 | .p v::cs,K,J=>ij cs (fun l=>K (v::l)) (fun l=>J (.p v::l))
 | .tf b::cs,K,J=>ij cs (fun l=>K (.bool b::l)) (fun l=>J (.tf b::l))
 |c::cs,_,J=>rebuild cs fun l=>J (c::l)
where
 rebuild:List AV->(List AV->Prop)->Prop
  |[],K=>K []
  |c::cs,K=>rebuild cs fun l=>K (c::l)
def i9:List AV->Nat->List AV->(List AV->Prop)->Prop
 |[],0,[],K=>K []
 |[],_,_,_=>False
 |c::cs,0,[],K=>ij.rebuild (c::cs) K
 |_::cs,0,v::vs,K=>i9 cs 0 vs fun l=>K (v::l)
 |c::cs,o+1,vs,K=>i9 cs o vs fun l=>K (c::l)
def gM:List AV->Nat->Nat->(List AV->Prop)->Prop
 |_,0,0,K=>K []
 |[],_,_,_=>False
 |c::cs,0,n+1,K=>gM cs 0 n fun l=>K (c::l)
 |_::cs,o+1,n,K=>gM cs o n K
def iP:List PV->Nat->Nat->(List PV->Prop)->Prop
 |_,0,0,K=>K []
 |[],_,_,_=>False
 |c::cs,0,n+1,K=>iP cs 0 n fun l=>K (c::l)
 |_::cs,o+1,n,K=>iP cs o n K
def wb (cs:List AV) (K:AV->Prop):Prop:=ij cs (fun l=>K (.p (.agg l))) (fun l=>K (.agg l))
section
variable (Γ:oy) (P:Program)
def uO (t:TypeId) (v:AV) (K:PV->Prop):Prop:=
 match v with
 | .p v=>K v
 | .tf b=>K (.bool b)
 | .emp=>match Γ t with
  |some ⟨.slice e,_,_,_,_⟩=>match Γ e with
   |some i=>K (.sl false i.size [])
   |none=>False
  |_=>False
 | .agg cs=>ij cs (fun l=>K (.agg l)) (fun _=>False)
 | .fn f [] caps=>ij caps (fun l=>K (.fn f l)) (fun _=>False)
 | .fn f (c0::fs) []=>ij (c0::fs) (fun l=>K (.lp f l)) (fun _=>False)
 |_=>False
def cellsOf (t:TypeId) (v:AV) (K:List AV->Prop):Prop:=
 match v with
 | .p (.agg cs)=>uk cs K
 | .p v=>K [.p v]
 | .tf b=>K [.tf b]
 | .emp=>uO Γ t .emp fun v=>K [.p v]
 | .agg cs=>K cs
 | .aC h o=>K [.aC h o]
 | .dO h W i o=>K [.dO h W i o]
 | .vec h W o l=>K [.vec h W o l]
 | .map h=>K [.map h]
 | .fn f fs cs=>K [.fn f fs cs]
 |_=>False
def A1 (t:TypeId) (v:AV) (K:List AV->Prop):Prop:=
 match v with
 | .emp=>OU (K [.emp]) (cellsOf Γ t .emp K)
 |v=>cellsOf Γ t v K
def vE (L:Hd->aA) (LK:Hd->(aA->Prop)->Prop) (c:AV) (K:PV->Prop):Prop:=
 match c with
 | .vec h W off len=>LK h fun B=>match B with
  | .vec _ W' es=>cond (Nat.beq W W') (bl es off len fun es'=>K (.sl true W es')) False
  | .rows _ cs=>cond (Nat.beq W 1&&Nat.beq off 0) (ie L cs len fun ps=>K (.sl true 1 ps)) False
  |_=>False
 | .map h=>LK h fun B=>match B with
  | .map es=>K (.mp true es)
  |_=>False
 | .p v=>cond v.one (K v) False
 | .tf b=>K (.bool b)
 |_=>False
def g7 (L:Hd->aA) (LK:Hd->(aA->Prop)->Prop):List AV->(List PV->Prop)->Prop
 |[],K=>K []
 |c::cs,K=>vE L LK c fun v=>g7 L LK cs fun l=>K (v::l)
def gJ (L:Hd->aA) (LK:Hd->(aA->Prop)->Prop) (t:TypeId) (v:AV) (K:AV->Prop):Prop:=
 match v with
 | .vec h W off len=>LK h fun B=>match B with
  | .vec _ W' es=>cond (Nat.beq W W') (bl es off len fun es'=>K (.p (.sl true W es'))) False
  |_=>False
 | .aC h 0=>LK h fun B=>match B with
  | .box T cs=>match Γ T with
   |some i=>match i.d.agg with
    |true=>ij cs (fun l=>K (.p (.f5 true (.agg l)))) (fun cs=>g7 L LK cs fun l=>K (.p (.f5 true (.agg l))))
    |false=>ij cs (fun l=>match l with
     |[c]=>cond c.one (K (.p (.f5 true c))) False
     |_=>False) (fun _=>False)
   |none=>False
  |_=>False
 | .map h=>LK h fun B=>match B with
  | .map es=>K (.p (.mp true es))
  |_=>False
 |v=>uO Γ t v fun v=>K (.p v)
def fA (L:Hd->aA) (LK:Hd->(aA->Prop)->Prop):List AV->(List PV->Prop)->Prop
 |[],K=>K []
 |c::cs,K=>gJ Γ L LK 0 c fun v=>match v with
  | .p v=>fA L LK cs fun l=>K (v::l)
  |_=>False
def sJ (L:Hd->aA) (LK:Hd->(aA->Prop)->Prop) (t:TypeId) (v:AV) (K:AV->Prop):Prop:=
 match v with
 | .fn f [] caps=>fA Γ L LK caps fun l=>K (.p (.fn f l))
 | .fn f (c0::fs) []=>fA Γ L LK (c0::fs) fun l=>K (.p (.lp f l))
 | .agg cs=>fA Γ L LK cs fun l=>cond (l.all PV.one) (K (.p (.agg l))) False
 | .vec h 1 0 len=>LK h fun B=>match B with
  | .rows _ cs=>ie L cs len fun ps=>K (.p (.sl true 1 ps))
  | .vec _ W' es=>cond (Nat.beq 1 W') (bl es 0 len fun es'=>K (.p (.sl true 1 es'))) False
  |_=>False
 |v=>gJ Γ L LK t v K
def IY (t:TypeId) (v:AV) (K:AV->Prop):Prop:=
 match v with
 | .vec h W o l=>K (.vec h W o l)
 | .aC h o=>K (.aC h o)
 | .map h=>K (.map h)
 |v=>uO Γ t v fun v=>K (.p v)
def lE (L:Hd->aA) (LK:Hd->(aA->Prop)->Prop) (wr:Bool):List (TypeId×AV)->(List AV->Prop)->Prop
 |[],K=>K []
 |x::vs,K=>match wr with
  |true=>IY Γ x.1 x.2 fun v'=>lE L LK wr vs fun l'=>K (v'::l')
  |false=>sJ Γ L LK x.1 x.2 fun v'=>lE L LK wr vs fun l'=>K (v'::l')
def gg (W:Operand->(AV->Prop)->Prop):List Operand->(List AV->Prop)->Prop
 |[],K=>K []
 |x::xs,K=>W x fun v=>gg W xs fun l=>K (v::l)
def gK (W:Operand->(AV->Prop)->Prop) (place:Nat->Option (Nat×TypeId)):List (Nat×Operand)->List AV->(List AV->Prop)->Prop
 |[],cs,K=>K cs
 |(i,x)::ps,cs,K=>match place i with
  |some (off,t)=>W x fun v=>cellsOf Γ t v fun vs=>match Γ t with
   |some ti=>cond (Nat.beq vs.length ti.size) (i9 cs off vs fun cs'=>gK W place ps cs' K) False
   |none=>False
  |none=>False
def ga (W:Operand->(AV->Prop)->Prop) (e:TypeId) (size:Nat):Nat->List (Nat×Operand)->(List PV->Prop)->Prop
 |_,[],K=>K []
 |n,(i,x)::ps,K=>cond (Nat.beq i n) (W x fun v=>uO Γ e v fun v'=>cond (Nat.beq v'.cells.length size) (ga W e size (n+1) ps fun l=>K (v'::l)) False) False
def AV.Pp:AV->Bool
 | .vec _ _ _ _=>true
 |_=>false
def At (e:TypeId) (v:AV) (K:AV->Prop):Prop:=
 match v with
 | .vec h Wd o l=>K (.vec h Wd o l)
 |v=>uO Γ e v fun v'=>cond v'.one (K (.p v')) False
def jP (W:Operand->(AV->Prop)->Prop) (e:TypeId):Nat->List (Nat×Operand)->(List AV->Prop)->Prop
 |_,[],K=>K []
 |n,(i,x)::ps,K=>cond (Nat.beq i n) (W x fun v=>At Γ e v fun c=>jP W e (n+1) ps fun l=>K (c::l)) False
def TI.wA (i:TI):Bool:=
 match i.d with
 | .slice _=>Nat.beq i.size 1
 |_=>false
def nV (v:AV) (K:Bool->Prop):Prop:=
 match v with
 | .tf b=>K b
 | .p (.bool b)=>K b
 |_=>False
def fK:List PV->List PV->(Bool->Prop)->Prop
 |[],[],K=>K true
 | .int k a::xs,.int k' b::ys,K=>if k=k' then fK xs ys fun r=>K ((a==b)&&r)else False
 | .bool a::xs,.bool b::ys,K=>fK xs ys fun r=>K ((a==b)&&r)
 |_,_,_=>False
def DT (op:BinOp) (k:IntKind) (a b:Int) (K:AV->List (Hd×aA)->Prop):Prop:=
 match op with
 | .add=>ai k (a+b) fun z=>K (.p (.int k z)) []
 | .sub=>ai k (a-b) fun z=>K (.p (.int k z)) []
 | .mul=>ai k (a*b) fun z=>K (.p (.int k z)) []
 | .quo=>yk b (ai k (a.tdiv b) fun z=>K (.p (.int k z)) [])
 | .rem=>yk b (SZ (a.tmod b) fun z=>K (.p (.int k z)) [])
 | .and=>ai k ((BitVec.ofInt k.bits a&&&BitVec.ofInt k.bits b).toNat:Int) fun z=>K (.p (.int k z)) []
 | .or=>ai k ((BitVec.ofInt k.bits a|||BitVec.ofInt k.bits b).toNat:Int) fun z=>K (.p (.int k z)) []
 | .xor=>ai k ((BitVec.ofInt k.bits a^^^BitVec.ofInt k.bits b).toNat:Int) fun z=>K (.p (.int k z)) []
 | .andNot=>ai k ((BitVec.ofInt k.bits a&&& ~~~BitVec.ofInt k.bits b).toNat:Int) fun z=>K (.p (.int k z)) []
 | .eql=>ao (a==b) fun v=>K v []
 | .neq=>ao (a !=b) fun v=>K v []
 | .lss=>ao (decide (a<b)) fun v=>K v []
 | .leq=>ao (decide (a<=b)) fun v=>K v []
 | .gtr=>ao (decide (a>b)) fun v=>K v []
 | .geq=>ao (decide (a>=b)) fun v=>K v []
 | .shl| .shr=>False
def GW (op:BinOp) (k:IntKind) (a:Int) (k':IntKind) (b:Int) (K:AV->List (Hd×aA)->Prop):Prop:=
 match op with
 | .shl=>DH b (ai k (a*2^(min b.toNat k.bits)) fun z=>K (.p (.int k z)) [])
 | .shr=>DH b (SZ (a.fdiv (2^(min b.toNat k.bits))) fun z=>K (.p (.int k z)) [])
 |op=>if k=k' then DT op k a b K else False
def Cw (i:TI) (op:BinOp) (xs ys:List PV) (K:AV->List (Hd×aA)->Prop):Prop:=
 match i.eq with
 |true=>cond (lJ i.zero xs) (match op with
  | .eql=>fK xs ys fun r=>ao r fun v=>K v []
  | .neq=>fK xs ys fun r=>ao (!r) fun v=>K v []
  |_=>False) False
 |false=>False
def sB (i:TI) (op:BinOp) (a b:Bool) (K:AV->List (Hd×aA)->Prop):Prop:=
 match i.d with
 | .bool=>match op with
  | .eql=>ao (a==b) fun v=>K v []
  | .neq=>ao (!(a==b)) fun v=>K v []
  |_=>False
 |_=>False
def MK (op:BinOp) (t:TypeId) (x y:AV) (K:AV->List (Hd×aA)->Prop):Prop:=
 match x with
 | .p (.int k a)=>match y with
  | .p (.int k' b)=>GW op k a k' b K
  |_=>False
 | .p (.agg xs)=>match y with
  | .p (.agg ys)=>match Γ t with
   |some i=>Cw i op xs ys K
   |none=>False
  |_=>False
 | .p (.bool a)=>match Γ t with
  |some i=>nV y fun b=>sB i op a b K
  |none=>False
 | .tf a=>match Γ t with
  |some i=>nV y fun b=>sB i op a b K
  |none=>False
 |_=>False
def isNil:Operand->Bool
 | .const (.slice none 0 0)=>true
 |_=>false
def C4 (v:AV) (K:Bool->Prop):Prop:=
 match v with
 | .p (.sl _ _ es)=>uT es.length K
 | .emp=>uT 0 K
 | .vec _ _ _ len=>uT len K
 |_=>False
def Nw (op:BinOp) (t:TypeId) (v:AV) (K:AV->List (Hd×aA)->Prop):Prop:=
 match Γ t with
 |some i=>match i.d with
  | .slice _=>match op with
   | .eql=>C4 v fun r=>K (.tf r) []
   | .neq=>C4 v fun r=>K (.tf (!r)) []
   |_=>False
  |_=>False
 |none=>False
def iQ (W:Operand->(AV->Prop)->Prop) (x:Option Operand) (d:Int) (K:Int->Prop):Prop:=
 match x with
 |none=>K d
 |some x=>W x fun v=>match v with
  | .p (.int _ n)=>K n
  |_=>False
def iX (t:TypeId) (K:TypeId->TI->Prop):Prop:=
 match Γ t with
 |some i=>match i.d with
  | .slice e=>match Γ e with
   |some j=>K e j
   |none=>False
  |_=>False
 |none=>False
def sX (i:TI) (K:PV->Prop):Prop:=
 match i.d.agg with
 |true=>K (.agg i.zero)
 |false=>match i.zero with
  |[z]=>K z
  |_=>False
def qT (LK:Hd->(aA->Prop)->Prop) (x:AV) (K:Nat->List PV->Prop):Prop:=
 match x with
 | .emp=>K 0 []
 | .p (.sl _ W es)=>K W es
 | .vec h W off len=>LK h fun B=>match B with
  | .vec _ W' es=>cond (Nat.beq W W') (bl es off len fun es'=>K W es') False
  |_=>False
 |_=>False
def lM (LK:Hd->(aA->Prop)->Prop) (size:Nat) (x:AV) (K:List PV->Prop):Prop:=
 qT LK x fun W xs=>match x with
  | .emp=>K []
  |_=>cond (Nat.beq W size) (K xs) False
def xe (h:Hd) (x:AV):Bool:=
 match x with
 | .vec h' _ _ _=> !(Hd.beq h h')
 |_=>true
def m8 (LK:Hd->(aA->Prop)->Prop) (base:Nat) (e:TypeId) (i:TI) (s x:AV) (K:AV->List (Hd×aA)->Prop):Prop:=
 cond (Nat.ble 1 i.size) (match s with
 | .emp=>lM LK i.size x fun xs=>cG xs.length i.bytes (K (.vec base i.size 0 xs.length) [(base,.vec e i.size xs)])
 | .vec h W 0 len=>cond (Nat.beq W i.size&&xe h x) (LK h fun B=>match B with
  | .vec T W' es=>cond (Nat.beq W W'&&Nat.beq T e) (iq len es.length (lM LK i.size x fun xs=>cG (es.length+xs.length) i.bytes
    (dp (es++xs) fun es'=>pa (es.length+xs.length) fun m=>K (.vec base i.size 0 m) [(h,.dead),(base,.vec e i.size es')]))) False
  |_=>False) False
 | .rB _ W es=>cond (Nat.beq W i.size) (lM LK i.size x fun xs=>cm 0 xs.length (cG (es.length+xs.length) i.bytes (dp (es++xs) fun es'=>pa (es.length+xs.length) fun m=>K (.vec base i.size 0 m) [(base,.vec e i.size es')]))) False
 |_=>False) False
def qf (LK:Hd->(aA->Prop)->Prop) (v:AV) (K:Option (List AV)->Prop):Prop:=
 match v with
 | .vec h 1 0 len=>LK h fun B=>match B with
  | .rows _ cs=>cond (Nat.beq len cs.length) (K (some cs)) False
  | .vec _ _ _=>K none
  |_=>False
 |_=>K none
def mW (LK:Hd->(aA->Prop)->Prop) (base:Nat) (e:TypeId) (i:TI) (s x:AV) (xs:List AV) (K:AV->List (Hd×aA)->Prop):Prop:=
 cond (Nat.beq i.size 1&& !xs.isEmpty) (match s with
  | .emp=>cG xs.length i.bytes (K (.vec base 1 0 xs.length) [(base,.rows e xs)])
  | .vec h 1 0 len=>LK h fun B=>match B with
   | .rows T es=>cond (Nat.beq T e) (iq len es.length (cG (es.length+xs.length) i.bytes (rR (es++xs) fun cs=>pa (es.length+xs.length) fun m=>K (.vec base 1 0 m) [(h,.dead),(base,.rows e cs)]))) False
   |_=>False
  |_=>False) False
def rZ (LK:Hd->(aA->Prop)->Prop) (base:Nat) (e:TypeId) (i:TI) (s x:AV) (K:AV->List (Hd×aA)->Prop):Prop:=
 qf LK x fun o=>match o with
  |none=>m8 LK base e i s x K
  |some xs=>mW LK base e i s x xs K
def vh:AV->AV
 | .p (.raw (.slice none 0 0))=>.emp
 |v=>v
def Pl (t:TypeId) (x:AV) (K:AV->List (Hd×aA)->Prop):Prop:=
 iX Γ t fun _ _=>match x with
  | .p (.sl _ _ es)=>SZ es.length fun z=>K (.p (.int .i64 z)) []
  | .vec _ _ _ len=>SZ len fun z=>K (.p (.int .i64 z)) []
  | .emp=>K (.p (.int .i64 0)) []
  |_=>False
def Lw (x y:AV) (f:Int->Int->Int) (K:AV->List (Hd×aA)->Prop):Prop:=
 match x with
 | .p (.int k a)=>match y with
  | .p (.int _ b)=>SZ (f a b) fun z=>K (.p (.int k z)) []
  |_=>False
 |_=>False
def D2 (LK:Hd->(aA->Prop)->Prop) (t:TypeId) (d x:AV) (K:AV->List (Hd×aA)->Prop):Prop:=
 match d with
 | .vec h W 0 len=>cond (xe h x) (LK h fun B=>match B with
  | .vec T W' es=>iX Γ t fun e i=>cond (Nat.beq W i.size&&(Nat.beq W W'&&Nat.ble 1 W)) (cm len (es.length+1) (lM LK i.size x fun xs=>
    dp (xs.take len++es.drop (min xs.length len)) fun es'=>SZ ((min xs.length len:Nat):Int) fun z=>K (.p (.int .i64 z)) [(h,.vec T W' es')])) False
  |_=>False) False
 |_=>False
def wC (LK:Hd->(aA->Prop)->Prop) (t:TypeId) (d:AV) (K:AV->List (Hd×aA)->Prop):Prop:=
 match d with
 | .vec h W 0 len=>LK h fun B=>match B with
  | .vec T W' es=>iX Γ t fun e i=>cond (Nat.beq W i.size&&(Nat.beq W W'&&Nat.ble 1 W)) (cm len (es.length+1) (sX i fun z=>dp (List.replicate len z++es.drop len) fun es'=>K .undef [(h,.vec T W' es')])) False
  |_=>False
 |_=>False
def mg (LK:Hd->(aA->Prop)->Prop) (base:Nat) (b:Builtin) (ts:List TypeId) (vs:List AV) (K:AV->List (Hd×aA)->Prop):Prop:=
 match vs with
 |[x]=>match ts with
  |t::_=>match b with
   | .len=>Pl Γ t (vh x) K
   | .clear=>wC Γ LK t x K
   |_=>False
  |_=>False
 |[x,y]=>match ts with
  |t::t'::ts'=>match b with
   | .max=>Lw x y (fun a b=>if b>a then b else a) K
   | .min=>Lw x y (fun a b=>if b<a then b else a) K
   | .append=>cond (Nat.beq t t'&&ts'.isEmpty) (iX Γ t fun e i=>rZ LK base e i (vh x) y K) False
   | .copy=>D2 Γ LK t x y K
   |_=>False
  |_=>False
 |_=>False
def LH (src dst:TypeId) (v:AV) (K:AV->List (Hd×aA)->Prop):Prop:=
 match v with
 | .p (.int _ n)=>match Γ dst with
  |some i=>match Γ src with
   |some _=>match i.d with
    | .int k=>ai k n fun z=>K (.p (.int k z)) []
    |_=>False
   |none=>False
  |none=>False
 |_=>False
def L4 (base:Nat) (t:TypeId) (vl vc:AV) (K:AV->List (Hd×aA)->Prop):Prop:=
 match vl with
 | .p (.int _ n)=>match vc with
  | .p (.int _ m)=>iX Γ t fun e i=>sX i fun z=>SZ m fun m'=>cm (m'-n).natAbs 1 (cy n i.bytes fun j=>match i.wA with
   |false=>K (.vec base i.size 0 j) [(base,.vec e i.size (List.replicate j z))]
   |true=>Ou (K (.vec base i.size 0 j) [(base,.vec e i.size (List.replicate j z))]) (K (.vec base 1 0 j) [(base,.rows e (List.replicate j .emp))]))
  |_=>False
 |_=>False
def sq:Operand->Bool
 | .const (.int _ 0)=>true
 |_=>false
def Hc (base:Nat) (t:TypeId) (vc:AV) (K:AV->List (Hd×aA)->Prop):Prop:=
 match vc with
 | .p (.int _ m)=>iX Γ t fun e i=>cy m i.bytes fun _=>K (.vec base i.size 0 0) [(base,.vec e i.size [])]
 |_=>False
def tU (W:Operand->(AV->Prop)->Prop) (t:TypeId) (v:AV) (lo hi mx:Option Operand) (K:AV->List (Hd×aA)->Prop):Prop:=
 match v with
 | .p (.sl m Wd es)=>cond (mx.isNone||hi.isSome) (iX Γ t fun _ i=>cond (Nat.beq i.size Wd) (iQ W lo 0 fun l=>iQ W hi es.length fun h=>iQ W mx h fun mm=>SZ mm fun mm'=>cm (mm'-h).natAbs 1 (fO l h es.length fun l h=>
   MO mx l h (dp ((es.take h).drop l) fun es'=>K (.p (.sl m Wd es')) []) (K .emp []) (dp ((es.take h).drop l) fun es'=>K (.rB m Wd es') []))) False) False
 | .vec hd Wd off len=>match mx with
  |none=>iX Γ t fun _ i=>cond (Nat.beq i.size Wd) (iQ W lo 0 fun l=>iQ W hi len fun h=>fO l h len fun l h=>K (.vec hd Wd (off+l) (h-l)) []) False
  |some _=>cond hi.isSome (iX Γ t fun _ i=>cond (Nat.beq i.size Wd) (iQ W lo 0 fun l=>iQ W hi len fun h=>iQ W mx h fun mm=>SZ mm fun mm'=>cm (mm'-h).natAbs 1 (fO l h len fun l h=>K (.vec hd Wd (off+l) (h-l)) [])) False) False
 |_=>False
def sr (t:TypeId) (f:Nat) (K:Nat->TI->Prop):Prop:=
 match Γ t with
 |some i=>match i.d with
  | .struct fs=>match fs[f]? with
   |some x=>match Γ x.2 with
    |some j=>K x.1 j
    |none=>False
   |none=>False
  |_=>False
 |none=>False
def BW (t:TypeId) (v:AV) (f:Nat) (K:AV->List (Hd×aA)->Prop):Prop:=
 sr Γ t f fun o fi=>cond (Nat.ble 1 fi.size) (match v with
  | .aC h off=>K (.aC h (off+o)) []
  | .dO h Wd i off=>K (.dO h Wd i (off+o)) []
  | .p (.f5 m (.agg cs))=>match fi.d.agg with
   |true=>iP cs o fi.size fun l=>K (.p (.f5 m (.agg l))) []
   |false=>po cs o fun c=>cond c.one (K (.p (.f5 m c)) []) False
  |_=>False) False
def M7 (t:TypeId) (v:AV) (f:Nat) (K:AV->List (Hd×aA)->Prop):Prop:=
 sr Γ t f fun o fi=>match v with
  | .p (.agg cs)=>match fi.d.agg with
   |true=>iP cs o fi.size fun l=>K (.p (.agg l)) []
   |false=>po cs o fun c=>K (.p c) []
  | .agg cs=>match fi.d.agg with
   |true=>gM cs o fi.size fun l=>wb l fun v=>K v []
   |false=>Ce cs o fun c=>K c []
  |_=>False
def J9 (t:TypeId) (K:Nat->TI->Prop):Prop:=
 match Γ t with
 |some i=>match i.d with
  | .array len e=>match Γ e with
   |some j=>K len j
   |none=>False
  |_=>False
 |none=>False
def tE (t:TypeId) (v ix:AV) (K:AV->List (Hd×aA)->Prop):Prop:=
 match ix with
 | .p (.int _ n)=>match v with
  | .p (.sl m Wd es)=>iX Γ t fun _ ti=>cond (Nat.beq ti.size Wd) (aF es n fun _ e=>K (.p (.f5 m e)) []) False
  | .vec h Wd off len=>iX Γ t fun _ ti=>cond (Nat.beq ti.size Wd) (aK n len fun j=>K (.dO h Wd (j+off) 0) []) False
  | .aC h off=>J9 Γ t fun len ti=>cond (Nat.ble 1 ti.size) (aK n len fun j=>K (.aC h (off+j*ti.size)) []) False
  | .dO h Wd i off=>J9 Γ t fun len ti=>cond (Nat.ble 1 ti.size) (aK n len fun j=>K (.dO h Wd i (off+j*ti.size)) []) False
  |_=>False
 |_=>False
def Jr (t:TypeId) (v ix:AV) (K:AV->List (Hd×aA)->Prop):Prop:=
 match ix with
 | .p (.int _ n)=>match v with
  | .p (.agg cs)=>match Γ t with
   |some i=>match i.d with
    | .array len e=>match Γ e with
     |some j=>cond (Nat.beq j.size 1&&(Nat.beq len cs.length&& !j.d.agg)) (aF cs n fun _ c=>K (.p c) []) False
     |none=>False
    |_=>False
   |none=>False
  | .p (.raw (.string b))=>match Γ t with
   |some i=>match i.d with
    | .string=>aK n b.size fun j=>SZ ((b.data.getD j 0).toNat:Nat) fun z=>K (.p (.int .u8 z)) []
    |_=>False
   |none=>False
  |_=>False
 |_=>False
def l5 (t:TypeId) (K:TypeId->TI->TypeId->TI->Prop):Prop:=
 match Γ t with
 |some i=>match i.d with
  | .map k e=>match Γ k with
   |some ki=>match Γ e with
    |some ei=>K k ki e ei
    |none=>False
   |none=>False
  |_=>False
 |none=>False
def TI.ue (i:TI) (p:PV):Bool:=
 match i.d with
 | .int k=>match p with
  | .int k' _=>decide (k=k')
  |_=>false
 |_=>match p with
  | .agg xs=>i.eq&&(i.d.agg&&lJ i.zero xs)
  |_=>false
def kA (LK:Hd->(aA->Prop)->Prop) (v:AV) (K:List (PV×PV)->Prop):Prop:=
 match v with
 | .map h=>LK h fun B=>match B with
  | .map es=>K es
  |_=>False
 | .p (.mp _ es)=>K es
 |_=>False
def d6 (LK:Hd->(aA->Prop)->Prop) (t:TypeId) (vm vk vx:AV) (K:AV->List (Hd×aA)->Prop):Prop:=
 l5 Γ t fun kt ki et _=>uO Γ kt vk fun key=>uO Γ et vx fun val=>cond (ki.ue key) (match vm with
 | .map h=>LK h fun B=>match B with
  | .map es=>bn ki.ue es (dZ es key val fun es'=>K .undef [(h,.map es')])
  |_=>False
 |_=>False) False
def r8 (LK:Hd->(aA->Prop)->Prop) (t:TypeId) (vm vk:AV) (ok:Bool) (K:AV->List (Hd×aA)->Prop):Prop:=
 l5 Γ t fun kt ki _ ei=>uO Γ kt vk fun key=>cond (ki.ue key) (kA LK vm fun es=>bn ki.ue es (eo es key fun o=>match o with
  |some v=>match ok with
   |true=>K (.bK [.p v,.tf true]) []
   |false=>K (.p v) []
  |none=>sX ei fun z=>match ok with
   |true=>K (.bK [.p z,.tf false]) []
   |false=>K (.p z) [])) False
def w5 (base:Nat) (t:TypeId) (v:AV) (K:AV->List (Hd×aA)->Prop):Prop:=
 l5 Γ t fun _ _ _ _=>match v with
 | .p (.mp m es)=>∀es0:List (PV×PV),es0.Perm es->K (.aC base 0) [(base,.iter m es0 [])]
 |_=>False
def I6 (LK:Hd->(aA->Prop)->Prop) (v:AV) (K:AV->List (Hd×aA)->Prop):Prop:=
 match v with
 | .aC h 0=>LK h fun B=>match B with
  | .iter m es seen=>JA es seen (fun i e=>K (.bK [.tf true,.p e.1,.p e.2]) [(h,.iter m es (seen++[i]))]) (K (.bK [.tf false]) [])
  |_=>False
 |_=>False
def BU (LK:Hd->(aA->Prop)->Prop) (v:AV) (K:AV->List (Hd×aA)->Prop):Prop:=
 match v with
 | .aC h 0=>LK h fun B=>match B with
  | .iter _ es seen=>HF es seen fun e=>K (.bK [.p e.1,.p e.2]) []
  |_=>False
 |_=>False
def aR (wr:FuncId->Bool) (W:Operand->(AV->Prop)->Prop) (LK:Hd->(aA->Prop)->Prop) (L:Hd->aA) (base:Nat) (op:Op) (K:AV->List (Hd×aA)->Prop):Prop:=
 match op with
 | .move x| .assign x=>W x fun v=>K v []
 | .pick c a b=>W c fun v=>match v with
  | .tf true=>W a fun v=>K v []
  | .tf false=>W b fun v=>K v []
  | .p (.bool t)=>match t with
   |true=>W a fun v=>K v []
   |false=>W b fun v=>K v []
  |_=>False
 | .alloc t=>match Γ t with
  |some i=>uk i.zero fun cs=>K (.aC base 0) [(base,.box t cs)]
  |none=>False
 | .box t x=>W x fun v=>cellsOf Γ t v fun cs=>K (.aC base 0) [(base,.box t cs)]
 | .build t parts=>match Γ t with
  |some ⟨.struct fs,_,_,zero,_⟩=>cond (fs.all fun f=>(Γ f.2).isSome) (uk zero fun zs=>gK Γ W (fun i=>fs[i]?) parts.toList zs fun cs=>wb cs fun v=>K v []) False
  |some ⟨.array n e,_,_,zero,_⟩=>match Γ e with
   |some i=>uk zero fun zs=>gK Γ W (fun j=>some (j*i.size,e)) parts.toList zs fun cs=>wb cs fun v=>K v []
   |none=>False
  |_=>False
 | .buildSlice t n parts=>match Γ t with
  |some ⟨.slice e,_,_,_,_⟩=>match Γ e with
   |some i=>match n,parts.toList with
    |0,[]=>K .emp []
    |n,_=>match i.wA with
     |true=>gg W (parts.toList.map (·.2)) fun vs=>match vs.any AV.Pp with
      |true=>jP Γ W e 0 parts.toList fun cs=>cond (Nat.beq cs.length n&&(Nat.ble n 1000&&Nat.ble 1 n)) (K (.vec base 1 0 n) [(base,.rows e cs)]) False
      |false=>ga Γ W e i.size 0 parts.toList fun es=>cond (Nat.beq es.length n&&(Nat.ble (n*i.size) 1000&&Nat.ble 1 (n*i.size))) (K (.vec base i.size 0 n) [(base,.vec e i.size es)]) False
     |false=>ga Γ W e i.size 0 parts.toList fun es=>cond (Nat.beq es.length n&&(Nat.ble (n*i.size) 1000&&Nat.ble 1 (n*i.size))) (K (.vec base i.size 0 n) [(base,.vec e i.size es)]) False
   |none=>False
  |_=>False
 | .load t x=>W x fun v=>match v with
  | .aC h off=>LK h fun B=>match B,Γ t with
   | .box _ cs,some i=>match i.d.agg with
    |true=>gM cs off i.size fun l=>wb l fun v=>K v []
    |false=>Ce cs off fun c=>K c []
   |_,_=>False
  | .dO h W i off=>LK h fun B=>match B,Γ t with
   | .vec _ W' es,some ti=>cond (Nat.beq W W') (aF es i fun _ e=>match ti.d.agg,off,e with
    |true,0,.agg cs=>cond (Nat.beq ti.size W) (K (.p (.agg cs)) []) (iP cs 0 ti.size fun l=>K (.p (.agg l)) [])
    |true,off+1,.agg cs=>iP cs (off+1) ti.size fun l=>K (.p (.agg l)) []
    |false,off,e=>po e.cells off fun c=>K (.p c) []
    |_,_,_=>False) False
   | .rows _ cs,some ti=>cond (Nat.beq W 1&&(Nat.beq off 0&& !ti.d.agg)) (bJ cs i fun c=>K c []) False
   |_,_=>False
  | .p (.f5 _ e)=>match Γ t with
   |some ti=>match ti.d.agg,e with
    |true,.agg cs=>cond (Nat.beq ti.size cs.length) (K (.p (.agg cs)) []) False
    |false,.agg cs=>po cs 0 fun c=>K (.p c) []
    |false,e=>K (.p e) []
    |_,_=>False
   |none=>False
  |_=>False
 | .store t x y=>W x fun p=>W y fun v=>match p with
  | .aC h off=>LK h fun B=>match B,Γ t with
   | .box T cs,some i=>A1 Γ t v fun vs=>cond (Nat.beq vs.length i.size) (i9 cs off vs fun cs'=>K .undef [(h,.box T cs')]) False
   |_,_=>False
  | .dO h W i 0=>LK h fun B=>match B,Γ t with
   | .vec T W' es,some ti=>match v with
    | .vec g Wd o l=>cond (Nat.beq W 1&&(Nat.beq W' 1&&(Nat.beq ti.size 1&& !ti.d.agg))) (Me es (cm i es.length (rR ((es.map .p).set i (.vec g Wd o l)) fun cs'=>K .undef [(h,.rows T cs')]))) False
    |v=>cond (Nat.beq W W'&&Nat.beq ti.size W) (uO Γ t v fun e=>cond (Nat.beq e.cells.length W) (cm i es.length (dp (es.set i e) fun es'=>K .undef [(h,.vec T W es')])) False) False
   | .rows T cs,some ti=>cond (Nat.beq W 1&&(Nat.beq ti.size 1&& !ti.d.agg)) (At Γ t v fun c=>cm i cs.length (rR (cs.set i c) fun cs'=>K .undef [(h,.rows T cs')])) False
   |_,_=>False
  |_=>False
 | .binOp op t x y _=>match isNil y with
  |true=>W x fun a=>Nw Γ op t a K
  |false=>W x fun a=>W y fun b=>MK Γ op t a b K
 | .unOp op _ x=>W x fun v=>match op,v with
  | .neg,.p (.int k n)=>ai k (0-n) fun z=>K (.p (.int k z)) []
  | .xor,.p (.int k n)=>ai k ((BitVec.ofInt k.bits (if k.signed then-1 else k.max)^^^BitVec.ofInt k.bits n).toNat:Int) fun z=>K (.p (.int k z)) []
  | .not,.p (.bool b)=>ao (!b) fun v=>K v []
  | .not,.tf b=>K (.tf (!b)) []
  |_,_=>False
 | .nilCheck x=>W x fun v=>match v with
  | .aC h o=>K (.aC h o) []
  | .dO h Wd i o=>K (.dO h Wd i o) []
  | .p (.f5 m e)=>K (.p (.f5 m e)) []
  |_=>False
 | .convert src dst x=>W x fun v=>LH Γ src dst v K
 | .makeFunc (.func f) fs cs=>gg W fs.toList fun fs=>gg W cs.toList fun cs=>K (.fn f fs cs) []
 | .makeSlice t l c=>match sq l with
  |true=>W c fun vc=>Hc Γ base t vc K
  |false=>W l fun vl=>W c fun vc=>L4 Γ base t vl vc K
 | .slice t x lo hi mx=>W x fun v=>tU Γ W t v lo hi mx K
 | .fieldAddr t x f=>W x fun v=>BW Γ t v f K
 | .field t x f=>W x fun v=>M7 Γ t v f K
 | .indexAddr t x i=>W x fun v=>W i fun ix=>tE Γ t v ix K
 | .index t x i=>W x fun v=>W i fun ix=>Jr Γ t v ix K
 | .extract x i=>W x fun v=>match v with
  | .bK cs=>Ce cs i fun c=>K c []
  |_=>False
 | .makeMap t none=>l5 Γ t fun _ _ _ _=>K (.map base) [(base,.map [])]
 | .mapUpdate t m k x=>W m fun vm=>W k fun vk=>W x fun vx=>d6 Γ LK t vm vk vx K
 | .insert t m k x=>W m fun vm=>W k fun vk=>W x fun vx=>d6 Γ LK t vm vk vx K
 | .lookup t x k ok=>W x fun vm=>W k fun vk=>r8 Γ LK t vm vk ok K
 | .range t x=>W x fun v=>w5 Γ base t v K
 | .next x false=>W x fun v=>I6 LK v K
 | .entry x=>W x fun v=>BU LK v K
 | .call ⟨.builtin b,xs,ts⟩=>gg W xs.toList fun vs=>mg Γ LK base b ts.toList vs K
 | .call ⟨.value f,xs,ts⟩=>cond (Nat.beq ts.toList.length xs.toList.length) (W f fun vf=>match vf with
  | .fn fid fs cs=>gg W xs.toList fun vs=>lE Γ L LK (wr fid) ((fs.map fun v=>(0,v))++(ts.toList.zip vs++cs.map fun v=>(0,v))) fun args=>aa P (wr fid) fid (fs++(vs++cs)) args L base K
  | .p (.fn fid cs)=>gg W xs.toList fun vs=>lE Γ L LK (wr fid) (ts.toList.zip vs++cs.map fun v=>(0,.p v)) fun args=>aa P (wr fid) fid (vs++cs.map .p) args L base K
  | .p (.lp fid fs)=>gg W xs.toList fun vs=>lE Γ L LK (wr fid) ((fs.map fun v=>(0,.p v))++ts.toList.zip vs) fun args=>aa P (wr fid) fid (fs.map .p++vs) args L base K
  |_=>False) False
 |_=>False
end
end
section
def IF:Value->AV
 | .int k n=>.p (.int k n)
 | .bool b=>.tf b
 | .slice none 0 0=>.emp
 | .pointer none=>.p (.raw (.pointer none))
 | .map none=>.p (.raw (.map none))
 | .nilFunc=>.p (.raw .nilFunc)
 | .string b=>.p (.raw (.string b))
 |_=>.any
def cL (s:Nat->AV):Operand->AV
 | .tmp t=>s t
 | .const v=>IF v
 | .global _=>.any
 | .func f=>.fn f [] []
theorem GJ (w FB β) (v:Value):VR w FB β (IF v) v:=by
 unfold IF
 split<;>first|exact .p (.int _ _)|exact .tf _|exact .lu|exact .p (.raw _ rfl)|exact .any _
theorem zy (v:Value) (k:Hd):¬(IF v).aT k:=by
 unfold IF
 split<;>exact fun h=>by simp only[AV.aT]at h
section
variable {E:Env} {n:Nat} {s:Nat->AV} {L:Hd->aA} {a:Act} {w:World} {F:Nat->Prop} {β:Hd->Option Nat×Nat}
theorem cC.ev (h:cC E n s L a w F β) (x:Operand):VR w (aM E.bW F) β (cL s x) (a.eval x):=by
 cases x with
 |tmp t=>exact h.iD t
 |const v=>exact GJ _ _ _ v
 |global g=>exact .any _
 |func f=>exact .fn f [] [] #[] #[] rfl qS rfl qS
theorem cC.AN (h:cC E n s L a w F β) (x:Operand) (k:Hd) (hk:(cL s x).aT k):L k≠ .free:=by
 cases x with
 |tmp t=>exact h.ms t k hk
 |const v=>exact(zy v k hk).elim
 |global g=>simp only[cL,AV.aT]at hk
 |func f=>simp only[cL,AV.aT,AV.bm,or_self]at hk
end
def gE (L:Hd->aA) (h:Hd) (P:aA):Hd->aA:=
 match h with
 | .t n=>fun g=>match g with
  | .t m=>if m=n then .dead else L (.t m)
  | .r m k=>if m=n then P.row k else L (.r m k)
 | .r n k=>a8 L (.r n k) P
def fg (L:Hd->aA) (h:Hd) (B:aA):Hd->aA:=
 match B with
 | .bu T W rows=>gE L h (.bu T W rows)
 |B=>a8 L h B
theorem qW {L:Hd->aA} {h:Hd} {B:aA} (hB:B.live):fg L h B=a8 L h B:=by cases B<;>first|rfl|exact hB.elim
def a6 (L:Hd->aA) (ups:List (Hd×aA)):Hd->aA:=ups.foldl (fun L x=>fg L x.1 x.2) L
def Out (P:Program) (E:Env) (n:Nat) (s:Nat->AV) (L:Hd->aA) (a:Act) (K:AV->List (Hd×aA)->Prop):Result Value->Prop
 | .ok x w'=>∃v ups F β,K v ups/\cC E n s (a6 L ups) a w' F β/\VR w' (aM E.bW F) β v x/\∀k,v.aT k->a6 L ups k≠ .free
 | .halt _ _=>False
section
variable {P:Program} {E:Env} {n:Nat} {s:Nat->AV} {L:Hd->aA} {a:Act} {w:World} {F:Nat->Prop} {β:Hd->Option Nat×Nat} {K:AV->List (Hd×aA)->Prop}
theorem Out.same (h:cC E n s L a w F β) {v:AV} {x:Value} (hk:K v []) (hv:VR w (aM E.bW F) β v x) (hm:∀k,v.aT k->L k≠ .free):Out P E n s L a K (.ok x w):=
 ⟨v,[],F,β,hk,h,hv,hm⟩
theorem Out.int (h:cC E n s L a w F β) {k:IntKind} {z:Int} (hk:K (.p (.int k z)) []):Out P E n s L a K (.ok (.int k z) w):=
 .same h hk (.p (.int k z)) fun k hk=>by simp only[AV.aT]at hk
theorem Out.bool (h:cC E n s L a w F β) {b:Bool} (hk:ao b fun v=>K v []):Out P E n s L a K (.ok (.bool b) w):=by
 cases hk with
 |sym hk=>exact .same h hk (.p (.bool b)) fun k hk=>by simp only[AV.aT]at hk
 |yes hb hk=>subst hb;exact .same h hk (.tf true) fun k hk=>by simp only[AV.aT]at hk
 |no hb hk=>subst hb;exact .same h hk (.tf false) fun k hk=>by simp only[AV.aT]at hk
theorem Out.new (h:cC E n s L a w F β) (arr:Array Value) (T:TypeId) (B:aA) (base cap:Nat) {v:AV} {x:Value} (hk:K v [(base,B)]) (hfree:L base= .free)
  (hO:rK (w.alloc (.cells arr T)) (aM E.bW F) (a8 β base (some w.heap.size,cap)) base B) (hlive:B.live) (hmen:∀j,B.aT j->L j≠ .free)
  (hv:VR (w.alloc (.cells arr T)) (aM E.bW F) (a8 β base (some w.heap.size,cap)) v x) (hm:∀k,v.aT k->k=base\/L k≠ .free):Out P E n s L a K (.ok x (w.alloc (.cells arr T))):=by
 refine⟨v,_,F,_,hk,by show cC E n s (fg L base B) a _ F _;rw[qW hlive];exact h.alloc (.cells arr T) B base cap rfl rfl rfl rfl hfree hO hlive hmen,hv,fun k hk=>?_⟩
 show fg L base B k≠ .free
 rw[qW hlive]
 by_cases e:k=base
 ·subst e;rw[ah];exact aA.ck hlive
 ·rw[aj _ _ e];exact(hm k hk).resolve_left e
end
theorem xN {cs:List AV} {i:Nat} {K:AV->Prop} (h:Ce cs i K):∃c,cs[i]?=some c/\K c:=by
 induction cs generalizing i with
 |nil=>simp only[Ce]at h
 |cons c cs ih=>
  cases i with
  |zero=>exact⟨c,rfl,h⟩
  |succ i=>exact ih (by simpa only[Ce]using h)
theorem pM {cs:List PV} {i:Nat} {K:PV->Prop} (h:po cs i K):∃c,cs[i]?=some c/\K c:=by
 induction cs generalizing i with
 |nil=>simp only[po]at h
 |cons c cs ih=>
  cases i with
  |zero=>exact⟨c,rfl,h⟩
  |succ i=>exact ih (by simpa only[po]using h)
theorem ud {cs:List PV} {K:List AV->Prop} (h:uk cs K):K (cs.map .p):=by
 induction cs generalizing K with
 |nil=>exact h
 |cons c cs ih=>exact ih (K:=fun l=>K (.p c::l)) h
theorem n7 {cs:List AV} {K:List AV->Prop} (h:ij.rebuild cs K):K cs:=by
 induction cs generalizing K with
 |nil=>exact h
 |cons c cs ih=>exact ih (K:=fun l=>K (c::l)) h
def LY (cs:List AV) (l:List PV):Prop:=l.length=cs.length/\(∀(i:Nat) c p,cs[i]?=some c->l[i]?=some p->c.one=true->p.one=true)/\∀w FB β (i:Nat) c p v,cs[i]?=some c->l[i]?=some p->VR w FB β c v->PR w FB p v
theorem LY.cons {cs:List AV} {l:List PV} (h:LY cs l) {c:AV} {p:PV} (ho:c.one=true->p.one=true) (hc:∀w FB β v,VR w FB β c v->PR w FB p v):LY (c::cs) (p::l):=by
 refine⟨by simp[h.1],fun i c' p' h1 h2=>?_,fun w FB β i c' p' v h1 h2 hv=>?_⟩
 ·cases i with
  |zero=>simp at h1 h2;subst h1;subst h2;exact ho
  |succ i=>exact h.2.1 i c' p' (by simpa using h1) (by simpa using h2)
 cases i with
 |zero=>simp at h1 h2;subst h1;subst h2;exact hc w FB β v hv
 |succ i=>exact h.2.2 w FB β i c' p' v (by simpa using h1) (by simpa using h2) hv
theorem VR.D6 {w FB β} {p:PV} {v:Value} (h:VR w FB β (.p p) v):PR w FB p v:=by cases h;assumption
theorem VR.JU {w FB β} {b:Bool} {v:Value} (h:VR w FB β (.tf b) v):PR w FB (.bool b) v:=by cases h;exact .bool b
theorem m9 {cs:List AV} {K:List PV->Prop} {J:List AV->Prop} (h:ij cs K J):(∃l,K l/\LY cs l)\/J cs:=by
 induction cs generalizing K J with
 |nil=>exact .inl ⟨[],h,rfl,qS,qS⟩
 |cons c cs ih=>
  have other:(ij.rebuild cs fun l=>J (c::l))->(∃l,K l/\LY (c::cs) l)\/J (c::cs):=fun h=>.inr (n7 (K:=fun l=>J (c::l)) h)
  cases c with
  |p v=>
   rcases ih (K:=fun l=>K (v::l)) (J:=fun l=>J (.p v::l)) h with⟨l,hk,hl⟩|hj
   ·exact .inl ⟨_,hk,hl.cons (fun h=>h) fun _ _ _ _=>VR.D6⟩
   ·exact .inr hj
  |tf b=>
   rcases ih (K:=fun l=>K (.bool b::l)) (J:=fun l=>J (.tf b::l)) h with⟨l,hk,hl⟩|hj
   ·exact .inl ⟨_,hk,hl.cons (fun _=>rfl) fun _ _ _ _=>VR.JU⟩
   ·exact .inr hj
  |_=>exact other h
theorem LY.rel {cs:List AV} {l:List PV} (h:LY cs l) {w FB β} {arr:Array Value} (hone:∀c∈cs,c.one=true) (hl:arr.size=cs.length) (hc:∀(i:Nat) c v,cs[i]?=some c->arr[i]?=some v->VR w FB β c v):PR w FB (.agg l) (.agg arr):=by
 refine .agg l arr (fun p hp=>?_) (by rw[hl,h.1]) fun i p v h1 h2=>?_
 ·obtain⟨i,hi⟩:=List.getElem?_of_mem hp
  have hi':i<cs.length:=by rw[<-h.1];exact(List.getElem?_eq_some_iff.1 hi).1
  exact h.2.1 i cs[i] p (List.getElem?_eq_getElem hi') hi (hone _ (List.getElem_mem hi'))
 have hi:i<cs.length:=by rw[<-h.1];exact(List.getElem?_eq_some_iff.1 h1).1
 exact h.2.2 w FB β i cs[i] p v (List.getElem?_eq_getElem hi) h1 (hc i _ v (List.getElem?_eq_getElem hi) h2)
theorem tK {cs:List AV} {K:AV->Prop} (h:wb cs K):∃r,K r/\(∀w FB β (arr:Array Value),(∀c∈cs,c.one=true)->arr.size=cs.length->(∀(i:Nat) c v,cs[i]?=some c->arr[i]?=some v->VR w FB β c v)->VR w FB β r (.agg arr))/\∀k,r.aT k->AV.bm cs k:=by
 rcases m9 h with⟨l,hk,hl⟩|hk
 ·exact⟨_,hk,fun w FB β arr h0 h1 h2=>.p (hl.rel h0 h1 h2),fun k hk=>by simp only[AV.aT]at hk⟩
 ·exact⟨_,hk,fun w FB β arr h0 h1 h2=>.agg cs arr h0 h1 h2,fun k hk=>by simpa only[AV.aT]using hk⟩
theorem wy {cs:List AV} {o n:Nat} {K:List AV->Prop} (h:gM cs o n K):o+n<=cs.length\/n=0->K ((cs.drop o).take n):=by
 induction cs generalizing o n K with
 |nil=>
  cases o with
  |zero=>cases n with
   |zero=>exact fun _=>h
   |succ n=>simp only[gM]at h
  |succ o=>simp only[gM]at h
 |cons c cs ih=>
  intro hl
  cases o with
  |zero=>cases n with
   |zero=>exact h
   |succ n=>
    have:=ih (o:=0) (n:=n) (K:=fun l=>K (c::l)) (by simpa only[gM]using h) (by simp at hl⊢;omega)
    simpa using this
  |succ o=>
   have:=ih (o:=o) (n:=n) (K:=K) (by simpa only[gM]using h) (by simp at hl⊢;omega)
   simpa using this
theorem tn {cs:List AV} {o n:Nat} {K:List AV->Prop} (h:gM cs o n K):o+n<=cs.length:=by
 induction cs generalizing o n K with
 |nil=>
  cases o with
  |zero=>cases n with
   |zero=>simp
   |succ n=>simp only[gM]at h
  |succ o=>simp only[gM]at h
 |cons c cs ih=>
  cases o with
  |zero=>cases n with
   |zero=>simp
   |succ n=>
    have:=ih (o:=0) (n:=n) (K:=fun l=>K (c::l)) (by simpa only[gM]using h)
    simp at this⊢;omega
  |succ o=>
   have:=ih (o:=o) (n:=n) (K:=K) (by simpa only[gM]using h)
   simp;omega
theorem mJ {cs:List PV} {o n:Nat} {K:List PV->Prop} (h:iP cs o n K):o+n<=cs.length/\K ((cs.drop o).take n):=by
 induction cs generalizing o n K with
 |nil=>
  cases o with
  |zero=>cases n with
   |zero=>exact⟨qS,h⟩
   |succ n=>simp only[iP]at h
  |succ o=>simp only[iP]at h
 |cons c cs ih=>
  cases o with
  |zero=>cases n with
   |zero=>exact⟨qS,h⟩
   |succ n=>
    have:=ih (o:=0) (n:=n) (K:=fun l=>K (c::l)) (by simpa only[iP]using h)
    exact⟨by simp at this⊢;omega,by simpa using this.2⟩
  |succ o=>
   have:=ih (o:=o) (n:=n) (K:=K) (by simpa only[iP]using h)
   exact⟨by simp at this⊢;omega,by simpa using this.2⟩
theorem td {cs:List AV} {o:Nat} {vs:List AV} {K:List AV->Prop} (h:i9 cs o vs K):o+vs.length<=cs.length/\K (cs.take o++vs++cs.drop (o+vs.length)):=by
 induction cs generalizing o vs K with
 |nil=>
  cases vs with
  |nil=>cases o with
   |zero=>exact⟨qS,by simpa using(show K []from h)⟩
   |succ o=>simp only[i9]at h
  |cons v vs=>cases o<;>simp only[i9]at h
 |cons c cs ih=>
  cases o with
  |zero=>cases vs with
   |nil=>exact⟨qS,by simpa using n7 (show ij.rebuild (c::cs) K from h)⟩
   |cons v vs=>
    have:=ih (o:=0) (vs:=vs) (K:=fun l=>K (v::l)) (by simpa only[i9]using h)
    exact⟨by simp at this⊢;omega,by simpa using this.2⟩
  |succ o=>
   have:=ih (o:=o) (vs:=vs) (K:=fun l=>K (c::l)) (by cases vs<;>simpa only[i9]using h)
   refine⟨by simp at this⊢;omega,?_⟩
   have e:o+1+vs.length=(o+vs.length)+1:=qO
   rw[e]
   simpa using this.2
section
variable {Γ:oy} {P:Program}
theorem j3 {t:TypeId} {v:AV} {K:PV->Prop} (h:uO Γ t v K):∃p,K p/\∀w FB β x,VR w FB β v x->PR w FB p x:=by
 unfold uO at h
 split at h
 ·exact⟨_,h,fun _ _ _ _=>VR.D6⟩
 ·exact⟨_,h,fun _ _ _ _=>VR.JU⟩
 ·split at h
  ·split at h
   ·refine⟨_,h,fun w FB β x hv=>?_⟩
    cases hv with
    |lu=>exact .nil _ _ _
    |emp ad=>exact .nil _ _ _
   ·exact h.elim
  ·exact h.elim
 ·rcases m9 h with⟨l,hk,hl⟩|hk
  ·refine⟨_,hk,fun w FB β x hv=>?_⟩
   cases hv with|agg _ arr h0 h1 h2=>exact hl.rel h0 h1 h2
  ·exact hk.elim
 ·rcases m9 h with⟨l,hk,hl⟩|hk
  ·refine⟨_,hk,fun w FB β x hv=>?_⟩
   cases hv with
   |fn _ _ _ fs arr hfl _ h1 h2=>
    have:fs= #[]:=by cases fs;simpa using hfl
    subst this
    refine .fn _ l arr (by rw[h1,hl.1]) fun i p v h1' h2'=>?_
    have hi:i<l.length:=(List.getElem?_eq_some_iff.1 h1').1
    rw[hl.1]at hi
    exact hl.2.2 w FB β i _ p v (List.getElem?_eq_getElem hi) h1' (h2 i _ v (List.getElem?_eq_getElem hi) h2')
  ·exact hk.elim
 ·rcases m9 h with⟨l,hk,hl⟩|hk
  ·refine⟨_,hk,fun w FB β x hv=>?_⟩
   cases hv with
   |fn _ _ _ fs arr hfl h2 h1 _=>
    have:arr= #[]:=by cases arr;simpa using h1
    subst this
    refine .lp _ l fs (by rw[hfl,hl.1]) fun i p v h1' h2'=>?_
    have hi:i<l.length:=(List.getElem?_eq_some_iff.1 h1').1
    rw[hl.1]at hi
    exact hl.2.2 w FB β i _ p v (List.getElem?_eq_getElem hi) h1' (h2 i _ v (List.getElem?_eq_getElem hi) h2')
  ·exact hk.elim
 ·exact h.elim
theorem PR.cells {w FB} {p:PV} {x:Value} (h:PR w FB p x):x.cells.size=p.cells.length/\(∀c∈p.cells,c.one=true)/\∀(i:Nat) c y,p.cells[i]?=some c->x.cells[i]?=some y->PR w FB c y:=by
 have one:∀{p:PV} {x:Value},p.one=true->x.cells= #[x]->PR w FB p x->x.cells.size=p.cells.length/\(∀c∈p.cells,c.one=true)/\∀(i:Nat) c y,p.cells[i]?=some c->x.cells[i]?=some y->PR w FB c y:=by
  intro p x h1 h2 h
  rw[PV.fH h1,h2]
  refine⟨rfl,by simpa using h1,fun i c y e1 e2=>?_⟩
  cases i with
  |zero=>simp at e1 e2;subst e1;subst e2;exact h
  |succ i=>simp at e1
 cases h with
 |agg cs vs h0 hl h=>exact⟨hl,h0,h⟩
 |int k n=>exact one rfl rfl (.int k n)
 |bool b=>exact one rfl rfl (.bool b)
 |nil m W ad=>exact one rfl rfl (.nil m W ad)
 |sl m W es b off cap vals hc hb hW h0 hv hr=>exact one rfl rfl (.sl m W es b off cap vals hc hb hW h0 hv hr)
 |f5 m e b off vals hb h0 hv hr=>exact one rfl rfl (.f5 m e b off vals hb h0 hv hr)
 |fn f caps vs hl h=>exact one rfl rfl (.fn f caps vs hl h)
 |lp f fs vs hl h=>exact one rfl rfl (.lp f fs vs hl h)
 |mp m es es0 hp b clock en hb hm hl hk hv hbo hd=>exact one rfl rfl (.mp m es es0 hp b clock en hb hm hl hk hv hbo hd)
 |raw v h=>exact one rfl (iv h) (.raw x h)
theorem VR.one {w FB β} {c:AV} {x:Value} (h:VR w FB β c x) (ho:c.one=true):x.cells.size=[c].length/\(∀c'∈[c],c'.one=true)/\∀(i:Nat) c' y,[c][i]?=some c'->x.cells[i]?=some y->VR w FB β c' y:=by
 rw[iv (h.gG ho)]
 refine⟨rfl,by simpa using ho,fun i c y e1 e2=>?_⟩
 cases i with
 |zero=>simp at e1 e2;subst e1;subst e2;exact h
 |succ i=>simp at e1
theorem kU {t:TypeId} {v:AV} {K:List AV->Prop} (h:cellsOf Γ t v K):∃cs,K cs/\(∀w FB β x,VR w FB β v x->x.cells.size=cs.length/\(∀c∈cs,c.one=true)/\∀(i:Nat) c y,cs[i]?=some c->x.cells[i]?=some y->VR w FB β c y)/\∀k,AV.bm cs k->v.aT k:=by
 have menP:∀(l:List PV) k,¬AV.bm (l.map .p) k:=by
  intro l k
  induction l with
  |nil=>simp[AV.bm]
  |cons p l ih=>simp only[List.map_cons,AV.bm,AV.aT,false_or];exact ih
 unfold cellsOf at h
 split at h
 ·refine⟨_,ud h,fun w FB β x hv=>?_,fun k hk=>(menP _ k hk).elim⟩
  obtain⟨h1,h0,h2⟩:=hv.D6.cells
  refine⟨by rw[h1];simp[PV.cells],by simpa[PV.cells,AV.one]using h0,fun i c y e1 e2=>?_⟩
  rw[List.getElem?_map]at e1
  cases e:(‹List PV›)[i]? with
  |none=>rw[e]at e1;cases e1
  |some p=>rw[e]at e1;cases e1;exact .p (h2 i p y e e2)
 ·rename_i v hna
  refine⟨_,h,fun w FB β x hv=>?_,fun k hk=>by simp only[AV.bm,AV.aT,or_self]at hk⟩
  have e:v.one=true:=by cases v<;>first|rfl|exact(hna _ rfl).elim
  exact hv.one e
 ·refine⟨_,h,fun w FB β x hv=>hv.one rfl,fun k hk=>by simpa only[AV.bm,or_false]using hk⟩
 ·have h':=h
  obtain⟨p,⟨hk,ho⟩,hp⟩:=j3 (Γ:=Γ) (t:=t) (v:=.emp) (K:=fun p=>K [.p p]/\p.one=true) (by
   simp only[uO]at h'⊢
   split at h'
   ·split at h'
    ·exact⟨h',rfl⟩
    ·exact h'.elim
   ·exact h'.elim)
  exact⟨_,hk,fun w FB β x hv=>(VR.p (hp w FB β x hv)).one ho,fun k hk=>by simp only[AV.bm,AV.aT,or_self]at hk⟩
 ·refine⟨_,h,fun w FB β x hv=>by cases hv with|agg _ arr h0 h1 h2=>exact⟨h1,h0,h2⟩,fun k hk=>by simpa only[AV.aT]using hk⟩
 ·refine⟨_,h,fun w FB β x hv=>hv.one rfl,fun k hk=>by simpa only[AV.bm,or_false]using hk⟩
 ·refine⟨_,h,fun w FB β x hv=>hv.one rfl,fun k hk=>by simpa only[AV.bm,or_false]using hk⟩
 ·refine⟨_,h,fun w FB β x hv=>hv.one rfl,fun k hk=>by simpa only[AV.bm,or_false]using hk⟩
 ·refine⟨_,h,fun w FB β x hv=>hv.one rfl,fun k hk=>by simpa only[AV.bm,or_false]using hk⟩
 ·refine⟨_,h,fun w FB β x hv=>hv.one rfl,fun k hk=>by simpa only[AV.bm,or_false]using hk⟩
 ·exact h.elim
theorem EX {t:TypeId} {v:AV} {K:List AV->Prop} (h:A1 Γ t v K):∃cs,K cs/\(∀w FB β x,VR w FB β v x->x.cells.size=cs.length/\(∀c∈cs,c.one=true)/\∀(i:Nat) c y,cs[i]?=some c->x.cells[i]?=some y->VR w FB β c y)/\∀k,AV.bm cs k->v.aT k:=by
 unfold A1 at h
 split at h
 ·cases h with
  |e h=>exact⟨_,h,fun w FB β x hv=>hv.one rfl,fun k hk=>by simp only[AV.bm,AV.aT,or_self]at hk⟩
  |s h=>exact kU h
 ·exact kU h
theorem VR.nV {w FB β} {v:AV} {x:Value} {K:Bool->Prop} (hv:VR w FB β v x) (h:nV v K):∃b,x= .bool b/\K b:=by
 unfold Go.Proofs.YtiakeknbdclaoaaGreat.nV at h
 split at h
 ·cases hv;exact⟨_,rfl,h⟩
 ·cases hv with|p h'=>cases h';exact⟨_,rfl,h⟩
 ·exact h.elim
end
end
section
section
variable {P:Program} {Γ:oy} (hΓ:gW P Γ)
include hΓ
theorem Dt {t:TypeId} {i:TI} (h:Γ t=some i) (w:World):(isAgg t).run P w= .ok i.d.agg w:=by
 have:=(hΓ t i h).desc
 unfold isAgg
 cases hd:i.d with
 |other=>
  rw[hd]at this
  obtain⟨d,h1,h2⟩:=this
  cases d<;>first|exact h2.elim|(simp[run_underlying h1,Ty.agg];done)
 |struct fs=>rw[hd]at this;obtain⟨fields,h1,_⟩:=this;simp[run_underlying h1,Ty.agg]
 |_=>rw[hd]at this;simp[run_underlying this,Ty.agg]
theorem dG {t:TypeId} {i:TI} (h:Γ t=some i) (w:World):(sizeOf t).run P w= .ok i.size w:=by
 obtain⟨info,z,h1,h2,_⟩:=(hΓ t i h).info
 simp[sizeOf,typeInfo,h1,h2]
theorem oT {t:TypeId} {i:TI} (h:Γ t=some i):∃z,(∀w,(zeroValue t).run P w= .ok z w)/\z.cells.size=i.size/\i.zero.length=i.size/\∀w FB (j:Nat) c v,i.zero[j]?=some c->z.cells[j]?=some v->PR w FB c v:=by
 obtain⟨info,z,h1,h2,h3,h4,h5,h6,h7⟩:=(hΓ t i h).info
 exact⟨z,fun w=>by simp[zeroValue,typeInfo,h1,h4],h5,h6,h7⟩
theorem sa {t:TypeId} {i:TI} (h:Γ t=some i):∃info z,P.info? t=some info/\info.size=i.size/\info.bytes=i.bytes/\info.zero=some z/\z.cells.size=i.size:=by
 obtain⟨info,z,h1,h2,h3,h4,h5,h6,h7⟩:=(hΓ t i h).info
 exact⟨info,z,h1,h2,h3,h4,h5⟩
end
section
variable {P:Program} {Γ:oy} {E:Env} {n:Nat} {s:Nat->AV} {L:Hd->aA} {a:Act} {w:World} {F:Nat->Prop} {β:Hd->Option Nat×Nat} {K:AV->List (Hd×aA)->Prop}
 {W:Operand->(AV->Prop)->Prop} {LK:Hd->(aA->Prop)->Prop}
theorem kB (hW:∀x K,W x K->K (cL s x)) (h:cC E n s L a w F β) {x:Operand} (hk:W x fun v=>K v []):Out P E n s L a K (.ok (a.eval x) w):=
 .same h (hW _ _ hk) (h.ev x) (h.AN x)
theorem nS (l:List PV) (k:Hd):¬AV.bm (l.map .p) k:=by
 induction l with
 |nil=>simp[AV.bm]
 |cons p l ih=>simp only[List.map_cons,AV.bm,AV.aT,false_or];exact ih
variable {wr:FuncId->Bool} {base:Nat}
theorem IA (hW:∀x K,W x K->K (cL s x)) (h:cC E n s L a w F β) {c x y:Operand} (hk:aR Γ P wr W LK L base (.pick c x y) K):
  Out P E n s L a K ((do pure (if<-asBool (a.eval c)then a.eval x else a.eval y):Sem Value).run P w):=by
 have hc:=h.ev c
 have hk:=hW c _ hk
 generalize cL s c=vc at hk hc
 generalize a.eval c=xc at hc
 split at hk
 ·cases hc;simp[asBool];exact kB hW h hk
 ·cases hc;simp[asBool];exact kB hW h hk
 ·rename_i t
  cases hc with|p hc=>
   cases hc
   cases t
   ·simp[asBool];exact kB hW h hk
   ·simp[asBool];exact kB hW h hk
 ·exact hk.elim
theorem pQ (w:World) (o:Obj) {b:Nat} (h:b<w.heap.size):(w.alloc o).heap[b]?=w.heap[b]?:=by
 show(w.heap.push o)[b]?=_
 rw[Array.getElem?_push,if_neg qO]
theorem fp (w:World) (o:Obj):(w.alloc o).heap[w.heap.size]?=some o:=by
 show(w.heap.push o)[w.heap.size]?=_
 rw[Array.getElem?_push,if_pos rfl]
theorem cC.JO (h:cC E n s L a w F β):∀m b,aM E.bW F m b->b<w.heap.size:=by
 intro m b hb
 cases m
 ·exact h.nA b hb
 ·exact Nat.lt_of_lt_of_le (h.iT b (h.Ca b hb)) h.size
theorem cC.pI (h:cC E n s L a w F β) (o:Obj) (hfree:L base= .free) (r:Option Nat×Nat) {v:AV} {x:Value} (hv:VR w (aM E.bW F) β v x) (hm:∀k,v.aT k->L k≠ .free):
  VR (w.alloc o) (aM E.bW F) (a8 β base r) v x:=
 hv.mono (fun _ _=>id) (fun m b hb=>pQ w o (h.JO m b hb)) fun k hk=>aj _ _ fun e=>hm k hk (e▸hfree)
theorem cC.iG (h:cC E n s L a w F β) (o:Obj) {v:PV} {x:Value} (hv:PR w (aM E.bW F) v x):PR (w.alloc o) (aM E.bW F) v x:=
 hv.mono (fun _ _=>id) (fun m b hb=>pQ w o (h.JO m b hb))
theorem Au (h:cC E n s L a w F β) (hf:∀v ups,K v ups->∀x∈ups,base<=x.1.key->fZ L x.1.key) {t:TypeId} {arr:Array Value} {cs:List AV} (hk:K (.aC base 0) [(base,.box t cs)])
  (hone:∀c∈cs,c.one=true) (hl:arr.size=cs.length) (hc:∀(i:Nat) c v,cs[i]?=some c->arr[i]?=some v->VR w (aM E.bW F) β c v) (hm:∀k,AV.bm cs k->L k≠ .free):
  Out P E n s L a K (.ok (.pointer (some ⟨w.heap.size,0,none⟩)) (w.alloc (.cells arr t))):=by
 have hfree:L base= .free:=(hf _ _ hk (base,.box t cs) qS (Nat.le_refl _)).1
 refine .new h arr t (.box t cs) base 0 hk hfree ⟨hone,w.heap.size,arr,by rw[ah],fp w _,hl,fun i c v h1 h2=>?_⟩ trivial (fun j hj=>hm j hj) (.aC (by rw[ah])) (fun k hk=>.inl hk.symm)
 exact h.pI _ hfree _ (hc i c v h1 h2) fun k hk=>hm k (AV.bj (List.mem_of_getElem? h1) hk)
theorem EM (hΓ:gW P Γ) (h:cC E n s L a w F β) (hf:∀v ups,K v ups->∀x∈ups,base<=x.1.key->fZ L x.1.key) {t:TypeId} (hk:aR Γ P wr W LK L base (.alloc t) K):
  Out P E n s L a K ((Instr.alloc t true (.tuple #[])).run P w):=by
 simp only[aR]at hk
 split at hk
 ·rename_i i hi
  obtain⟨z,hz,h1,h2,h3⟩:=oT hΓ hi
  have hk:=ud hk
  have hr:(Instr.alloc t true (.tuple #[])).run P w= .ok (.pointer (some ⟨w.heap.size,0,none⟩)) (w.alloc (.cells z.cells t)):=by
   simp[Instr.alloc,hz,newVar,newRow]
  rw[hr]
  refine Au h hf hk (fun c hc=>?_) (by rw[h1];simp[h2]) (fun j c v e1 e2=>?_) fun k hk=>(nS _ k hk).elim
  ·obtain⟨p,hp,rfl⟩:=List.mem_map.1 hc;exact(hΓ t i hi).plain p hp
  ·rw[List.getElem?_map]at e1
   cases e:i.zero[j]? with
   |none=>rw[e]at e1;cases e1
   |some p=>rw[e]at e1;cases e1;exact .p (h3 w _ j p v e e2)
 ·exact hk.elim
theorem KJ (hW:∀x K,W x K->K (cL s x)) (h:cC E n s L a w F β) (hf:∀v ups,K v ups->∀x∈ups,base<=x.1.key->fZ L x.1.key) {t:TypeId} {x:Operand} (hk:aR Γ P wr W LK L base (.box t x) K):
  Out P E n s L a K ((Instr.box t (a.eval x)).run P w):=by
 obtain⟨cs,hk,hc,hm⟩:=kU (hW x _ hk)
 obtain⟨h1,h0,h2⟩:=hc _ _ _ _ (h.ev x)
 have hr:(Instr.box t (a.eval x)).run P w= .ok (.pointer (some ⟨w.heap.size,0,none⟩)) (w.alloc (.cells (a.eval x).cells t)):=by
  simp[Instr.box,newVar,newRow]
 rw[hr]
 exact Au h hf hk h0 h1 h2 fun k hk=>h.AN x k (hm k hk)
theorem eK (hΓ:gW P Γ) {t:TypeId} {i:TI} (hi:Γ t=some i) (w:World) (b off:Nat) (f:Nat->Value) (hc:∀j,j<(if i.d.agg then i.size else 1)->w.cell? ⟨b,off+j,none⟩=some (f j)):
  (Instr.loadAt t (.pointer (some ⟨b,off,none⟩))).run P w= .ok (if i.d.agg then .agg ((List.range i.size).map f).toArray else f 0) w:=by
 have ha:=Dt hΓ hi w
 have hs:=dG hΓ hi w
 cases e:i.d.agg with
 |true=>
  rw[e]at ha hc
  have hl:=run_loadCells (P:=P) w ⟨b,off,none⟩ i.size f (fun j hj=>by rw[Addr.add_lit];exact hc j (by simpa using hj))
  simp[Instr.loadAt,Instr.sureAddr,loadVar,ha,hs,hl]
 |false=>
  rw[e]at ha hc
  have h0:=hc 0 qS
  simp only[Nat.add_zero]at h0
  simp[Instr.loadAt,Instr.sureAddr,loadVar,ha,h0]
theorem kd (f:Nat->Value) (m i:Nat) (v:Value) (h:((List.range m).map f).toArray[i]?=some v):i<m/\v=f i:=by
 simp only[List.getElem?_toArray,List.getElem?_map,List.getElem?_range']at h
 by_cases hi:i<m
 ·rw[List.getElem?_range hi]at h;cases h;exact⟨hi,rfl⟩
 ·rw[List.getElem?_eq_none (by simp;omega)]at h;cases h
theorem zT {cs l:List AV} (h:∀c∈l,c∈cs) {k:Hd} (hk:AV.bm l k):AV.bm cs k:=by
 induction l with
 |nil=>simp only[AV.bm]at hk
 |cons c l ih=>
  simp only[AV.bm]at hk
  rcases hk with hk|hk
  ·exact AV.bj (h c qS) hk
  ·exact ih (fun c hc=>h c (by simp[hc])) hk
inductive Ow (L:Hd->aA) (w:World) (FB:Bool->Nat->Prop) (β:Hd->Option Nat×Nat) (K:AV->List (Hd×aA)->Prop):Result Value->Prop
 |mk {v:AV} {x:Value} (hk:K v []) (hv:VR w FB β v x) (hm:∀k,v.aT k->L k≠ .free):Ow L w FB β K (.ok x w)
theorem Dn (hΓ:gW P Γ) (hW:∀x K,W x K->K (cL s x)) (hL:∀h K,LK h K->K (L h)) (h:cC E n s L a w F β) {t:TypeId} {x:Operand} (hk:aR Γ P wr W LK L base (.load t x) K):
  Ow L w (aM E.bW F) β K ((Instr.loadAt t (a.eval x)).run P w):=by
 have hx:=h.ev x
 have hm:=h.AN x
 have hk:=hW x _ hk
 generalize cL s x=v at hk hx hm
 generalize a.eval x=y at hx
 split at hk
 ·
  rename_i hd off
  have hk:=hL hd _ hk
  have hb:=h.d4 hd
  have hmb:=h.mb hd
  generalize hB:L hd=B at hk hb hmb
  split at hk
  ·rename_i T cs i hi
   obtain⟨h0,b,arr,g1,g2,g3,g4⟩:=hb
   cases hx with| @aC _ _ b' hb'=>
   rw[g1]at hb';cases hb'
   have cell:∀j,off+j<cs.length->w.cell? ⟨b,off+j,none⟩=some (arr.getD (off+j) Go.undef):=fun j hj=>by
    simp only[World.cell?,g2];simp[Array.getD,g3,hj]
   split at hk
   ·rename_i ha
    have hlen:=tn hk
    have hk:=wy hk (.inl hlen)
    obtain⟨r,hk,hr,hrm⟩:=tK hk
    have hrun:=eK hΓ hi w b off (fun j=>arr.getD (off+j) Go.undef) (fun j hj=>cell j (by rw[ha]at hj;simp at hj;omega))
    rw[hrun,ha]
    simp only[if_true]
    refine .mk hk (hr _ _ _ _ (fun c hc=>h0 c (List.mem_of_mem_drop (List.mem_of_mem_take hc))) (by simp;omega) fun j c v e1 e2=>?_) fun k hk=>hmb k (zT (fun c hc=>List.mem_of_mem_drop (List.mem_of_mem_take hc)) (hrm k hk))
    obtain⟨hj,rfl⟩:=kd _ _ _ _ e2
    rw[List.getElem?_take_of_lt hj,List.getElem?_drop]at e1
    exact g4 _ c _ e1 (by simp[Array.getD,g3,(List.getElem?_eq_some_iff.1 e1).1])
   ·rename_i ha
    obtain⟨c,hc,hk⟩:=xN hk
    have hlt:=(List.getElem?_eq_some_iff.1 hc).1
    have hrun:=eK hΓ hi w b off (fun j=>arr.getD (off+j) Go.undef) (fun j hj=>cell j (by rw[ha]at hj;simp at hj;omega))
    rw[hrun,ha]
    simp only[Bool.false_eq_true,if_false,Nat.add_zero]
    exact .mk hk (g4 off c _ hc (by simp[Array.getD,g3,hlt])) fun k hk=>hmb k (AV.bj (List.mem_of_getElem? hc) hk)
  ·exact hk.elim
 ·
  rename_i hd Wd i off
  have hk:=hL hd _ hk
  have hb:=h.d4 hd
  have hmb:=h.mb hd
  generalize hB:L hd=B at hk hb
  split at hk
  ·rename_i T W' es ti hi
   cases hWd:Nat.beq Wd W' with
   |false=>rw[hWd]at hk;exact hk.elim
   |true=>
    rw[hWd]at hk
    have hWd:=Nat.eq_of_beq_eq_true hWd
    subst hWd
    simp only[cond_true]at hk
    cases hk with|mk j e hij he hk=>
    have hij:i=j:=qO
    subst hij
    obtain⟨q1,q2,q3⟩:=hb
    cases hx with| @dO _ _ _ _ b hb'=>
    obtain⟨arr,g1,g2,g3,g4⟩:∃arr,(β hd).1=some b/\w.heap[b]?=some (.cells arr T (0,0))/\arr.size=(β hd).2*Wd/\∀(i:Nat) e (j:Nat) c v,es[i]?=some e->e.cells[j]?=some c->arr[i*Wd+j]?=some v->PR w (aM E.bW F) c v:=by
     rcases q3 with q3|⟨b',arr,g1,g2,g3,g4⟩
     ·rw[q3.1]at hb';cases hb'
     ·rw[g1]at hb';cases hb';exact⟨arr,g1,g2,g3,g4⟩
    have hlt:=(List.getElem?_eq_some_iff.1 he).1
    obtain⟨hw,hone⟩:=q1 e (List.mem_of_getElem? he)
    have hin:∀j,j<Wd->i*Wd+j<arr.size:=fun j hj=>by
     rw[g3]
     have:(i+1)*Wd<=(β hd).2*Wd:=Nat.mul_le_mul_right _ qO
     rw[Nat.add_mul]at this;omega
    have cell:∀j,j<Wd->w.cell? ⟨b,i*Wd+j,none⟩=some (arr.getD (i*Wd+j) Go.undef):=fun j hj=>by
     simp only[World.cell?,g2];simp[Array.getD,hin j hj]
    cases ha:ti.d.agg with
    |true=>
     simp only[ha]at hk
     cases off with
     |succ o=>
      cases e with
      |agg cs=>
       obtain⟨hle,hk⟩:=mJ hk
       have hcl:cs.length=Wd:=hw
       have hrun:=eK hΓ hi w b (i*Wd+(o+1)) (fun j=>arr.getD (i*Wd+(o+1)+j) Go.undef) (fun j hj=>by
        rw[ha]at hj;simp at hj
        have:=cell ((o+1)+j) qO
        rwa[<-Nat.add_assoc]at this)
       rw[hrun,ha]
       simp only[if_true]
       refine .mk hk (.p (.agg _ _ (fun c hc=>hone c (List.mem_of_mem_drop (List.mem_of_mem_take hc))) (by simp;omega) fun j c v e1 e2=>?_)) fun k hk=>by simp only[AV.aT]at hk
       obtain⟨hj,rfl⟩:=kd _ _ _ _ e2
       rw[List.getElem?_take_of_lt hj,List.getElem?_drop]at e1
       have hin:=hin ((o+1)+j) qO
       rw[<-Nat.add_assoc]at hin
       have gs:∀m,m<arr.size->arr[m]?=some (arr.getD m Go.undef):=fun m hm=>by simp[Array.getD,hm]
       exact g4 i _ ((o+1)+j) c _ he e1 (by rw[<-Nat.add_assoc];exact gs _ hin)
      |_=>exact hk.elim
     |zero=>
      cases e with
      |agg cs=>
       cases hsz:Nat.beq ti.size Wd with
       |false=>
        rw[hsz]at hk
        have hk:iP cs 0 ti.size fun l=>K (.p (.agg l)) []:=hk
        obtain⟨hle,hk⟩:=mJ hk
        have hcl:cs.length=Wd:=hw
        have hrun:=eK hΓ hi w b (i*Wd+0) (fun j=>arr.getD (i*Wd+0+j) Go.undef) (fun j hj=>by
         rw[ha]at hj;simp at hj
         have:=cell (0+j) qO
         rwa[<-Nat.add_assoc]at this)
        rw[hrun,ha]
        simp only[if_true]
        refine .mk hk (.p (.agg _ _ (fun c hc=>hone c (List.mem_of_mem_drop (List.mem_of_mem_take hc))) (by simp;omega) fun j c v e1 e2=>?_)) fun k hk=>by simp only[AV.aT]at hk
        obtain⟨hj,rfl⟩:=kd _ _ _ _ e2
        rw[List.getElem?_take_of_lt hj,List.getElem?_drop]at e1
        have hin:=hin (0+j) qO
        rw[<-Nat.add_assoc]at hin
        have gs:∀m,m<arr.size->arr[m]?=some (arr.getD m Go.undef):=fun m hm=>by simp[Array.getD,hm]
        exact g4 i _ (0+j) c _ he e1 (by rw[<-Nat.add_assoc];exact gs _ hin)
       |true=>
        rw[hsz]at hk
        have hsz:=Nat.eq_of_beq_eq_true hsz
        have hrun:=eK hΓ hi w b (i*Wd+0) (fun j=>arr.getD (i*Wd+j) Go.undef) (fun j hj=>by rw[ha]at hj;simp at hj;simpa using cell j qO)
        rw[hrun,ha]
        simp only[if_true]
        refine .mk hk (.p (.agg cs _ hone (by simp[hsz];exact hw.symm) fun j c v e1 e2=>?_)) fun k hk=>by simp only[AV.aT]at hk
        obtain⟨hj,rfl⟩:=kd _ _ _ _ e2
        exact g4 i _ j c _ he e1 (by simp[Array.getD,hin j qO])
      |_=>exact hk.elim
    |false=>
     have hk:po e.cells off fun c=>K (.p c) []:=by simpa only[ha]using hk
     obtain⟨c,hc,hk⟩:=pM hk
     have hofl:=(List.getElem?_eq_some_iff.1 hc).1
     rw[hw]at hofl
     have hrun:=eK hΓ hi w b (i*Wd+off) (fun j=>arr.getD (i*Wd+off+j) Go.undef) (fun j hj=>by rw[ha]at hj;simp at hj;subst hj;simpa using cell off hofl)
     rw[hrun,ha]
     simp only[Bool.false_eq_true,if_false,Nat.add_zero]
     exact .mk hk (.p (g4 i _ off c _ he hc (by simp[Array.getD,hin off hofl]))) fun k hk=>by simp only[AV.aT]at hk
  ·rename_i T cs ti hi
   cases hcond:(Nat.beq Wd 1&&(Nat.beq off 0&& !ti.d.agg))with
   |false=>rw[hcond]at hk;exact hk.elim
   |true=>
    rw[hcond]at hk
    have hk2:bJ cs i fun c=>K c []:=hk
    clear hk
    simp only[Bool.and_eq_true,Bool.not_eq_true']at hcond
    obtain⟨hWd,hoff,ha⟩:=hcond
    have hWd:=Nat.eq_of_beq_eq_true hWd
    have hoff:=Nat.eq_of_beq_eq_true hoff
    subst hWd hoff
    cases hk2 with|mk j c hij hc hk=>
    have hij:i=j:=qO
    subst hij
    obtain⟨q1,q2,q3⟩:=hb
    cases hx with| @dO _ _ _ _ b hb'=>
    obtain⟨arr,g1,g2,g3,g4⟩:∃arr,(β hd).1=some b/\w.heap[b]?=some (.cells arr T (0,0))/\arr.size=(β hd).2/\∀(i:Nat) c v,cs[i]?=some c->arr[i]?=some v->VR w (aM E.bW F) β c v:=by
     rcases q3 with q3|⟨b',arr,g1,g2,g3,g4⟩
     ·rw[q3.1]at hb';cases hb'
     ·rw[g1]at hb';cases hb';exact⟨arr,g1,g2,g3,g4⟩
    have hlt:=(List.getElem?_eq_some_iff.1 hc).1
    have hin:i<arr.size:=qO
    have cell:w.cell? ⟨b,i*1+0,none⟩=some (arr.getD i Go.undef):=by
     simp only[World.cell?,g2];simp[Array.getD,hin]
    have hrun:=eK hΓ hi w b (i*1+0) (fun j=>arr.getD (i+j) Go.undef) (fun j hj=>by rw[ha]at hj;simp at hj;subst hj;simpa using cell)
    rw[hrun,ha]
    simp only[Bool.false_eq_true,if_false,Nat.add_zero]
    exact .mk hk (g4 i c _ hc (by simp[Array.getD,hin])) fun k hk=>hmb k (by rw[hB];exact AV.bj (List.mem_of_getElem? hc) hk)
  ·exact hk.elim
 ·
  rename_i m e
  cases hx with|p hx=>
  cases hx with|f5 _ _ b off vals hb hone hv hr=>
  split at hk
  ·rename_i ti hi
   cases ha:ti.d.agg with
   |true=>
    simp only[ha]at hk
    cases e with
    |agg cs=>
     cases hsz:Nat.beq ti.size cs.length with
     |false=>simp only[hsz]at hk;exact hk.elim
     |true=>
      simp only[hsz]at hk
      have hsz:=Nat.eq_of_beq_eq_true hsz
      have hrun:=eK hΓ hi w b off vals (fun j hj=>by rw[ha]at hj;simp at hj;exact hv j _ (List.getElem?_eq_getElem (by show j<cs.length;omega)))
      rw[hrun,ha]
      simp only[if_true]
      refine .mk hk (.p (.agg cs _ hone (by simp[hsz]) fun j c v e1 e2=>?_)) fun k hk=>by simp only[AV.aT]at hk
      obtain⟨hj,rfl⟩:=kd _ _ _ _ e2
      exact hr j c e1
    |_=>exact hk.elim
   |false=>
    have key:∃c,e.cells[0]?=some c/\K (.p c) []:=by
     simp only[ha]at hk
     cases e with
     |agg cs=>exact pM hk
     |_=>exact⟨_,rfl,hk⟩
    obtain⟨c,hc,hk⟩:=key
    have hrun:=eK hΓ hi w b off vals (fun j hj=>by rw[ha]at hj;simp at hj;subst hj;exact hv 0 c hc)
    rw[hrun,ha]
    simp only[Bool.false_eq_true,if_false]
    exact .mk hk (.p (hr 0 c hc)) fun k hk=>by simp only[AV.aT]at hk
  ·exact hk.elim
 ·exact hk.elim
theorem Ga (hΓ:gW P Γ) (hW:∀x K,W x K->K (cL s x)) (hL:∀h K,LK h K->K (L h)) (h:cC E n s L a w F β) {t:TypeId} {x:Operand} (hk:aR Γ P wr W LK L base (.load t x) K):
  Out P E n s L a K ((Instr.loadAt t (a.eval x)).run P w):=by
 have:=Dn hΓ hW hL h hk
 generalize(Instr.loadAt t (a.eval x)).run P w=r at this
 cases this with
 |mk hk hv hm=>exact .same h hk hv hm
end
end
section
section
variable {P:Program} {Γ:oy} {E:Env} {n:Nat} {s:Nat->AV} {L:Hd->aA} {a:Act} {w:World} {F:Nat->Prop} {β:Hd->Option Nat×Nat} {K:AV->List (Hd×aA)->Prop}
 {W:Operand->(AV->Prop)->Prop} {LK:Hd->(aA->Prop)->Prop} {wr:FuncId->Bool} {base:Nat}
theorem lH (hΓ:gW P Γ) {t:TypeId} {i:TI} (hi:Γ t=some i) (w:World) (b off:Nat) (T:TypeId) (arr:Array Value) (x:Value) (hb:w.heap[b]?=some (.cells arr T (0,0)))
  (hs:x.cells.size=i.size) (hl:off+i.size<=arr.size) (h1:∀v∈x.cells.toList,v.oneCell'=true):
  (Instr.storeAt t (.pointer (some ⟨b,off,none⟩)) x).run P w= .ok () (w.setRow b (arr.toList.take off++x.cells.toList++arr.toList.drop (off+i.size)).toArray):=by
 have hsz:=dG hΓ hi w
 have hst:=run_storeCells_at P b off T x.cells.toList 0 arr w hb (by simp[hs];omega) h1
 simp only[Nat.add_zero,Array.length_toList,hs]at hst
 simp[Instr.storeAt,Instr.sureAddr,storeVar,hsz,hs,hst]
theorem p7 (h:cC E n s L a w F β) {hd:Hd} {b:Nat} {T:TypeId} {arr arr':Array Value} {B:aA} (hk:K .undef [(hd,B)]) (hl:(L hd).live) (hb:(β hd).1=some b) (hh:w.heap[b]?=some (.cells arr T (0,0)))
  (hO:rK (w.setRow b arr') (aM E.bW F) β hd B) (hlive:B.live) (hmen:∀j,B.aT j->L j≠ .free):Out P E n s L a K (.ok Go.undef (w.setRow b arr')):=
 ⟨.undef,_,F,β,hk,by show cC E n s (fg L hd B) a _ F β;rw[qW hlive];exact h.write B hd rfl rfl rfl qS hb (fun b' hb'=>setRow_other w b b' arr' hb') hl hO hlive hmen,.undef,fun k hk=>by simp only[AV.aT]at hk⟩
theorem cC.Cc (h:cC E n s L a w F β) {hd:Hd} {b:Nat} (hl:(L hd).live) (hb:(β hd).1=some b) (arr':Array Value) {v:PV} {x:Value} (hv:PR w (aM E.bW F) v x):PR (w.setRow b arr') (aM E.bW F) v x:=
 hv.mono (fun _ _=>id) fun m b' hb'=>setRow_other w b b' arr' (by
  have:=h.own hd b hl hb
  intro e;subst e
  cases m
  ·exact this.1 hb'
  ·exact this.2.1 (h.Ca _ hb'))
theorem cC.A7 (h:cC E n s L a w F β) {hd:Hd} {b:Nat} (hl:(L hd).live) (hb:(β hd).1=some b) (arr':Array Value) {v:AV} {x:Value} (hv:VR w (aM E.bW F) β v x):VR (w.setRow b arr') (aM E.bW F) β v x:=
 hv.mono (fun _ _=>id) (fun m b' hb'=>setRow_other w b b' arr' (by
  have:=h.own hd b hl hb
  intro e;subst e
  cases m
  ·exact this.1 hb'
  ·exact this.2.1 (h.Ca _ hb'))) fun _ _=>rfl
theorem dW {α:Type} (cs vs:List α) (o j:Nat) (h:o+vs.length<=cs.length):(cs.take o++vs++cs.drop (o+vs.length))[j]?=if j<o then cs[j]? else if j<o+vs.length then vs[j-o]? else cs[j]?:=by
 split
 ·rw[List.append_assoc,List.getElem?_append_left (by simp;omega),List.getElem?_take_of_lt (by assumption)]
 ·split
  ·rw[List.append_assoc,List.getElem?_append_right (by simp;omega)]
   simp only[List.length_take,Nat.min_eq_left (show o<=cs.length by omega)]
   rw[List.getElem?_append_left qO]
  ·rw[List.getElem?_append_right (by simp;omega)]
   simp only[List.length_append,List.length_take,Nat.min_eq_left (show o<=cs.length by omega),List.getElem?_drop]
   congr 1;omega
theorem s7 {e:TypeId} {v:AV} {K:AV->Prop} (h:At Γ e v K):∃c,K c/\c.one=true/\(∀w FB β x,VR w FB β v x->VR w FB β c x)/\∀k,c.aT k->v.aT k:=by
 unfold At at h
 split at h
 ·exact⟨_,h,rfl,fun _ _ _ _ hx=>hx,fun _ hk=>hk⟩
 ·obtain⟨p,hk,hp⟩:=j3 h
  cases ho:p.one with
  |false=>rw[ho]at hk;exact hk.elim
  |true=>rw[ho]at hk;exact⟨_,hk,ho,fun w FB β x hx=>.p (hp w FB β x hx),fun k hk=>by simp only[AV.aT]at hk⟩
theorem tc (hΓ:gW P Γ) (h:cC E n s L a w F β) {t T:TypeId} {ti:TI} (hi:Γ t=some ti) (hsz:ti.size=1) {hd:Hd} {b i:Nat} {arr:Array Value} {cs:List AV} {c:AV} {y:Value} (hlv:(L hd).live) (g1:(β hd).1=some b)
  (g2:w.heap[b]?=some (.cells arr T (0,0))) (g3:arr.size=(β hd).2) (h1:∀c∈cs,c.one=true) (h2:cs.length<=(β hd).2) (g4:∀(i:Nat) c v,cs[i]?=some c->arr[i]?=some v->VR w (aM E.bW F) β c v)
  (hc:VR w (aM E.bW F) β c y) (hone:c.one=true) (hlt:i<cs.length) (hm:∀k,c.aT k->L k≠ .free) (hmb:∀k,AV.bm cs k->L k≠ .free) (hk:K .undef [(hd,.rows T (cs.set i c))]):
  ∃w',(Instr.storeAt t (.pointer (some ⟨b,i*1+0,none⟩)) y).run P w= .ok () w'/\Out P E n s L a K (.ok Go.undef w'):=by
 have hcell:y.cells= #[y]:=iv (hc.gG hone)
 have hrun:=lH hΓ hi w b (i*1+0) T arr y g2 (by rw[hcell,hsz];rfl) qO (by rw[hcell];intro v hv;simp at hv;subst hv;exact hc.gG hone)
 have one_set:∀d∈cs.set i c,d.one=true:=fun d hd=>by
  rcases List.mem_or_eq_of_mem_set hd with hd|hd
  ·exact h1 d hd
  ·subst hd;exact hone
 refine⟨_,hrun,p7 h hk hlv g1 g2 ⟨one_set,by simpa using h2,.inr ⟨b,_,g1,setRow_heap w b arr _ T _ g2,?_,fun j d v e1 e2=>?_⟩⟩ trivial fun j hj=>?_⟩
 ·simp[hcell,hsz];omega
 ·refine h.A7 hlv g1 _ ?_
  simp only[List.getElem?_toArray]at e2
  have eg:=dW arr.toList y.cells.toList (i*1+0) j (by simp[hcell];omega)
  have hl1:y.cells.toList.length=1:=by rw[hcell];rfl
  rw[hl1]at eg
  rw[hsz,eg]at e2
  by_cases hji:j=i
  ·subst hji
   rw[List.getElem?_set_self hlt]at e1
   cases e1
   rw[if_neg qO,if_pos qO]at e2
   rw[hcell]at e2
   have:j-(j*1+0)=0:=qO
   rw[this]at e2
   cases e2
   exact hc
  ·rw[List.getElem?_set_ne qO]at e1
   by_cases hlt':j<i
   ·rw[if_pos qO]at e2;exact g4 j d v e1 (by simpa using e2)
   ·rw[if_neg qO,if_neg qO]at e2;exact g4 j d v e1 (by simpa using e2)
 ·have hj:AV.bm (cs.set i c) j:=hj
  have:∀l:List AV,AV.bm l j->∃c,c∈l/\c.aT j:=by
   intro l
   induction l with
   |nil=>intro h;simp only[AV.bm]at h
   |cons c l ih=>
    intro h
    simp only[AV.bm]at h
    rcases h with h|h
    ·exact⟨c,qS,h⟩
    ·obtain⟨c',h1,h2⟩:=ih h;exact⟨c',by simp[h1],h2⟩
  obtain⟨d,hd,hdm⟩:=this _ hj
  rcases List.mem_or_eq_of_mem_set hd with hd|hd
  ·exact hmb j (AV.bj hd hdm)
  ·subst hd;exact hm j hdm
theorem Fl (hΓ:gW P Γ) (hW:∀x K,W x K->K (cL s x)) (hL:∀h K,LK h K->K (L h)) (h:cC E n s L a w F β) {t:TypeId} {x y:Operand} (hk:aR Γ P wr W LK L base (.store t x y) K):
  ∃w',(Instr.storeAt t (a.eval x) (a.eval y)).run P w= .ok () w'/\Out P E n s L a K (.ok Go.undef w'):=by
 have hx:=h.ev x
 have hy:=h.ev y
 have hmy:=h.AN y
 have hk:=hW y _ (hW x _ hk)
 generalize cL s x=vx at hk hx
 generalize cL s y=vy at hk hy hmy
 generalize a.eval x=ax at hx
 generalize a.eval y=ay at hy
 split at hk
 ·rename_i hd off
  have hk:=hL hd _ hk
  have hb:=h.d4 hd
  have hmb:=h.mb hd
  generalize hB:L hd=B at hk hb hmb
  split at hk
  ·rename_i T cs i hi
   obtain⟨h0,b,arr,g1,g2,g3,g4⟩:=hb
   cases hx with| @aC _ _ b' hb'=>
   rw[g1]at hb';cases hb'
   obtain⟨vs,hk,hc,hm⟩:=EX hk
   obtain⟨c1,c0,c2⟩:=hc _ _ _ _ hy
   cases hsz:Nat.beq vs.length i.size with
   |false=>rw[hsz]at hk;exact hk.elim
   |true=>
    rw[hsz]at hk
    have hsz:=Nat.eq_of_beq_eq_true hsz
    obtain⟨hlen,hk⟩:=td (K:=fun cs'=>K .undef [(hd,.box T cs')]) hk
    have cone:∀v∈ay.cells.toList,v.oneCell'=true:=fun v hv=>by
     obtain⟨j,hj⟩:=List.getElem?_of_mem hv
     have hj':j<vs.length:=by rw[<-c1];simpa using(List.getElem?_eq_some_iff.1 hj).1
     exact(c2 j vs[j] v (List.getElem?_eq_getElem hj') (by simpa using hj)).gG (c0 _ (List.getElem_mem hj'))
    have hrun:=lH hΓ hi w b off T arr ay g2 (by rw[c1,hsz]) qO cone
    have hlv:(L hd).live:=by rw[hB];trivial
    refine⟨_,hrun,p7 h hk hlv g1 g2 ⟨fun c hc=>?_,b,_,g1,setRow_heap w b arr _ T _ g2,?_,fun j c v e1 e2=>?_⟩ trivial fun j hj=>?_⟩
    ·simp only[List.mem_append]at hc
     rcases hc with(hc|hc)|hc
     ·exact h0 c (List.mem_of_mem_take hc)
     ·exact c0 c hc
     ·exact h0 c (List.mem_of_mem_drop hc)
    ·simp[c1];omega
    ·rw[dW _ _ _ _ hlen]at e1
     simp only[List.getElem?_toArray]at e2
     have e:=dW arr.toList ay.cells.toList off j (by simp[c1];omega)
     simp only[Array.length_toList,c1]at e
     rw[<-hsz,e]at e2
     refine h.A7 hlv g1 _ ?_
     split at e1
     ·rename_i hj;rw[if_pos hj]at e2;exact g4 j c v e1 (by simpa using e2)
     ·rename_i hj
      rw[if_neg hj]at e2
      split at e1
      ·rename_i hj';rw[if_pos hj']at e2;exact c2 (j-off) c v e1 (by simpa using e2)
      ·rename_i hj';rw[if_neg hj']at e2;exact g4 j c v e1 (by simpa using e2)
    ·obtain⟨c,hc,hcm⟩:∃c,c∈cs.take off++vs++cs.drop (off+vs.length)/\c.aT j:=by
      have:∀l:List AV,AV.bm l j->∃c,c∈l/\c.aT j:=by
       intro l
       induction l with
       |nil=>intro h;simp only[AV.bm]at h
       |cons c l ih=>
        intro h
        simp only[AV.bm]at h
        rcases h with h|h
        ·exact⟨c,qS,h⟩
        ·obtain⟨c',h1,h2⟩:=ih h;exact⟨c',by simp[h1],h2⟩
      exact this _ hj
     simp only[List.mem_append]at hc
     rcases hc with(hc|hc)|hc
     ·exact hmb j (AV.bj (List.mem_of_mem_take hc) hcm)
     ·exact hmy j (hm j (AV.bj hc hcm))
     ·exact hmb j (AV.bj (List.mem_of_mem_drop hc) hcm)
  ·exact hk.elim
 ·rename_i hd Wd i
  have hk:=hL hd _ hk
  have hb:=h.d4 hd
  have hmb:=h.mb hd
  generalize hB:L hd=B at hk hb hmb
  have hlv:B.live->(L hd).live:=fun h=>by rw[hB];exact h
  split at hk
  ·rename_i T W' es ti hi
   split at hk
   ·rename_i g Wg og lg _
    obtain⟨hb1,hk2⟩:(((Nat.beq Wd 1&&(Nat.beq W' 1&&(Nat.beq ti.size 1&& !ti.d.agg))))=true)/\Me es (cm i es.length (rR ((es.map .p).set i (.vec g Wg og lg)) fun cs'=>K .undef [(hd,.rows T cs')])):=by
     cases hc:(Nat.beq Wd 1&&(Nat.beq W' 1&&(Nat.beq ti.size 1&& !ti.d.agg)))with
     |false=>rw[hc]at hk;exact hk.elim
     |true=>rw[hc]at hk;exact⟨rfl,hk⟩
    simp only[Bool.and_eq_true]at hb1
    have hW1:=Nat.eq_of_beq_eq_true hb1.1
    have hW2:=Nat.eq_of_beq_eq_true hb1.2.1
    have hW3:=Nat.eq_of_beq_eq_true hb1.2.2.1
    subst hW1;subst hW2
    clear hk
    cases hk2 with|mk eone hk=>
    cases hk with|mk hlt hk=>
    cases hk with|mk cs' hcs hk=>
    subst hcs
    obtain⟨q1,q2,q3⟩:=hb
    cases hx with| @dO _ _ _ _ b hb'=>
    obtain⟨arr,g1,g2,g3,g4⟩:∃arr,(β hd).1=some b/\w.heap[b]?=some (.cells arr T (0,0))/\arr.size=(β hd).2*1/\∀(i:Nat) e (j:Nat) c v,es[i]?=some e->e.cells[j]?=some c->arr[i*1+j]?=some v->PR w (aM E.bW F) c v:=by
     rcases q3 with q3|⟨b',arr,g1,g2,g3,g4⟩
     ·rw[q3.1]at hb';cases hb'
     ·rw[g1]at hb';cases hb';exact⟨arr,g1,g2,g3,g4⟩
    refine tc hΓ h hi hW3 (hlv trivial) g1 g2 qO (fun c hc=>?_) (by simpa using q2) (fun j c v e1 e2=>?_) hy rfl (by simpa using hlt) hmy (fun k hk=>?_) hk
    ·obtain⟨e,he,rfl⟩:=List.mem_map.1 hc
     exact eone e he
    ·rw[List.getElem?_map]at e1
     obtain⟨e,he,rfl⟩:=Option.map_eq_some_iff.1 e1
     exact .p (g4 j e 0 e v he (by rw[PV.fH (eone e (List.mem_of_getElem? he))];rfl) (by simpa using e2))
    ·exact(nS _ _ hk).elim
   cases hWd:(Nat.beq Wd W'&&Nat.beq ti.size Wd)with
   |false=>rw[hWd]at hk;exact hk.elim
   |true=>
    rw[hWd]at hk
    simp only[Bool.and_eq_true]at hWd
    have hW1:=Nat.eq_of_beq_eq_true hWd.1
    have hW2:=Nat.eq_of_beq_eq_true hWd.2
    subst hW1
    obtain⟨e,hk,he⟩:=j3 hk
    have hpe:=he _ _ _ _ hy
    obtain⟨c1,c0,c2⟩:=hpe.cells
    cases hsz:Nat.beq e.cells.length Wd with
    |false=>rw[hsz]at hk;exact hk.elim
    |true=>
     rw[hsz]at hk
     have hsz:=Nat.eq_of_beq_eq_true hsz
     cases hk with|mk hlt hk=>
     cases hk with|mk es' hes hk=>
     subst hes
     obtain⟨q1,q2,q3⟩:=hb
     cases hx with| @dO _ _ _ _ b hb'=>
     obtain⟨arr,g1,g2,g3,g4⟩:∃arr,(β hd).1=some b/\w.heap[b]?=some (.cells arr T (0,0))/\arr.size=(β hd).2*Wd/\∀(i:Nat) e (j:Nat) c v,es[i]?=some e->e.cells[j]?=some c->arr[i*Wd+j]?=some v->PR w (aM E.bW F) c v:=by
      rcases q3 with q3|⟨b',arr,g1,g2,g3,g4⟩
      ·rw[q3.1]at hb';cases hb'
      ·rw[g1]at hb';cases hb';exact⟨arr,g1,g2,g3,g4⟩
     have hroom:i*Wd+Wd<=arr.size:=by
      rw[g3]
      have:(i+1)*Wd<=(β hd).2*Wd:=Nat.mul_le_mul_right _ qO
      rw[Nat.add_mul]at this;omega
     have cone:∀v∈ay.cells.toList,v.oneCell'=true:=fun v hv=>by
      obtain⟨j,hj⟩:=List.getElem?_of_mem hv
      have hj':j<e.cells.length:=by rw[<-c1];simpa using(List.getElem?_eq_some_iff.1 hj).1
      exact(c2 j e.cells[j] v (List.getElem?_eq_getElem hj') (by simpa using hj)).gG (c0 _ (List.getElem_mem hj'))
     have hrun:=lH hΓ hi w b (i*Wd) T arr ay g2 (by rw[c1,hsz,hW2]) qO cone
     have hlv:(L hd).live:=hlv trivial
     refine⟨_,hrun,p7 h hk hlv g1 g2 ⟨fun e' he'=>?_,by simpa using q2,.inr ⟨b,_,g1,setRow_heap w b arr _ T _ g2,?_,fun i' e' j c v e1 e2 e3=>?_⟩⟩ trivial fun j hj=>hj.elim⟩
     ·rcases List.mem_or_eq_of_mem_set he' with he'|he'
      ·exact q1 e' he'
      ·subst he';exact⟨hsz,c0⟩
     ·simp[c1,hsz];omega
     ·refine h.Cc hlv g1 _ ?_
      simp only[List.getElem?_toArray]at e3
      have eg:=dW arr.toList ay.cells.toList (i*Wd) (i'*Wd+j) (by simp[c1,hsz];omega)
      simp only[Array.length_toList,c1,hsz]at eg
      rw[hW2,eg]at e3
      have hjW:j<Wd:=by
       have:=(List.getElem?_eq_some_iff.1 e2).1
       rcases List.mem_or_eq_of_mem_set (List.mem_of_getElem? e1)with he'|he'
       ·rw[(q1 e' he').1]at this;exact this
       ·subst he';omega
      by_cases hii:i'=i
      ·subst hii
       rw[List.getElem?_set_self hlt]at e1
       cases e1
       rw[if_neg qO,if_pos qO]at e3
       have:i'*Wd+j-i'*Wd=j:=qO
       rw[this]at e3
       exact c2 j c v e2 (by simpa using e3)
      ·rw[List.getElem?_set_ne qO]at e1
       have:i'*Wd+j<i*Wd\/i*Wd+Wd<=i'*Wd+j:=by
        rcases Nat.lt_or_gt_of_ne hii with hlt|hgt
        ·left
         have:(i'+1)*Wd<=i*Wd:=Nat.mul_le_mul_right _ qO
         rw[Nat.add_mul]at this;omega
        ·right
         have:(i+1)*Wd<=i'*Wd:=Nat.mul_le_mul_right _ qO
         rw[Nat.add_mul]at this;omega
       rcases this with hlt|hge
       ·rw[if_pos hlt]at e3;exact g4 i' e' j c v e1 e2 (by simpa using e3)
       ·rw[if_neg qO,if_neg qO]at e3;exact g4 i' e' j c v e1 e2 (by simpa using e3)
  ·rename_i T cs ti hi
   obtain⟨hb1,hk2⟩:((Nat.beq Wd 1&&(Nat.beq ti.size 1&& !ti.d.agg))=true)/\At Γ t vy fun c=>cm i cs.length (rR (cs.set i c) fun cs'=>K .undef [(hd,.rows T cs')]):=by
    cases hc:(Nat.beq Wd 1&&(Nat.beq ti.size 1&& !ti.d.agg))with
    |false=>rw[hc]at hk;exact hk.elim
    |true=>rw[hc]at hk;exact⟨rfl,hk⟩
   simp only[Bool.and_eq_true]at hb1
   have hW1:=Nat.eq_of_beq_eq_true hb1.1
   have hW3:=Nat.eq_of_beq_eq_true hb1.2.1
   subst hW1
   clear hk
   obtain⟨c,hk,hone,hc,hcm⟩:=s7 hk2
   cases hk with|mk hlt hk=>
   cases hk with|mk cs' hcs hk=>
   subst hcs
   obtain⟨q1,q2,q3⟩:=hb
   cases hx with| @dO _ _ _ _ b hb'=>
   obtain⟨arr,g1,g2,g3,g4⟩:∃arr,(β hd).1=some b/\w.heap[b]?=some (.cells arr T (0,0))/\arr.size=(β hd).2/\∀(i:Nat) c v,cs[i]?=some c->arr[i]?=some v->VR w (aM E.bW F) β c v:=by
    rcases q3 with q3|⟨b',arr,g1,g2,g3,g4⟩
    ·rw[q3.1]at hb';cases hb'
    ·rw[g1]at hb';cases hb';exact⟨arr,g1,g2,g3,g4⟩
   exact tc hΓ h hi hW3 (hlv trivial) g1 g2 g3 q1 q2 g4 (hc _ _ _ _ hy) hone hlt (fun k hk=>hmy k (hcm k hk)) hmb hk
  ·exact hk.elim
 ·exact hk.elim
end
end
section
section
variable {P:Program} {Γ:oy} {E:Env} {n:Nat} {s:Nat->AV} {L:Hd->aA} {a:Act} {w:World} {F:Nat->Prop} {β:Hd->Option Nat×Nat} {K:AV->List (Hd×aA)->Prop}
 {W:Operand->(AV->Prop)->Prop} {LK:Hd->(aA->Prop)->Prop} {wr:FuncId->Bool} {base:Nat}
theorem xv (off:Nat):∀(vs:List Value) (k:Nat) (cells:Array Value),off+k+vs.length<=cells.size->
  ((vs.zipIdx k).foldl (fun cs x=>cs.setIfInBounds (off+x.2) x.1) cells).toList=cells.toList.take (off+k)++vs++cells.toList.drop (off+k+vs.length):=by
 intro vs
 induction vs with
 |nil=>intro k cells _;simp
 |cons v vs ih=>
  intro k cells h
  simp only[List.length_cons]at h
  simp only[List.zipIdx_cons,List.foldl_cons]
  rw[ih (k+1) _ (by simp;omega)]
  simp only[Array.toList_setIfInBounds]
  have hk:off+k<cells.toList.length:=by simp;omega
  rw[show off+(k+1)=off+k+1 by omega,List.take_succ_eq_append_getElem (by simpa using hk),List.getElem_set_self,List.take_set_of_le (Nat.le_refl _),List.drop_set_of_lt qO]
  simp only[List.append_assoc,List.singleton_append,List.length_cons]
  congr 3
  omega
theorem uf (place:Nat->Option (Nat×Nat)) (cells:Array Value) (i:Nat) (v:Value) (rest:List (Nat×Value)) (off:Nat) (hp:place i=some (off,v.cells.size)) (hl:off+v.cells.size<=cells.size):
  Instr.fill place cells ((i,v)::rest)=Instr.fill place (cells.toList.take off++v.cells.toList++cells.toList.drop (off+v.cells.size)).toArray rest:=by
 have hf:=xv off v.cells.toList 0 cells (by simpa using hl)
 simp only[Nat.add_zero,Array.length_toList]at hf
 have e:v.cells.zipIdx.foldl (fun cs (x:Value×Nat)=>cs.setIfInBounds (off+x.2) x.1) cells=(cells.toList.take off++v.cells.toList++cells.toList.drop (off+v.cells.size)).toArray:=by
  apply Array.ext'
  rw[<-hf,<-Array.foldl_toList]
  simp[Array.toList_zipIdx]
 simp only[Instr.fill,hp]
 rw[if_neg (by simp;omega)]
 exact congrArg (fun c=>Instr.fill place c rest) e
theorem Ka (hΓ:gW P Γ) (hW:∀x K,W x K->K (cL s x)) (h:cC E n s L a w F β) (place:Nat->Option (Nat×TypeId)) (place':Nat->Option (Nat×Nat))
  (hp:∀i off t ti,place i=some (off,t)->Γ t=some ti->place' i=some (off,ti.size)):∀(parts:List (Nat×Operand)) (cs:List AV) (K':List AV->Prop) (cells:Array Value),gK Γ W place parts cs K'->
  cells.size=cs.length->(∀c∈cs,c.one=true)->(∀(i:Nat) c v,cs[i]?=some c->cells[i]?=some v->VR w (aM E.bW F) β c v)->(∀k,AV.bm cs k->L k≠ .free)->
  ∃cells' cs',Instr.fill place' cells (parts.map fun x=>(x.1,a.eval x.2))=some cells'/\K' cs'/\cells'.size=cs'.length/\(∀c∈cs',c.one=true)/\
   (∀(i:Nat) c v,cs'[i]?=some c->cells'[i]?=some v->VR w (aM E.bW F) β c v)/\(∀k,AV.bm cs' k->L k≠ .free):=by
 intro parts
 induction parts with
 |nil=>intro cs K' cells hk h1 h2 h3 h4;exact⟨cells,cs,rfl,hk,h1,h2,h3,h4⟩
 |cons x parts ih=>
  obtain⟨i,x⟩:=x
  intro cs K' cells hk h1 h2 h3 h4
  simp only[gK]at hk
  split at hk
  ·rename_i off t hpl
   have hk:=hW x _ hk
   obtain⟨vs,hk,hc,hm⟩:=kU hk
   obtain⟨c1,c0,c2⟩:=hc _ _ _ _ (h.ev x)
   split at hk
   ·rename_i ti hti
    cases hsz:Nat.beq vs.length ti.size with
    |false=>rw[hsz]at hk;exact hk.elim
    |true=>
     rw[hsz]at hk
     have hsz:=Nat.eq_of_beq_eq_true hsz
     obtain⟨hlen,hk⟩:=td (K:=fun cs'=>gK Γ W place parts cs' K') hk
     have hone:=uf place' cells i (a.eval x) (parts.map fun x=>(x.1,a.eval x.2)) off (by rw[hp i off t ti hpl hti,c1,hsz]) (by rw[c1,h1];exact hlen)
     rw[List.map_cons,hone]
     refine ih _ K' _ hk (by simp[c1,h1];try omega) (fun c hc=>?_) (fun j c v e1 e2=>?_) (fun k hk=>?_)
     ·simp only[List.mem_append]at hc
      rcases hc with(hc|hc)|hc
      ·exact h2 c (List.mem_of_mem_take hc)
      ·exact c0 c hc
      ·exact h2 c (List.mem_of_mem_drop hc)
     ·rw[dW _ _ _ _ hlen]at e1
      simp only[List.getElem?_toArray]at e2
      have e:=dW cells.toList (a.eval x).cells.toList off j (by simp[c1,h1];omega)
      simp only[Array.length_toList,c1]at e
      rw[c1,e]at e2
      split at e1
      ·rename_i hj;rw[if_pos hj]at e2;exact h3 j c v e1 (by simpa using e2)
      ·rename_i hj
       rw[if_neg hj]at e2
       split at e1
       ·rename_i hj';rw[if_pos hj']at e2;exact c2 (j-off) c v e1 (by simpa using e2)
       ·rename_i hj';rw[if_neg hj']at e2;exact h3 j c v e1 (by simpa using e2)
     ·have key:∀l:List AV,AV.bm l k->∃c,c∈l/\c.aT k:=by
       intro l
       induction l with
       |nil=>intro h;simp only[AV.bm]at h
       |cons c l ih=>
        intro h
        simp only[AV.bm]at h
        rcases h with h|h
        ·exact⟨c,qS,h⟩
        ·obtain⟨c',h1,h2⟩:=ih h;exact⟨c',by simp[h1],h2⟩
      obtain⟨c,hc,hcm⟩:=key _ hk
      simp only[List.mem_append]at hc
      rcases hc with(hc|hc)|hc
      ·exact h4 k (AV.bj (List.mem_of_mem_take hc) hcm)
      ·exact h.AN x k (hm k (AV.bj hc hcm))
      ·exact h4 k (AV.bj (List.mem_of_mem_drop hc) hcm)
   ·exact hk.elim
  ·exact hk.elim
theorem Eu (hΓ:gW P Γ) (hW:∀x K,W x K->K (cL s x)) (h:cC E n s L a w F β) {t:TypeId} {parts:Array (Nat×Operand)} (hk:aR Γ P wr W LK L base (.build t parts) K):
  Out P E n s L a K ((Instr.build t (parts.map fun(i,x)=>(i,a.eval x))).run P w):=by
 simp only[aR]at hk
 have hp:(parts.map fun(i,x)=>(i,a.eval x)).toList=parts.toList.map fun x=>(x.1,a.eval x.2):=qS
 have go:∀(i:TI) (place:Nat->Option (Nat×TypeId)) (place':Nat->Option (Nat×Nat)) (z:Value),Γ t=some i->z.cells.size=i.size->i.zero.length=i.size->
   (∀w FB (j:Nat) c v,i.zero[j]?=some c->z.cells[j]?=some v->PR w FB c v)->
   (∀i off t ti,place i=some (off,t)->Γ t=some ti->place' i=some (off,ti.size))->
   (uk i.zero fun zs=>gK Γ W place parts.toList zs fun cs=>wb cs fun v=>K v [])->
   (∀cells,Instr.fill place' z.cells (parts.toList.map fun x=>(x.1,a.eval x.2))=some cells->P.built t ((parts.map fun(i,x)=>(i,a.eval x)).toList)=some cells)->
   Out P E n s L a K ((Instr.build t (parts.map fun(i,x)=>(i,a.eval x))).run P w):=by
  intro i place place' z hi z1 z2 z3 hpl hk hb
  have hk:=ud hk
  obtain⟨cells,cs,hf,hk,c1,c2,c3,c4⟩:=Ka hΓ hW h place place' hpl parts.toList _ _ z.cells hk (by rw[z1];simp[z2])
   (fun c hc=>by obtain⟨p,hp,rfl⟩:=List.mem_map.1 hc;exact(hΓ t i hi).plain p hp)
   (fun j c v e1 e2=>by
    rw[List.getElem?_map]at e1
    cases e:i.zero[j]? with
    |none=>rw[e]at e1;cases e1
    |some p=>rw[e]at e1;cases e1;exact .p (z3 w _ j p v e e2)) (fun k hk=>(nS _ k hk).elim)
  rw[run_build w t _ cells (hb cells hf)]
  obtain⟨r,hk,hr,hrm⟩:=tK hk
  exact .same h hk (hr _ _ _ _ c2 c1 c3) fun k hk=>c4 k (hrm k hk)
 split at hk
 ·rename_i fs sz by_ zero eq hi
  obtain⟨info,z,h1,h2,h3,h4,h5,h6,h7⟩:=(hΓ t _ hi).info
  obtain⟨fields,hu,hfs⟩:=(hΓ t _ hi).desc
  cases hall:(fs.all fun f=>(Γ f.2).isSome)with
  |false=>rw[hall]at hk;exact hk.elim
  |true=>
   rw[hall]at hk
   rw[List.all_eq_true]at hall
   have hplaces:∀(l:List Field),(∀f∈l,(Γ f.type).isSome=true)->∃places,l.mapM (fun f=>(P.info? f.type).map fun i=>(f.offset,i.size))=some places/\
     ∀(i:Nat) off ft ti,(l.map fun f=>(f.offset,f.type))[i]?=some (off,ft)->Γ ft=some ti->places[i]?=some (off,ti.size):=by
    intro l
    induction l with
    |nil=>intro _;exact⟨[],qS,qS⟩
    |cons f l ih=>
     intro hf
     obtain⟨places,hm,hpl⟩:=ih fun g hg=>hf g (by simp[hg])
     obtain⟨ti,hti⟩:=Option.isSome_iff_exists.1 (hf f qS)
     obtain⟨inf,zz,g1,g2,_⟩:=(hΓ f.type ti hti).info
     refine⟨(f.offset,inf.size)::places,by simp[List.mapM_cons,g1,hm],fun i off ft ti' e1 e2=>?_⟩
     cases i with
     |zero=>simp at e1;obtain⟨rfl,rfl⟩:=e1;rw[hti]at e2;cases e2;simp[g2]
     |succ i=>simpa using hpl i off ft ti' (by simpa using e1) e2
   obtain⟨places,hm,hpl⟩:=hplaces fields.toList (fun f hf=>by
    have:=hall (f.offset,f.type) (by rw[<-hfs];exact List.mem_map.2 ⟨f,hf,rfl⟩)
    exact this)
   refine go _ (fun i=>fs[i]?) (fun i=>places.toArray[i]?) z hi h5 h6 h7 (fun i off ft ti e1 e2=>?_) hk fun cells hf=>?_
   ·rw[<-hfs]at e1
    simpa using hpl i off ft ti e1 e2
   ·simp only[Program.built,h1,hu,h4,hm,hp];exact hf
 ·rename_i m e sz by_ zero eq hi
  obtain⟨info,z,h1,h2,h3,h4,h5,h6,h7⟩:=(hΓ t _ hi).info
  have hu:P.underlying t=some (.array m e):=(hΓ t _ hi).desc
  split at hk
  ·rename_i i hie
   obtain⟨info',z',g1,g2,_⟩:=(hΓ e i hie).info
   refine go _ (fun j=>some (j*i.size,e)) (fun j=>some (j*i.size,i.size)) z hi h5 h6 h7 (fun j off ft ti e1 e2=>?_) hk fun cells hf=>?_
   ·cases e1;rw[hie]at e2;cases e2;rfl
   ·simp only[Program.built,h1,hu,h4,g1,g2,hp];exact hf
  ·exact hk.elim
 ·exact hk.elim
theorem GR (hΓ:gW P Γ) (hW:∀x K,W x K->K (cL s x)) (h:cC E n s L a w F β) (e:TypeId) (size N:Nat):∀(parts:List (Nat×Operand)) (k:Nat) (K':List PV->Prop) (cells:Array Value),
  ga Γ W e size k parts K'->cells.size=N->(k+parts.length)*size<=N->
  ∃cells' es,Instr.fill (fun i=>some (i*size,size)) cells (parts.map fun x=>(x.1,a.eval x.2))=some cells'/\K' es/\es.length=parts.length/\cells'.size=N/\(∀e∈es,e.cells.length=size/\∀c∈e.cells,c.one=true)/\
   (∀j,j<k*size->cells'[j]?=cells[j]?)/\(∀(i:Nat) e (j:Nat) c v,es[i]?=some e->e.cells[j]?=some c->cells'[(k+i)*size+j]?=some v->PR w (aM E.bW F) c v):=by
 intro parts
 induction parts with
 |nil=>intro k K' cells hk h1 h2;exact⟨cells,[],rfl,hk,rfl,h1,qS,fun _ _=>rfl,qS⟩
 |cons x parts ih=>
  obtain⟨i,x⟩:=x
  intro k K' cells hk h1 h2
  simp only[ga]at hk
  cases hi:Nat.beq i k with
  |false=>rw[hi]at hk;exact hk.elim
  |true=>
   rw[hi]at hk
   have hi:=Nat.eq_of_beq_eq_true hi
   subst hi
   obtain⟨v',hk,hv'⟩:=j3 (hW x _ hk)
   have hp:=hv' _ _ _ _ (h.ev x)
   obtain⟨c1,c0,c2⟩:=hp.cells
   cases hsz:Nat.beq v'.cells.length size with
   |false=>rw[hsz]at hk;exact hk.elim
   |true=>
    rw[hsz]at hk
    have hsz:=Nat.eq_of_beq_eq_true hsz
    simp only[cond_true]at hk
    have hroom:i*size+size<=N:=by
     have:(i+1)*size<=(i+(parts.length+1))*size:=Nat.mul_le_mul_right _ qO
     rw[Nat.add_mul i 1,Nat.one_mul]at this
     simp only[List.length_cons]at h2
     omega
    have hone:=uf (fun i=>some (i*size,size)) cells i (a.eval x) (parts.map fun x=>(x.1,a.eval x.2)) (i*size) (by rw[c1,hsz]) (by rw[c1,hsz,h1];exact hroom)
    rw[List.map_cons,hone]
    have hsz':(cells.toList.take (i*size)++(a.eval x).cells.toList++cells.toList.drop (i*size+(a.eval x).cells.size)).toArray.size=N:=by simp[c1,hsz,h1];omega
    obtain⟨cells',es,hf,hk,g1,g2,g3,g4,g5⟩:=ih (i+1) (fun l=>K' (v'::l)) _ hk hsz' (by rw[show i+1+parts.length=i+(parts.length+1) by omega];exact h2)
    have eg:∀j,(cells.toList.take (i*size)++(a.eval x).cells.toList++cells.toList.drop (i*size+(a.eval x).cells.size)).toArray[j]?=if j<i*size then cells.toList[j]? else if j<i*size+size then(a.eval x).cells.toList[j-i*size]? else cells.toList[j]?:=by
     intro j
     have:=dW cells.toList (a.eval x).cells.toList (i*size) j (by simp[c1,hsz,h1];exact hroom)
     simp only[Array.length_toList,c1,hsz]at this
     rw[List.getElem?_toArray,c1,hsz,this]
    refine⟨cells',v'::es,hf,hk,by simp[g1],g2,fun e' he'=>?_,fun j hj=>?_,fun i' e' j c v e1 e2 e3=>?_⟩
    ·rcases List.mem_cons.1 he' with rfl|he'
     ·exact⟨hsz,c0⟩
     ·exact g3 e' he'
    ·rw[g4 j (by rw[Nat.add_mul];omega),eg,if_pos hj];simp
    ·cases i' with
     |zero=>
      simp at e1;subst e1
      have hj:j<size:=by rw[<-hsz];exact(List.getElem?_eq_some_iff.1 e2).1
      rw[Nat.add_zero,g4 _ (by rw[Nat.add_mul];omega),eg,if_neg qO,if_pos qO]at e3
      have:i*size+j-i*size=j:=qO
      rw[this]at e3
      exact c2 j c v e2 (by simpa using e3)
     |succ i'=>exact g5 i' e' j c v (by simpa using e1) e2 (by rw[show i+1+i'=i+(i'+1) by omega];exact e3)
theorem Li (hW:∀x K,W x K->K (cL s x)) (h:cC E n s L a w F β) (e:TypeId) (N:Nat):∀(parts:List (Nat×Operand)) (k:Nat) (K':List AV->Prop) (cells:Array Value),
  jP Γ W e k parts K'->cells.size=N->k+parts.length<=N->
  ∃cells' cs,Instr.fill (fun i=>some (i*1,1)) cells (parts.map fun x=>(x.1,a.eval x.2))=some cells'/\K' cs/\cs.length=parts.length/\cells'.size=N/\(∀c∈cs,c.one=true)/\(∀k,AV.bm cs k->L k≠ .free)/\
   (∀j,j<k->cells'[j]?=cells[j]?)/\(∀(i:Nat) c v,cs[i]?=some c->cells'[k+i]?=some v->VR w (aM E.bW F) β c v):=by
 intro parts
 induction parts with
 |nil=>intro k K' cells hk h1 h2;exact⟨cells,[],rfl,hk,rfl,h1,qS,fun k hk=>by simp only[AV.bm]at hk,fun _ _=>rfl,qS⟩
 |cons x parts ih=>
  obtain⟨i,x⟩:=x
  intro k K' cells hk h1 h2
  simp only[jP]at hk
  cases hi:Nat.beq i k with
  |false=>rw[hi]at hk;exact hk.elim
  |true=>
   rw[hi]at hk
   have hi:=Nat.eq_of_beq_eq_true hi
   subst hi
   obtain⟨c,hk,ho,hv,hm⟩:=s7 (hW x _ hk)
   have hp:=hv _ _ _ _ (h.ev x)
   have hcl:=iv (hp.gG ho)
   simp only[List.length_cons]at h2
   have hone:=uf (fun i=>some (i*1,1)) cells i (a.eval x) (parts.map fun x=>(x.1,a.eval x.2)) (i*1) (by rw[hcl];rfl) (by rw[hcl,h1];simp;omega)
   rw[List.map_cons,hone]
   have hsz':(cells.toList.take (i*1)++(a.eval x).cells.toList++cells.toList.drop (i*1+(a.eval x).cells.size)).toArray.size=N:=by rw[hcl];simp[h1];omega
   obtain⟨cells',cs,hf,hk,g1,g2,g3,gm,g4,g5⟩:=ih (i+1) (fun l=>K' (c::l)) _ hk hsz' qO
   have eg:∀j,(cells.toList.take (i*1)++(a.eval x).cells.toList++cells.toList.drop (i*1+(a.eval x).cells.size)).toArray[j]?=if j<i*1 then cells.toList[j]? else if j<i*1+1 then(a.eval x).cells.toList[j-i*1]? else cells.toList[j]?:=by
    intro j
    have:=dW cells.toList (a.eval x).cells.toList (i*1) j (by rw[hcl];simp[h1];omega)
    simp only[Array.length_toList]at this
    rw[List.getElem?_toArray,this,hcl]
    rfl
   refine⟨cells',c::cs,hf,hk,by simp[g1],g2,fun e' he'=>?_,fun k hk=>?_,fun j hj=>?_,fun i' c' v e1 e3=>?_⟩
   ·rcases List.mem_cons.1 he' with rfl|he'
    ·exact ho
    ·exact g3 e' he'
   ·simp only[AV.bm]at hk
    exact hk.elim (fun hk=>h.AN x k (hm k hk)) (gm k)
   ·rw[g4 j qO,eg,if_pos qO];simp
   ·cases i' with
    |zero=>
     simp at e1;subst e1
     rw[Nat.add_zero,g4 _ qO,eg,if_neg qO,if_pos qO,hcl]at e3
     simp at e3
     rw[<-e3];exact hp
    |succ i'=>exact g5 i' c' v (by simpa using e1) (by rw[show i+1+i'=i+(i'+1) by omega];exact e3)
theorem Bu (hW:∀x K,W x K->K (cL s x)):∀(xs:List Operand) (J:List AV->Prop),gg W xs J->∃vs,J vs:=by
 intro xs
 induction xs with
 |nil=>exact fun J h=>⟨_,h⟩
 |cons x xs ih=>exact fun J h=>(ih _ (hW x _ h)).elim fun vs h=>⟨_,h⟩
theorem tz (hΓ:gW P Γ) (hW:∀x K,W x K->K (cL s x)) (h:cC E n s L a w F β) (hf:∀v ups,K v ups->∀x∈ups,base<=x.1.key->fZ L x.1.key) {t:TypeId} {m:Nat} {parts:Array (Nat×Operand)}
  (hk:aR Γ P wr W LK L base (.buildSlice t m parts) K):Out P E n s L a K ((Instr.buildSlice t m (parts.map fun(i,x)=>(i,a.eval x))).run P w):=by
 simp only[aR]at hk
 split at hk
 ·rename_i e _ _ _ _ hi
  have hu:P.underlying t=some (.slice e):=(hΓ t _ hi).desc
  split at hk
  ·rename_i i hie
   have hsz:=dG hΓ hie
   obtain⟨z,hz,z1,z2,z3⟩:=oT hΓ hie
   have hk':(m=0/\parts.toList=[]/\K .emp [])\/(ga Γ W e i.size 0 parts.toList fun es=>cond (Nat.beq es.length m&&(Nat.ble (m*i.size) 1000&&Nat.ble 1 (m*i.size))) (K (.vec base i.size 0 m) [(base,.vec e i.size es)]) False)\/
     (i.size=1/\jP Γ W e 0 parts.toList fun cs=>cond (Nat.beq cs.length m&&(Nat.ble m 1000&&Nat.ble 1 m)) (K (.vec base 1 0 m) [(base,.rows e cs)]) False):=by
    split at hk
    ·exact .inl ⟨rfl,by assumption,hk⟩
    ·split at hk
     ·rename_i hrow
      have h1:i.size=1:=by
       unfold TI.wA at hrow
       split at hrow
       ·exact Nat.eq_of_beq_eq_true hrow
       ·cases hrow
      obtain⟨vs,hk⟩:=Bu hW _ _ hk
      split at hk
      ·exact .inr (.inr ⟨h1,hk⟩)
      ·exact .inr (.inl hk)
     ·exact .inr (.inl hk)
   rcases hk' with⟨hm,hp,hk⟩|hk|⟨h1,hk⟩
   ·
    have hp:parts= #[]:=by cases parts;simpa using hp
    subst hp
    subst hm
    have hr:(Instr.buildSlice t 0 (#[].map fun(i,x)=>(i,a.eval x))).run P w= .ok (.slice (some ⟨w.heap.size,0,none⟩) 0 0) (w.alloc (.cells #[] e)):=by
     have e0:(Array.map (fun x=>(default:Value)) (Array.range 0))= #[]:=Array.map_empty
     simp[Instr.buildSlice,run_underlying hu,hsz,Instr.fill,newRow]
     exact congrArg (fun c=>w.alloc (Obj.cells c e)) e0
    rw[hr]
    exact⟨.emp,[],F,β,hk,h.push (.cells #[] e) rfl rfl rfl rfl,.emp _,fun k hk=>by simp only[AV.aT]at hk⟩
   ·have key:∀es:List PV,(bif Nat.beq es.length m&&(Nat.ble (m*i.size) 1000&&Nat.ble 1 (m*i.size))then K (.vec base i.size 0 m) [(base,.vec e i.size es)]else False)->es.length=m/\(m*i.size<=1000/\1<=m*i.size)/\K (.vec base i.size 0 m) [(base,.vec e i.size es)]:=by
     intro es hk
     cases hb:Nat.beq es.length m&&(Nat.ble (m*i.size) 1000&&Nat.ble 1 (m*i.size))with
     |false=>rw[hb]at hk;exact hk.elim
     |true=>
      rw[hb]at hk
      simp only[Bool.and_eq_true]at hb
      exact⟨Nat.eq_of_beq_eq_true hb.1,⟨Nat.le_of_ble_eq_true hb.2.1,Nat.le_of_ble_eq_true hb.2.2⟩,hk⟩
    have hes:∃cells' es,Instr.fill (fun j=>some (j*i.size,i.size)) ((Array.range (m*i.size)).map fun x=>z.cells[x%z.cells.size]!) (parts.toList.map fun x=>(x.1,a.eval x.2))=some cells'/\
      (es.length=m/\(m*i.size<=1000/\1<=m*i.size)/\K (.vec base i.size 0 m) [(base,.vec e i.size es)])/\cells'.size=m*i.size/\(∀e∈es,e.cells.length=i.size/\∀c∈e.cells,c.one=true)/\
      (∀(j:Nat) e (o:Nat) c v,es[j]?=some e->e.cells[o]?=some c->cells'[j*i.size+o]?=some v->PR w (aM E.bW F) c v):=by
     by_cases hlen:parts.toList.length=m
     ·obtain⟨cells',es,hf,hk,g1,g2,g3,g4,g5⟩:=GR hΓ hW h e i.size (m*i.size) parts.toList 0 _ ((Array.range (m*i.size)).map fun x=>z.cells[x%z.cells.size]!) hk qS (by rw[Nat.zero_add,hlen];exact Nat.le_refl _)
      exact⟨cells',es,hf,key es hk,g2,g3,fun j e o c v e1 e2 e3=>g5 j e o c v e1 e2 (by rw[Nat.zero_add];exact e3)⟩
     ·
      have:∀(ps:List (Nat×Operand)) (k:Nat) (J:List PV->Prop),ga Γ W e i.size k ps J->∃es,J es/\es.length=ps.length:=by
       intro ps
       induction ps with
       |nil=>intro k J hj;exact⟨[],hj,rfl⟩
       |cons x ps ih=>
        obtain⟨q,x⟩:=x
        intro k J hj
        simp only[ga]at hj
        cases hq:Nat.beq q k with
        |false=>rw[hq]at hj;exact hj.elim
        |true=>
         rw[hq]at hj
         obtain⟨v',hj,_⟩:=j3 (hW x _ hj)
         cases hs:Nat.beq v'.cells.length i.size with
         |false=>rw[hs]at hj;exact hj.elim
         |true=>
          rw[hs]at hj
          obtain⟨es,h1,h2⟩:=ih _ _ hj
          exact⟨_,h1,by simp[h2]⟩
      obtain⟨es,h1,h2⟩:=this _ _ _ hk
      exact(hlen (h2▸(key es h1).1)).elim
    obtain⟨cells',es,hfl,⟨hl,hle,hk⟩,g2,g3,g5⟩:=hes
    have hm1:¬(m*i.size>2^24):=qO
    have hr:(Instr.buildSlice t m (parts.map fun(i,x)=>(i,a.eval x))).run P w= .ok (.slice (some ⟨w.heap.size,0,none⟩) m m) (w.alloc (.cells cells' e)):=by
     have h0:¬m*i.size=0:=qO
     ·simp[Instr.buildSlice,run_underlying hu,hsz,h0,hz,newRow]
      rw[if_neg qO]
      simp[hfl]
    rw[hr]
    have hfree:L base= .free:=(hf _ _ hk (base,.vec e i.size es) qS (Nat.le_refl _)).1
    refine .new h cells' e (.vec e i.size es) base m hk hfree ⟨g3,by rw[ah];omega,.inr ⟨w.heap.size,cells',by rw[ah],fp w _,by rw[ah];exact g2,fun j e' o c v e1 e2 e3=>h.iG _ (g5 j e' o c v e1 e2 e3)⟩⟩ trivial (fun j hj=>hj.elim) ?_ (fun k hk=>.inl hk.symm)
    have:=VR.vec (w:=w.alloc (.cells cells' e)) (FB:=aM E.bW F) (β:=a8 β base (some w.heap.size,m)) (h:=base) (W:=i.size) (off:=0) (len:=m) (b:=w.heap.size) (o:=0) (c:=m) (by rw[ah]) (Nat.le_refl _) (by rw[ah];omega) (fun _=>qS)
    exact this
   ·
    have hlen:∀(ps:List (Nat×Operand)) (k:Nat) (J:List AV->Prop),jP Γ W e k ps J->∃cs,J cs/\cs.length=ps.length:=by
     intro ps
     induction ps with
     |nil=>intro k J hj;exact⟨[],hj,rfl⟩
     |cons x ps ih=>
      obtain⟨q,x⟩:=x
      intro k J hj
      simp only[jP]at hj
      cases hq:Nat.beq q k with
      |false=>rw[hq]at hj;exact hj.elim
      |true=>
       rw[hq]at hj
       obtain⟨c,hj,_⟩:=s7 (hW x _ hj)
       obtain⟨cs,h1,h2⟩:=ih _ _ hj
       exact⟨_,h1,by simp[h2]⟩
    have key:∀cs:List AV,(bif Nat.beq cs.length m&&(Nat.ble m 1000&&Nat.ble 1 m)then K (.vec base 1 0 m) [(base,.rows e cs)]else False)->cs.length=m/\(m<=1000/\1<=m)/\K (.vec base 1 0 m) [(base,.rows e cs)]:=by
     intro cs hk
     cases hb:Nat.beq cs.length m&&(Nat.ble m 1000&&Nat.ble 1 m)with
     |false=>rw[hb]at hk;exact hk.elim
     |true=>
      rw[hb]at hk
      simp only[Bool.and_eq_true]at hb
      exact⟨Nat.eq_of_beq_eq_true hb.1,⟨Nat.le_of_ble_eq_true hb.2.1,Nat.le_of_ble_eq_true hb.2.2⟩,hk⟩
    have hpl:parts.toList.length=m:=by
     obtain⟨cs,h1,h2⟩:=hlen _ _ _ hk
     exact h2▸(key cs h1).1
    obtain⟨cells',cs,hfl,hk,g1,g2,g3,gm,_,g5⟩:=Li hW h e m parts.toList 0 _ ((Array.range (m*i.size)).map fun x=>z.cells[x%z.cells.size]!) hk (by simp[h1]) qO
    obtain⟨hl,hle,hk⟩:=key cs hk
    have hr:(Instr.buildSlice t m (parts.map fun(i,x)=>(i,a.eval x))).run P w= .ok (.slice (some ⟨w.heap.size,0,none⟩) m m) (w.alloc (.cells cells' e)):=by
     have h0:¬m=0:=qO
     rw[h1]at hfl
     ·simp[Instr.buildSlice,run_underlying hu,hsz,h1,h0,hz,newRow]
      rw[if_neg qO]
      simp at hfl
      simp[hfl]
    rw[hr]
    have hfree:L base= .free:=(hf _ _ hk (base,.rows e cs) qS (Nat.le_refl _)).1
    refine .new h cells' e (.rows e cs) base m hk hfree ⟨g3,by rw[ah];omega,.inr ⟨w.heap.size,cells',by rw[ah],fp w _,by rw[ah];exact g2,fun j c v e1 e2=>h.pI _ hfree _ (g5 j c v e1 (by rw[Nat.zero_add];exact e2)) fun k hk=>gm k (AV.bj (List.mem_of_getElem? e1) hk)⟩⟩ trivial (fun j hj=>gm j hj) ?_ (fun k hk=>.inl hk.symm)
    have:=VR.vec (w:=w.alloc (.cells cells' e)) (FB:=aM E.bW F) (β:=a8 β base (some w.heap.size,m)) (h:=base) (W:=1) (off:=0) (len:=m) (b:=w.heap.size) (o:=0) (c:=m) (by rw[ah]) (Nat.le_refl _) (by rw[ah];omega) (fun _=>qS)
    exact this
  ·exact hk.elim
 ·exact hk.elim
end
end
section
section
variable {P:Program} {Γ:oy} {E:Env} {n:Nat} {s:Nat->AV} {L:Hd->aA} {a:Act} {w:World} {F:Nat->Prop} {β:Hd->Option Nat×Nat} {K:AV->List (Hd×aA)->Prop}
 {W:Operand->(AV->Prop)->Prop} {LK:Hd->(aA->Prop)->Prop} {wr:FuncId->Bool} {base:Nat}
theorem eX (h:cC E n s L a w F β) {k:IntKind} {e:Int} (hk:ai k e fun z=>K (.p (.int k z)) []):Out P E n s L a K (.ok (.int k (k.wrap e)) w):=by
 cases hk with|mk z hz hk=>rw[hz];exact .int h hk
theorem ES (h:cC E n s L a w F β) {t:TypeId} {op:BinOp} {k:IntKind} {x y:Int} (hk:DT op k x y K):
  Out P E n s L a K ((binOp op t (.int k x) (.int k y)).run P w):=by
 cases op<;>simp only[DT]at hk
 case add=>simpa[binOp,Op.intArith]using eX h hk
 case sub=>simpa[binOp,Op.intArith]using eX h hk
 case mul=>simpa[binOp,Op.intArith]using eX h hk
 case quo=>cases hk with|mk h0 hk=>simpa[binOp,Op.intDiv,h0]using eX h hk
 case rem=>cases hk with|mk h0 hk=>cases hk with|mk z hz hk=>simpa[binOp,Op.intDiv,h0,hz]using Out.int h hk
 case and=>simpa[binOp,Op.intBits]using eX h hk
 case or=>simpa[binOp,Op.intBits]using eX h hk
 case xor=>simpa[binOp,Op.intBits]using eX h hk
 case andNot=>simpa[binOp,Op.intBits]using eX h hk
 all_goals (simp only[binOp,ne_eq,not_true_eq_false,if_false,Op.intCmp];exact Out.bool h hk)
theorem A3 {w FB}:∀{xs ys:List PV} {K':Bool->Prop} {va vb:List Value},fK xs ys K'->va.length=xs.length->vb.length=ys.length->
  (∀(i:Nat) c v,xs[i]?=some c->va[i]?=some v->PR w FB c v)->(∀(i:Nat) c v,ys[i]?=some c->vb[i]?=some v->PR w FB c v)->∃r,K' r/\I3 va vb r:=by
 intro xs
 induction xs with
 |nil=>
  intro ys K' va vb hk h1 h2 _ _
  cases ys with
  |nil=>
   have e1:va=[]:=List.length_eq_zero_iff.1 (by simpa using h1)
   have e2:vb=[]:=List.length_eq_zero_iff.1 (by simpa using h2)
   subst e1;subst e2
   exact⟨true,hk,.nil⟩
  |cons y ys=>simp only[fK]at hk
 |cons x xs ih=>
  intro ys K' va vb hk h1 h2 g1 g2
  cases ys with
  |nil=>cases x<;>simp only[fK]at hk
  |cons y ys=>
   cases va with
   |nil=>simp at h1
   |cons a va=>
    cases vb with
    |nil=>simp at h2
    |cons b vb=>
     have ha:=g1 0 x a rfl rfl
     have hb:=g2 0 y b rfl rfl
     have r1:∀(i:Nat) c v,xs[i]?=some c->va[i]?=some v->PR w FB c v:=fun i c v e1 e2=>g1 (i+1) c v (by simpa using e1) (by simpa using e2)
     have r2:∀(i:Nat) c v,ys[i]?=some c->vb[i]?=some v->PR w FB c v:=fun i c v e1 e2=>g2 (i+1) c v (by simpa using e1) (by simpa using e2)
     cases x with
     |int k p=>
      cases y with
      |int k' q=>
       simp only[fK]at hk
       split at hk
       ·subst_vars
        cases ha;cases hb
        obtain⟨r,hr,he⟩:=ih hk (by simpa using h1) (by simpa using h2) r1 r2
        exact⟨_,hr,.int he⟩
       ·exact hk.elim
      |_=>simp only[fK]at hk
     |bool p=>
      cases y with
      |bool q=>
       simp only[fK]at hk
       cases ha;cases hb
       obtain⟨r,hr,he⟩:=ih hk (by simpa using h1) (by simpa using h2) r1 r2
       exact⟨_,hr,.bool he⟩
      |_=>simp only[fK]at hk
     |_=>cases y<;>simp only[fK]at hk
theorem px {w FB}:∀{zs xs:List PV} {va:List Value},lJ zs xs=true->va.length=xs.length->(∀(i:Nat) c v,xs[i]?=some c->va[i]?=some v->PR w FB c v)->iB zs va:=by
 intro zs
 induction zs with
 |nil=>
  intro xs va h hl hr
  cases xs with
  |nil=>cases va with
   |nil=>exact .nil
   |cons=>simp at hl
  |cons x xs=>cases x<;>cases h
 |cons z zs ih=>
  intro xs va h hl hr
  cases xs with
  |nil=>cases z<;>cases h
  |cons x xs=>
   cases va with
   |nil=>simp at hl
   |cons v va=>
    have h0:=hr 0 x v rfl rfl
    have hr':∀(i:Nat) c v,xs[i]?=some c->va[i]?=some v->PR w FB c v:=fun i c v' e1 e2=>hr (i+1) c v' (by simpa using e1) (by simpa using e2)
    have hl':va.length=xs.length:=by simpa using hl
    cases z with
    |int k n=>
     cases x with
     |int k' n'=>
      simp only[lJ,Bool.and_eq_true,decide_eq_true_eq]at h
      obtain⟨rfl,h⟩:=h
      cases h0
      exact .int (ih h hl' hr')
     |_=>cases h
    |bool b=>
     cases x with
     |bool b'=>
      cases h0
      exact .bool (ih h hl' hr')
     |_=>cases h
    |_=>cases x<;>cases h
theorem EY {op:BinOp} {t:TypeId} {x y:Operand} {k k':IntKind} {a b:Int}:(eqGuard op t x y (.int k a) (.int k' b)).run P w= .ok () w:=by
 unfold eqGuard;cases op<;>simp
theorem BG {op:BinOp} {t:TypeId} {x y:Operand} {a b:Bool}:(eqGuard op t x y (.bool a) (.bool b)).run P w= .ok () w:=by
 unfold eqGuard;cases op<;>simp
theorem rr {t:TypeId} (hu:P.underlying t=some .bool) (x y:Bool) (w:World):(Op.equal t (.bool x) (.bool y)).run P w= .ok (x==y) w:=by
 have key:∀d,(Op.equalIn (d+1) t (.bool x) (.bool y)).run P w= .ok (x==y) w:=fun d=>by simp[Op.equalIn,run_underlying hu]
 exact key 9999
theorem Sem.run_seq {α β:Type} (x:Sem α) (f:α->Sem β) (P:Program) (w w':World) (v:α) (h:x.run P w= .ok v w'):(x>>=f).run P w=(f v).run P w':=by
 simp[h]
theorem Cl (h:cC E n s L a w F β) {op:BinOp} {t:TypeId} {x y:Operand} {k k':IntKind} {p q:Int} (hk:GW op k p k' q K):
  Out P E n s L a K ((do eqGuard op t x y (.int k p) (.int k' q);binOp op t (.int k p) (.int k' q):Sem Value).run P w):=by
 rw[Sem.run_seq _ _ _ _ _ _ EY]
 have other:(if k=k' then DT op k p q K else False)->Out P E n s L a K ((binOp op t (.int k p) (.int k' q)).run P w):=by
  intro hk
  split at hk
  ·subst_vars;exact ES h hk
  ·exact hk.elim
 cases op
 case shl=>obtain⟨h0,hk⟩:=hk;simpa[binOp,Op.shift,Int.not_lt.2 h0]using eX h hk
 case shr=>obtain⟨h0,⟨z,hz,hk⟩⟩:=hk;simpa[binOp,Op.shift,Int.not_lt.2 h0,hz]using Out.int h hk
 all_goals exact other hk
theorem Bk (hΓ:gW P Γ) (h:cC E n s L a w F β) {op:BinOp} {t:TypeId} {x y:Operand} {i:TI} (hi:Γ t=some i) {xs ys:List PV} {ax ay:Value} (hx:PR w (aM E.bW F) (.agg xs) ax)
  (hy:PR w (aM E.bW F) (.agg ys) ay) (hk:Cw i op xs ys K):Out P E n s L a K ((do eqGuard op t x y ax ay;binOp op t ax ay:Sem Value).run P w):=by
 cases hx with|agg _ va ho hl hr=>
 cases hy with|agg _ vb ho' hl' hr'=>
 unfold Cw at hk
 split at hk
 ·rename_i he
  cases hsz:lJ i.zero xs with
  |false=>rw[hsz]at hk;exact hk.elim
  |true=>
   rw[hsz]at hk
   have hsz:iB i.zero va.toList:=px hsz (by simpa using hl) (fun i c v e1 e2=>hr i c v e1 (by simpa using e2))
   have go:∀(K':Bool->Prop),fK xs ys K'->∃r,K' r/\I3 va.toList vb.toList r:=fun K' hk=>
    A3 hk (by simpa using hl) (by simpa using hl') (fun i c v e1 e2=>hr i c v e1 (by simpa using e2)) (fun i c v e1 e2=>hr' i c v e1 (by simpa using e2))
   obtain⟨g1,g2⟩:=(hΓ t _ hi).eqs he
   cases op<;>first|exact hk.elim|skip
   case eql=>
    obtain⟨r,hk,he⟩:=go _ hk
    have hq:=g2 w va.toList vb.toList r he hsz
    have hg:(eqGuard .eql t x y (.agg va) (.agg vb)).run P w= .ok () w:=by simp[eqGuard,g1]
    rw[Sem.run_seq _ _ _ _ _ _ hg]
    simp only[Array.toArray_toList]at hq
    simp[binOp,hq]
    exact Out.bool h hk
   case neq=>
    obtain⟨r,hk,he⟩:=go _ hk
    have hq:=g2 w va.toList vb.toList r he hsz
    have hg:(eqGuard .neq t x y (.agg va) (.agg vb)).run P w= .ok () w:=by simp[eqGuard,g1]
    rw[Sem.run_seq _ _ _ _ _ _ hg]
    simp only[Array.toArray_toList]at hq
    simp[binOp,hq]
    exact Out.bool h hk
 ·exact hk.elim
theorem ra (hΓ:gW P Γ) (h:cC E n s L a w F β) {op:BinOp} {t:TypeId} {x y:Operand} {i:TI} (hi:Γ t=some i) {p q:Bool} (hk:sB i op p q K):
  Out P E n s L a K ((do eqGuard op t x y (.bool p) (.bool q);binOp op t (.bool p) (.bool q):Sem Value).run P w):=by
 unfold sB at hk
 split at hk
 ·rename_i hd
  have hu:P.underlying t=some .bool:=by have:=(hΓ t _ hi).desc;rw[hd]at this;exact this
  rw[Sem.run_seq _ _ _ _ _ _ BG]
  cases op<;>first|exact hk.elim|skip
  ·simp[binOp,rr hu];exact Out.bool h hk
  ·simp[binOp,rr hu];exact Out.bool h hk
 ·exact hk.elim
theorem JT (hΓ:gW P Γ) (hW:∀x K,W x K->K (cL s x)) (h:cC E n s L a w F β) {op:BinOp} {t:TypeId} {x y:Operand} (hk:W x fun a=>W y fun b=>MK Γ op t a b K):
  Out P E n s L a K ((do eqGuard op t x y (a.eval x) (a.eval y);binOp op t (a.eval x) (a.eval y):Sem Value).run P w):=by
 have hx:=h.ev x
 have hy:=h.ev y
 have hk:=hW y _ (hW x _ hk)
 generalize cL s x=vx at hk hx
 generalize cL s y=vy at hk hy
 generalize a.eval x=ax at hx
 generalize a.eval y=ay at hy
 unfold MK at hk
 split at hk
 ·split at hk
  ·cases hx with|p hx=>cases hx with|int k p=>
   cases hy with|p hy=>cases hy with|int k' q=>
   exact Cl h hk
  ·exact hk.elim
 ·split at hk
  ·split at hk
   ·rename_i hi
    exact Bk hΓ h hi hx.D6 hy.D6 hk
   ·exact hk.elim
  ·exact hk.elim
 ·split at hk
  ·rename_i hi
   obtain⟨b,e,hk⟩:=hy.nV hk
   subst e
   cases hx with|p hx=>cases hx with|bool p=>
   exact ra hΓ h hi hk
  ·exact hk.elim
 ·split at hk
  ·rename_i hi
   obtain⟨b,e,hk⟩:=hy.nV hk
   subst e
   cases hx with|tf p=>
   exact ra hΓ h hi hk
  ·exact hk.elim
 ·exact hk.elim
theorem Cx (h:cC E n s L a w F β) {b:Bool} (hk:K (.tf b) []):Out P E n s L a K (.ok (.bool b) w):=.same h hk (.tf b) fun k hk=>by simp only[AV.aT]at hk
theorem sV {t e:TypeId} (hu:P.underlying t=some (.slice e)) (b:Option Addr) (l c:Nat) (w:World):(Op.equal t (.slice b l c) (.slice none 0 0)).run P w= .ok b.isNone w:=by
 have key:∀d,(Op.equalIn (d+1) t (.slice b l c) (.slice none 0 0)).run P w= .ok b.isNone w:=fun d=>by cases b<;>simp[Op.equalIn,run_underlying hu]
 exact key 9999
theorem qY {op:BinOp} {t:TypeId} {x y:Operand} {a b:Option Addr} {k l m n:Nat}:(eqGuard op t x y (.slice a k l) (.slice b m n)).run P w= .ok () w:=by
 unfold eqGuard;cases op<;>simp
theorem E9 {w FB β} {v:AV} {x:Value} (hv:VR w FB β v x):(∀m W es,v= .p (.sl m W es)->∃b c,x= .slice b es.length c/\(es.length≠0->b.isNone=false))/\(v= .emp->∃b c,x= .slice b 0 c)/\
  (∀h W o l,v= .vec h W o l->∃b c,x= .slice b l c/\(l≠0->b.isNone=false)):=by
 refine⟨fun m W es e=>?_,fun e=>?_,fun h W o l e=>?_⟩
 ·subst e
  cases hv with|p hv=>
  cases hv with
  |nil _ _ ad=>exact⟨ad,0,rfl,fun h=>absurd rfl h⟩
  |sl _ _ _ b off cap=>exact⟨some ⟨b,off,none⟩,cap,rfl,fun _=>rfl⟩
 ·subst e
  cases hv with
  |lu=>exact⟨none,0,rfl⟩
  |emp ad=>exact⟨_,0,rfl⟩
 ·subst e
  cases hv with
  |vec hb hc hm ho=>exact⟨_,_,rfl,fun _=>rfl⟩
  |jZ a hb=>exact⟨a,0,rfl,fun h=>absurd rfl h⟩
theorem Kl (hΓ:gW P Γ) (hW:∀x K,W x K->K (cL s x)) (h:cC E n s L a w F β) {op:BinOp} {t:TypeId} {x:Operand} (hk:W x fun a=>Nw Γ op t a K):
  Out P E n s L a K ((do eqGuard op t x (.const (.slice none 0 0)) (a.eval x) (.slice none 0 0);binOp op t (a.eval x) (.slice none 0 0):Sem Value).run P w):=by
 have hx:=h.ev x
 have hk:=hW x _ hk
 generalize cL s x=vx at hk hx
 generalize a.eval x=ax at hx
 obtain⟨n1,n2,n3⟩:=E9 hx
 have go:∀(b:Option Addr) (l c:Nat) (K':Bool->Prop),(l≠0->b.isNone=false)->uT l K'->K' b.isNone:=by
  intro b l c K' hb hk
  obtain⟨h1,h2⟩:=hk
  by_cases e:l=0
  ·obtain⟨g1,g2⟩:=h2 e
   cases b<;>assumption
  ·rw[hb e];exact h1 e
 have key:∀K',C4 vx K'->∃b l c,ax= .slice b l c/\K' b.isNone:=by
  intro K' hk
  unfold C4 at hk
  split at hk
  ·obtain⟨b,c,rfl,hb⟩:=n1 _ _ _ rfl;exact⟨b,_,c,rfl,go b _ c _ hb hk⟩
  ·obtain⟨b,c,rfl⟩:=n2 rfl;exact⟨b,_,c,rfl,go b _ c _ (fun h=>absurd rfl h) hk⟩
  ·obtain⟨b,c,rfl,hb⟩:=n3 _ _ _ _ rfl;exact⟨b,_,c,rfl,go b _ c _ hb hk⟩
  ·exact hk.elim
 unfold Nw at hk
 split at hk
 ·rename_i i hi
  split at hk
  ·rename_i e hd
   have hu:P.underlying t=some (.slice e):=by have:=(hΓ t _ hi).desc;rw[hd]at this;exact this
   cases op<;>first|exact hk.elim|skip
   ·obtain⟨b,l,c,rfl,hk⟩:=key _ hk
    rw[Sem.run_seq _ _ _ _ _ _ qY]
    simp[binOp,sV hu]
    exact Cx h hk
   ·obtain⟨b,l,c,rfl,hk⟩:=key _ hk
    rw[Sem.run_seq _ _ _ _ _ _ qY]
    simp[binOp,sV hu]
    exact Cx h (by cases b<;>exact hk)
  ·exact hk.elim
 ·exact hk.elim
theorem MD (hW:∀x K,W x K->K (cL s x)) (h:cC E n s L a w F β) {op:UnOp} {t:TypeId} {x:Operand} (hk:aR Γ P wr W LK L base (.unOp op t x) K):
  Out P E n s L a K ((Op.unary op (a.eval x)).run P w):=by
 simp only[aR]at hk
 have hx:=h.ev x
 have hk:=hW x _ hk
 generalize cL s x=vx at hk hx
 generalize a.eval x=ax at hx
 split at hk
 ·cases hx with|p hx=>cases hx with|int k p=>simpa[Op.unary,Op.intArith]using eX h hk
 ·cases hx with|p hx=>cases hx with|int k p=>simpa[Op.unary,Op.intBits]using eX h hk
 ·cases hx with|p hx=>cases hx with|bool b=>simpa[Op.unary]using Out.bool h hk
 ·cases hx with|tf b=>simpa[Op.unary]using Cx h hk
 ·exact hk.elim
theorem Aa (hΓ:gW P Γ) (hW:∀x K,W x K->K (cL s x)) (h:cC E n s L a w F β) {src dst:TypeId} {x:Operand} (hk:aR Γ P wr W LK L base (.convert src dst x) K):
  Out P E n s L a K ((convert src dst (a.eval x)).run P w):=by
 simp only[aR]at hk
 have hx:=h.ev x
 have hk:=hW x _ hk
 generalize cL s x=vx at hk hx
 generalize a.eval x=ax at hx
 unfold LH at hk
 split at hk
 ·split at hk
  ·rename_i i hi
   split at hk
   ·rename_i j hj
    split at hk
    ·rename_i k hd
     cases hx with|p hx=>cases hx with|int k' p=>
     have hu:P.underlying dst=some (.int k):=by have:=(hΓ dst _ hi).desc;rw[hd]at this;exact this
     have hs:∃d,P.underlying src=some d:=by
      have:=(hΓ src _ hj).desc
      cases hd':j.d with
      |struct fs=>rw[hd']at this;obtain⟨f,h1,_⟩:=this;exact⟨_,h1⟩
      |other=>rw[hd']at this;obtain⟨d,h1,_⟩:=this;exact⟨_,h1⟩
      |_=>rw[hd']at this;exact⟨_,this⟩
     obtain⟨d,hs⟩:=hs
     simp[convert,run_underlying hu,run_underlying hs,Conv.intToInt]
     exact eX h hk
    ·exact hk.elim
   ·exact hk.elim
  ·exact hk.elim
 ·exact hk.elim
theorem x7 (hW:∀x K,W x K->K (cL s x)) (h:cC E n s L a w F β) {f:FuncId} {fs cs:Array Operand} (hk:aR Γ P wr W LK L base (.makeFunc (.func f) fs cs) K):
  Out P E n s L a K ((Instr.makeFunc (.func f) (fs.map a.eval) (cs.map a.eval)).run P w):=by
 simp only[aR]at hk
 have ev:∀(xs:List Operand) (K':List AV->Prop),gg W xs K'->K' (xs.map (cL s)):=by
  intro xs
  induction xs with
  |nil=>intro K' h;exact h
  |cons x xs ih=>intro K' h;exact ih _ (hW x _ h)
 have hk:=ev _ _ (ev _ _ hk)
 have rel:∀(xs:Array Operand) (i:Nat) c v,(xs.toList.map (cL s))[i]?=some c->(xs.map a.eval)[i]?=some v->VR w (aM E.bW F) β c v:=by
  intro xs i c v e1 e2
  simp only[List.getElem?_map,Array.getElem?_toList,Array.getElem?_map]at e1 e2
  cases e:xs[i]? with
  |none=>rw[e]at e1;cases e1
  |some x=>rw[e]at e1 e2;cases e1;cases e2;exact h.ev x
 have aT:∀(xs:Array Operand) (k:Hd),AV.bm (xs.toList.map (cL s)) k->L k≠ .free:=by
  intro xs k
  generalize xs.toList=l
  induction l with
  |nil=>simp[AV.bm]
  |cons x l ih=>
   simp only[List.map_cons,AV.bm]
   rintro(h'|h')
   ·exact h.AN x k h'
   ·exact ih h'
 refine .same h hk (.fn f _ _ _ _ qS (rel fs) qS (rel cs)) fun k hk=>?_
 simp only[AV.aT]at hk
 rcases hk with hk|hk
 ·exact aT fs k hk
 ·exact aT cs k hk
theorem y3 (hW:∀x K,W x K->K (cL s x)) (h:cC E n s L a w F β) {x:Operand} {i:Nat} (hk:aR Γ P wr W LK L base (.extract x i) K):
  Out P E n s L a K ((Instr.extract (a.eval x) i).run P w):=by
 simp only[aR]at hk
 have hx:=h.ev x
 have hm:=h.AN x
 have hk:=hW x _ hk
 generalize cL s x=vx at hk hx hm
 generalize a.eval x=ax at hx
 split at hk
 ·rename_i cs
  cases hx with|bK _ vs hl hr=>
  obtain⟨c,hc,hk⟩:=xN hk
  have hi:i<vs.size:=by rw[hl];exact(List.getElem?_eq_some_iff.1 hc).1
  simp[Instr.extract,hi]
  exact .same h hk (hr i c _ hc (by simp[hi])) fun k hk=>hm k (by simp only[AV.aT];exact AV.bj (List.mem_of_getElem? hc) hk)
 ·exact hk.elim
end
end
section
section
variable {P:Program} {Γ:oy} {E:Env} {n:Nat} {s:Nat->AV} {L:Hd->aA} {a:Act} {w:World} {F:Nat->Prop} {β:Hd->Option Nat×Nat} {K:AV->List (Hd×aA)->Prop}
 {W:Operand->(AV->Prop)->Prop} {LK:Hd->(aA->Prop)->Prop} {wr:FuncId->Bool} {base:Nat}
theorem VR.intOf {w FB β} {k:IntKind} {z:Int} {x:Value} (h:VR w FB β (.p (.int k z)) x):x= .int k z:=by
 cases h with|p h=>cases h;rfl
theorem fw (hΓ:gW P Γ) {t:TypeId} {K:TypeId->TI->Prop} (h:iX Γ t K):∃e j,P.underlying t=some (.slice e)/\Γ e=some j/\K e j:=by
 unfold iX at h
 split at h
 ·rename_i i hi
  split at h
  ·rename_i e hd
   have hu:=(hΓ t _ hi).desc
   rw[hd]at hu
   split at h
   ·rename_i j hj;exact⟨e,j,hu,hj,h⟩
   ·exact h.elim
  ·exact h.elim
 ·exact h.elim
theorem tX (hΓ:gW P Γ) {t:TypeId} {f:Nat} {K:Nat->TI->Prop} (h:sr Γ t f K):∃(fields:Array Field) (fl:Field) (j:TI),P.underlying t=some (.struct fields)/\fields[f]?=some fl/\Γ fl.type=some j/\K fl.offset j:=by
 unfold sr at h
 split at h
 ·rename_i i hi
  split at h
  ·rename_i fs hd
   have hu:=(hΓ t _ hi).desc
   rw[hd]at hu
   obtain⟨fields,hu,hfs⟩:=hu
   split at h
   ·rename_i x hx
    split at h
    ·rename_i j hj
     rw[<-hfs,List.getElem?_map]at hx
     cases e:fields.toList[f]? with
     |none=>rw[e]at hx;cases hx
     |some fl=>rw[e]at hx;cases hx;exact⟨fields,fl,j,hu,by simpa using e,hj,h⟩
    ·exact h.elim
   ·exact h.elim
  ·exact h.elim
 ·exact h.elim
theorem d9 {a b:Nat} {A:Prop} (h:cond (Nat.beq a b) A False):a=b/\A:=by
 cases e:Nat.beq a b with
 |false=>rw[e]at h;exact h.elim
 |true=>rw[e]at h;exact⟨Nat.eq_of_beq_eq_true e,h⟩
theorem yw (hΓ:gW P Γ) {e:TypeId} {i:TI} (hi:Γ e=some i) {K:PV->Prop} (h:sX i K):∃z,K z/\z.cells=i.zero:=by
 unfold sX at h
 split at h
 ·exact⟨_,h,rfl⟩
 ·split at h
  ·rename_i z hz
   exact⟨z,h,by rw[hz,PV.fH ((hΓ e i hi).plain z (by rw[hz];simp))]⟩
  ·exact h.elim
theorem mP {b W len cap:Nat} {w':World} {FB} (h:len<=cap):VR w' FB (a8 β base (some b,cap)) (.vec base W 0 len) (.slice (some ⟨b,0,none⟩) len cap):=by
 have:=VR.vec (w:=w') (FB:=FB) (β:=a8 β base (some b,cap)) (h:=base) (W:=W) (off:=0) (len:=len) (b:=b) (o:=0) (c:=cap) (by rw[ah]) qO (by rw[ah];omega) (fun _=>qS)
 exact this
theorem Ig (hΓ:gW P Γ) (hW:∀x K,W x K->K (cL s x)) (h:cC E n s L a w F β) (hf:∀v ups,K v ups->∀x∈ups,base<=x.1.key->fZ L x.1.key) {t:TypeId} {l c:Operand}
  (hk:aR Γ P wr W LK L base (.makeSlice t l c) K):Out P E n s L a K ((Instr.makeSlice t (a.eval l) (a.eval c)).run P w):=by
 simp only[aR]at hk
 cases hz0:sq l with
 |true=>
  rw[hz0]at hk
  have hle:∃k,a.eval l= .int k 0:=by
   unfold sq at hz0
   split at hz0
   ·exact⟨_,rfl⟩
   ·cases hz0
  obtain⟨k0,hle⟩:=hle
  have hc:=h.ev c
  have hk:=hW c _ hk
  generalize cL s c=vc at hk hc
  generalize a.eval c=ac at hc
  rw[hle]
  unfold Hc at hk
  split at hk
  ·obtain⟨e,i,hu,hi,hk⟩:=fw hΓ hk
   obtain⟨j,hj,hb,hb2,hK⟩:=hk
   obtain rfl:=hc.intOf
   subst hj
   obtain⟨info,zv,g1,g2,g3,g4,g5⟩:=sa hΓ hi
   have hb':((info.bytes:Int)*(j:Int))<=281474976710656:=by
    rw[g3,Int.mul_comm]
    have:((j*i.bytes:Nat):Int)<=140737488355328:=Int.ofNat_le.2 hb
    rw[Int.natCast_mul]at this
    omega
   have hr:=fun k1 k2=>run_make (P:=P) w t e info zv hu g1 g4 k1 k2 (0:Int) (j:Int) (Int.le_refl _) qO hb' qO
   rw[hr]
   simp only[Int.toNat_natCast,Int.toNat_zero]
   have hfree:L base= .free:=(hf _ _ hK (base,.vec e i.size []) qS (Nat.le_refl _)).1
   exact .new h _ e (.vec e i.size []) base j hK hfree ⟨fun e' he'=>absurd he' List.not_mem_nil,by simp[ah],.inr ⟨w.heap.size,_,by rw[ah],fp w _,by rw[ah,size_madeCells,g2],fun i' e' o c v e1 e2 e3=>by simp at e1⟩⟩ trivial (fun j hj=>hj.elim) (mP (Nat.zero_le _)) (fun k hk=>.inl hk.symm)
  ·exact hk.elim
 |false=>
 rw[hz0]at hk
 have hl:=h.ev l
 have hc:=h.ev c
 have hk:=hW c _ (hW l _ hk)
 generalize cL s l=vl at hk hl
 generalize cL s c=vc at hk hc
 generalize a.eval l=al at hl
 generalize a.eval c=ac at hc
 unfold L4 at hk
 split at hk
 ·split at hk
  ·obtain⟨e,i,hu,hi,hk⟩:=fw hΓ hk
   obtain⟨z,hk,hz⟩:=yw hΓ hi hk
   obtain⟨m',hm',hlt,j,hj,hb,hb2,hK⟩:=hk
   obtain rfl:=hl.intOf
   obtain rfl:=hc.intOf
   subst hm'
   subst hj
   obtain rfl:_=((j:Nat):Int):=Int.sub_eq_zero.1 (Int.natAbs_eq_zero.1 (Nat.lt_one_iff.1 hlt))
   obtain⟨info,zv,g1,g2,g3,g4,g5⟩:=sa hΓ hi
   obtain⟨zv',h1,h2,h3,h4⟩:=oT hΓ hi
   have hzz:zv'=zv:=by
    have:=h1 w
    simp[zeroValue,typeInfo,g1,g4]at this
    exact this.symm
   subst hzz
   have hb':((info.bytes:Int)*(j:Int))<=281474976710656:=by
    rw[g3,Int.mul_comm]
    have:((j*i.bytes:Nat):Int)<=140737488355328:=Int.ofNat_le.2 hb
    rw[Int.natCast_mul]at this
    omega
   have hr:=fun k1 k2=>run_make (P:=P) w t e info zv' hu g1 g4 k1 k2 (j:Int) (j:Int) qO (Int.le_refl _) hb' qO
   rw[hr]
   simp only[Int.toNat_natCast]
   have vecs:K (.vec base i.size 0 j) [(base,.vec e i.size (List.replicate j z))]->Out P E n s L a K (.ok (.slice (some ⟨w.heap.size,0,none⟩) j j) (w.alloc (.cells (madeCells zv'.cells (j*info.size)) e))):=by
    intro hK'
    have hfree:L base= .free:=(hf _ _ hK' (base,.vec e i.size (List.replicate j z)) qS (Nat.le_refl _)).1
    have hzl:z.cells.length=i.size:=by rw[hz];exact(hΓ e i hi).info.choose_spec.choose_spec.2.2.2.2.2.1
    refine .new h _ e (.vec e i.size (List.replicate j z)) base j hK' hfree ⟨fun e' he'=>?_,by simp[ah],.inr ⟨w.heap.size,_,by rw[ah],fp w _,by rw[ah,size_madeCells,g2],fun i' e' o c v e1 e2 e3=>h.iG _ ?_⟩⟩ trivial (fun j hj=>hj.elim) (mP (Nat.le_refl _)) (fun k hk=>.inl hk.symm)
    ·rw[List.eq_of_mem_replicate he'];exact⟨hzl,fun c hc=>(hΓ e i hi).plain c (by rw[<-hz];exact hc)⟩
    ·have he':e'=z:=List.eq_of_mem_replicate (List.mem_of_getElem? e1)
     subst he'
     have ho:o<i.size:=by rw[<-hzl];exact(List.getElem?_eq_some_iff.1 e2).1
     have hi':i'<j:=by simpa using(List.getElem?_eq_some_iff.1 e1).1
     have hlt:i'*i.size+o<j*info.size:=by
      rw[g2]
      have:(i'+1)*i.size<=j*i.size:=Nat.mul_le_mul_right _ qO
      rw[Nat.add_mul]at this;omega
     have hmod:(i'*i.size+o)%i.size=o:=by rw[Nat.mul_comm,Nat.mul_add_mod,Nat.mod_eq_of_lt ho]
     have e4:v=zv'.cells[o]! :=by
      simp only[madeCells,Array.getElem?_map,Array.getElem?_range,hlt,if_true,Option.map_some,Option.some.injEq]at e3
      rw[<-e3,h2,hmod]
     rw[hz]at e2
     exact h4 w _ o c v e2 (by rw[e4];simp[h2,ho])
   revert hK
   cases hrow:i.wA with
   |false=>exact fun hK=>vecs hK
   |true=>
    intro hK
    cases hK with
    |vec hK=>exact vecs hK
    |rows hK=>
     have hfree:L base= .free:=(hf _ _ hK (base,.rows e (List.replicate j .emp)) qS (Nat.le_refl _)).1
     have hsz1:i.size=1:=by
      unfold TI.wA at hrow
      split at hrow
      ·exact Nat.eq_of_beq_eq_true hrow
      ·cases hrow
     have hzv:zv'= .slice none 0 0:=by
      unfold TI.wA at hrow
      split at hrow
      ·rename_i e' hd;exact(hΓ e i hi).NV info zv' e' g1 g4 hd
      ·cases hrow
     refine .new h _ e (.rows e (List.replicate j .emp)) base j hK hfree ⟨fun c hc=>by rw[List.eq_of_mem_replicate hc];rfl,by simp[ah],.inr ⟨w.heap.size,_,by rw[ah],fp w _,by rw[ah,size_madeCells,g2,hsz1,Nat.mul_one],fun q c v e1 e2=>?_⟩⟩ trivial (fun q hq=>?_) (mP (Nat.le_refl _)) (fun k hk=>.inl hk.symm)
     ·have hc:c= .emp:=List.eq_of_mem_replicate (List.mem_of_getElem? e1)
      subst hc
      have hlt:q<j*info.size:=by rw[g2,hsz1,Nat.mul_one];simpa using(List.getElem?_eq_some_iff.1 e1).1
      simp only[madeCells,Array.getElem?_map,Array.getElem?_range,hlt,if_true,Option.map_some,Option.some.injEq]at e2
      rw[<-e2,hzv]
      show VR _ _ _ .emp ((#[Value.slice none 0 0])[q%1]!)
      rw[Nat.mod_one]
      exact .lu
     ·exfalso
      have:∀m,AV.bm (List.replicate m AV.emp) q->False:=by
       intro m
       induction m with
       |zero=>intro h;simp only[List.replicate,AV.bm]at h
       |succ m ih=>intro h;simp only[List.replicate,AV.bm,AV.aT,false_or]at h;exact ih h
      exact this j hq
  ·exact hk.elim
 ·exact hk.elim
theorem PR.take {w FB} {m:Bool} {W:Nat} {es:List PV} {b off cap:Nat} {l h:Nat} (hp:PR w FB (.sl m W es) (.slice (some ⟨b,off,none⟩) es.length cap)) (h1:l<=h) (h2:h<=es.length) (off' cap':Nat)
  (ho:l<h->off'=off+l*W) (hc:h-l<=cap'):PR w FB (.sl m W ((es.take h).drop l)) (.slice (some ⟨b,off',none⟩) (h-l) cap'):=by
 have hlen:((es.take h).drop l).length=h-l:=by simp;omega
 cases hp with
 |nil=>
  have h2:h<=0:=h2
  have e1:h=0:=qO
  have e2:l=0:=qO
  subst e1;subst e2
  exact PR.sl m W [] b off' cap' (fun _ _=>Go.undef) (Nat.zero_le _) (fun h=>absurd rfl h) qS qS qS qS
 |sl _ _ _ _ _ _ vals hcap hb hW hone hv hr=>
  have:=PR.sl m W ((es.take h).drop l) b off' cap' (fun i j=>vals (l+i) j) (w:=w) (FB:=FB) (by rw[hlen];exact hc) (fun hne=>hb (by intro e;rw[e]at hne;simp at hne))
   (fun e he=>hW e (List.mem_of_mem_take (List.mem_of_mem_drop he))) (fun e he=>hone e (List.mem_of_mem_take (List.mem_of_mem_drop he))) (fun i e j c e1 e2=>?_) (fun i e j c e1 e2=>?_)
  ·rw[hlen]at this;exact this
  ·have hi:i<h-l:=by rw[<-hlen];exact(List.getElem?_eq_some_iff.1 e1).1
   rw[List.getElem?_drop,List.getElem?_take_of_lt qO]at e1
   rw[ho qO,show off+l*W+i*W+j=off+(l+i)*W+j by rw[Nat.add_mul];omega]
   exact hv (l+i) e j c e1 e2
  ·have hi:i<h-l:=by rw[<-hlen];exact(List.getElem?_eq_some_iff.1 e1).1
   rw[List.getElem?_drop,List.getElem?_take_of_lt qO]at e1
   exact hr (l+i) e j c e1 e2
theorem dS (hW:∀x K,W x K->K (cL s x)) (h:cC E n s L a w F β) {x:Option Operand} {d:Int} {K:Int->Prop} (hk:iQ W x d K):
  (x=none/\K d)\/∃y k i,x=some y/\a.eval y= .int k i/\K i:=by
 unfold iQ at hk
 split at hk
 ·exact .inl ⟨rfl,hk⟩
 ·rename_i y
  have hy:=h.ev y
  have hk:=hW y _ hk
  generalize cL s y=vy at hk hy
  split at hk
  ·cases hy with|p hy=>
   generalize hay:a.eval y=ay at hy
   cases hy
   exact .inr ⟨y,_,_,rfl,hay,hk⟩
  ·exact hk.elim
theorem im (low high mx:Option Value) (len cap l h:Nat) (hl:low=none/\l=0\/∃k,low=some (.int k (l:Int))) (hh:high=none/\h=len\/∃k,high=some (.int k (h:Int)))
  (hm:mx=none\/(∃k,mx=some (.int k (h:Int)))/\high.isSome) (h1:l<=h) (h2:h<=len) (h3:len<=cap):
  (Instr.sliceBounds true len cap low high mx).run P w= .ok (l,h,if mx.isSome then h else cap) w:=by
 have b:∀(k:IntKind) (i y:Nat) c,i<=y->(Instr.sliceBound (.int k (i:Int)) y c).run P w= .ok i w:=by
  intro k i y c hi
  simp[Instr.sliceBound,asIntOf,hi]
 rcases hm with rfl|⟨⟨k,rfl⟩,hs⟩
 ·rcases hh with⟨rfl,rfl⟩|⟨k',rfl⟩<;>rcases hl with⟨rfl,rfl⟩|⟨k'',rfl⟩
  ·simp[Instr.sliceBounds]
  ·simp[Instr.sliceBounds,b _ _ _ _ h1]
  ·simp[Instr.sliceBounds,b _ _ _ _ (Nat.le_trans h2 h3)]
  ·simp[Instr.sliceBounds,b _ _ _ _ (Nat.le_trans h2 h3),b _ _ _ _ h1]
 ·rcases hh with⟨rfl,rfl⟩|⟨k',rfl⟩
  ·cases hs
  ·rcases hl with⟨rfl,rfl⟩|⟨k'',rfl⟩
   ·simp[Instr.sliceBounds,b _ _ _ _ (Nat.le_trans h2 h3),b _ _ _ _ (Nat.le_refl h)]
   ·simp[Instr.sliceBounds,b _ _ _ _ (Nat.le_trans h2 h3),b _ _ _ _ (Nat.le_refl h),b _ _ _ _ h1]
end
end
section
section
variable {P:Program} {Γ:oy} {E:Env} {n:Nat} {s:Nat->AV} {L:Hd->aA} {a:Act} {w:World} {F:Nat->Prop} {β:Hd->Option Nat×Nat} {K:AV->List (Hd×aA)->Prop}
 {W:Operand->(AV->Prop)->Prop} {LK:Hd->(aA->Prop)->Prop} {wr:FuncId->Bool} {base:Nat}
theorem nK (h:cC E n s L a w F β) {v:PV} {x:Value} (hk:K (.p v) []) (hv:PR w (aM E.bW F) v x):Out P E n s L a K (.ok x w):=.same h hk (.p hv) fun k hk=>by simp only[AV.aT]at hk
theorem gh {t e:TypeId} (hu:P.underlying t=some (.slice e)) {sz:Nat} (hs:(sizeOf e).run P w= .ok sz w) (b:Option Addr) (len cap l h m:Nat) (lo hi mx:Option Value)
  (hb:(Instr.sliceBounds true len cap lo hi mx).run P w= .ok (l,h,m) w):
  (Instr.sliceAt t (.slice b len cap) lo hi mx).run P w= .ok (.slice (if m=l then b else b.map (·.add (l*sz))) (h-l) (m-l)) w:=by
 simp[Instr.sliceAt,run_underlying hu,Instr.slice,hb,hs]
theorem Eg (hΓ:gW P Γ) (hW:∀x K,W x K->K (cL s x)) (h:cC E n s L a w F β) {t:TypeId} {x:Operand} {lo hi mx:Option Operand} (hk:aR Γ P wr W LK L base (.slice t x lo hi mx) K):
  Out P E n s L a K ((Instr.sliceAt t (a.eval x) (lo.map a.eval) (hi.map a.eval) (mx.map a.eval)).run P w):=by
 simp only[aR]at hk
 have hx:=h.ev x
 have hxm:=h.AN x
 have hk:=hW x _ hk
 generalize cL s x=vx at hk hx hxm
 generalize a.eval x=ax at hx
 unfold tU at hk
 split at hk
 ·rename_i m Wd es
  have hmh:(mx.isNone||hi.isSome)=true/\iX Γ t fun _ i=>cond (Nat.beq i.size Wd) (iQ W lo 0 fun l=>iQ W hi es.length fun h=>iQ W mx h fun mm=>SZ mm fun mm'=>cm (mm'-h).natAbs 1 (fO l h es.length fun l h=>
   MO mx l h (dp ((es.take h).drop l) fun es'=>K (.p (.sl m Wd es')) []) (K .emp []) (dp ((es.take h).drop l) fun es'=>K (.rB m Wd es') []))) False:=by
   cases e:(mx.isNone||hi.isSome)with
   |false=>rw[e]at hk;exact hk.elim
   |true=>rw[e]at hk;exact⟨rfl,hk⟩
  obtain⟨hmh,hk⟩:=hmh
  obtain⟨e,i,hu,hie,hk⟩:=fw hΓ hk
  obtain⟨hWd,hk⟩:=d9 hk
  subst hWd
  have hsz:=dG hΓ hie w
  have key:∃l hh:Nat,(lo.map a.eval=none/\l=0\/∃k,lo.map a.eval=some (.int k (l:Int)))/\(hi.map a.eval=none/\hh=es.length\/∃k,hi.map a.eval=some (.int k (hh:Int)))/\
    (mx.map a.eval=none\/(∃k,mx.map a.eval=some (.int k (hh:Int))))/\l<=hh/\hh<=es.length/\(K (.p (.sl m i.size ((es.take hh).drop l))) []\/mx.isSome=true/\(l=hh/\K .emp []\/K (.rB m i.size ((es.take hh).drop l)) [])):=by
   have fin:∀(zl zh zm:Int),(SZ zm fun mm'=>cm (mm'-zh).natAbs 1 (fO zl zh es.length fun l h=>MO mx l h (dp ((es.take h).drop l) fun es'=>K (.p (.sl m i.size es')) []) (K .emp []) (dp ((es.take h).drop l) fun es'=>K (.rB m i.size es') [])))->
     ∃l hh:Nat,zl=l/\zh=hh/\zm=hh/\l<=hh/\hh<=es.length/\(K (.p (.sl m i.size ((es.take hh).drop l))) []\/mx.isSome=true/\(l=hh/\K .emp []\/K (.rB m i.size ((es.take hh).drop l)) [])):=by
    intro zl zh zm hk
    obtain⟨mm',hmm,hlt,l,hh,hl,hhh,h1,h2,hk⟩:=hk
    refine⟨l,hh,hl,hhh,qO,h1,h2,?_⟩
    cases mx with
    |none=>obtain⟨es',hes,hk⟩:=hk;subst hes;exact .inl hk
    |some q=>
     rcases hk with⟨es',hes,hk⟩|⟨e,hk⟩|⟨es',hes,hk⟩
     ·subst hes;exact .inl hk
     ·exact .inr ⟨rfl,.inl ⟨e,hk⟩⟩
     ·subst hes;exact .inr ⟨rfl,.inr hk⟩
   rcases dS hW h hk with⟨elo,hk⟩|⟨y,k,z,elo,eva,hk⟩
   ·rcases dS hW h hk with⟨ehi,hk⟩|⟨y',k',z',ehi,eva',hk⟩
    ·rcases dS hW h hk with⟨emx,hk⟩|⟨y'',k'',z'',emx,eva'',hk⟩
     ·obtain⟨l,hh,q1,q2,q3,q4,q5,hk⟩:=fin _ _ _ hk
      exact⟨l,hh,.inl ⟨by rw[elo];rfl,qO⟩,.inl ⟨by rw[ehi];rfl,qO⟩,.inl (by rw[emx];rfl),q4,q5,hk⟩
     ·obtain⟨l,hh,q1,q2,q3,q4,q5,hk⟩:=fin _ _ _ hk
      exact⟨l,hh,.inl ⟨by rw[elo];rfl,qO⟩,.inl ⟨by rw[ehi];rfl,qO⟩,.inr ⟨k'',by rw[emx,<-q3,<-eva''];rfl⟩,q4,q5,hk⟩
    ·rcases dS hW h hk with⟨emx,hk⟩|⟨y'',k'',z'',emx,eva'',hk⟩
     ·obtain⟨l,hh,q1,q2,q3,q4,q5,hk⟩:=fin _ _ _ hk
      exact⟨l,hh,.inl ⟨by rw[elo];rfl,qO⟩,.inr ⟨k',by rw[ehi,<-q2,<-eva'];rfl⟩,.inl (by rw[emx];rfl),q4,q5,hk⟩
     ·obtain⟨l,hh,q1,q2,q3,q4,q5,hk⟩:=fin _ _ _ hk
      exact⟨l,hh,.inl ⟨by rw[elo];rfl,qO⟩,.inr ⟨k',by rw[ehi,<-q2,<-eva'];rfl⟩,.inr ⟨k'',by rw[emx,<-q3,<-eva''];rfl⟩,q4,q5,hk⟩
   ·rcases dS hW h hk with⟨ehi,hk⟩|⟨y',k',z',ehi,eva',hk⟩
    ·rcases dS hW h hk with⟨emx,hk⟩|⟨y'',k'',z'',emx,eva'',hk⟩
     ·obtain⟨l,hh,q1,q2,q3,q4,q5,hk⟩:=fin _ _ _ hk
      exact⟨l,hh,.inr ⟨k,by rw[elo,<-q1,<-eva];rfl⟩,.inl ⟨by rw[ehi];rfl,qO⟩,.inl (by rw[emx];rfl),q4,q5,hk⟩
     ·obtain⟨l,hh,q1,q2,q3,q4,q5,hk⟩:=fin _ _ _ hk
      exact⟨l,hh,.inr ⟨k,by rw[elo,<-q1,<-eva];rfl⟩,.inl ⟨by rw[ehi];rfl,qO⟩,.inr ⟨k'',by rw[emx,<-q3,<-eva''];rfl⟩,q4,q5,hk⟩
    ·rcases dS hW h hk with⟨emx,hk⟩|⟨y'',k'',z'',emx,eva'',hk⟩
     ·obtain⟨l,hh,q1,q2,q3,q4,q5,hk⟩:=fin _ _ _ hk
      exact⟨l,hh,.inr ⟨k,by rw[elo,<-q1,<-eva];rfl⟩,.inr ⟨k',by rw[ehi,<-q2,<-eva'];rfl⟩,.inl (by rw[emx];rfl),q4,q5,hk⟩
     ·obtain⟨l,hh,q1,q2,q3,q4,q5,hk⟩:=fin _ _ _ hk
      exact⟨l,hh,.inr ⟨k,by rw[elo,<-q1,<-eva];rfl⟩,.inr ⟨k',by rw[ehi,<-q2,<-eva'];rfl⟩,.inr ⟨k'',by rw[emx,<-q3,<-eva''];rfl⟩,q4,q5,hk⟩
  obtain⟨l,hh,b1,b2,b3,b4,b5,hk⟩:=key
  have hmx:mx.map a.eval=none\/(∃k,mx.map a.eval=some (.int k (hh:Int)))/\(hi.map a.eval).isSome:=by
   rcases b3 with b3|b3
   ·exact .inl b3
   ·rcases b2 with⟨b2,_⟩|⟨k,b2⟩
    ·obtain⟨k,b3⟩:=b3
     cases mx with
     |none=>exact .inl rfl
     |some q=>cases hi with
      |none=>simp at hmh
      |some q'=>simp at b2
    ·exact .inr ⟨b3,by rw[b2];rfl⟩
  cases hx with|p hx=>
  cases hx with
  |nil _ _ ad=>
   simp only[List.length_nil]at b5 b2
   have h0:hh=0:=qO
   have l0:l=0:=qO
   subst h0;subst l0
   have hb:=im (P:=P) (w:=w) _ _ _ 0 0 0 0 b1 b2 hmx (Nat.le_refl _) (Nat.le_refl _) (Nat.le_refl _)
   rw[gh hu hsz _ _ _ _ _ _ _ _ _ hb]
   have e:(if(mx.map a.eval).isSome=true then 0 else 0)=0:=by split<;>rfl
   rw[e]
   simp only[if_true,Nat.sub_self]
   rcases hk with hk|⟨_,⟨_,hk⟩|hk⟩
   ·exact nK h hk (.nil _ _ _)
   rotate_left
   ·exact .same h hk (.rB (.nil _ _ _)) fun k hk=>by simp only[AV.aT]at hk
   ·exact .same h hk (by cases ad with|none=>exact .lu|some q=>exact .emp q) fun k hk=>by simp only[AV.aT]at hk
  |sl _ _ _ b off cap vals hc hb hW' hone hv hr=>
   have hbs:=im (P:=P) (w:=w) _ _ _ es.length cap l hh b1 b2 hmx b4 b5 hc
   rw[gh hu hsz _ _ _ _ _ _ _ _ _ hbs]
   generalize hM:(if(mx.map a.eval).isSome=true then hh else cap)=M
   have hM':hh<=M:=by rw[<-hM];split<;>omega
   have hk:K (.p (.sl m i.size ((es.take hh).drop l))) []\/M=hh/\(l=hh/\K .emp []\/K (.rB m i.size ((es.take hh).drop l)) []):=hk.imp id fun⟨q1,q2⟩=>⟨by rw[<-hM,if_pos (by rw[Option.isSome_map];exact q1)],q2⟩
   have hp:=PR.sl m i.size es b off cap vals hc hb hW' hone hv hr
   rcases hk.symm with⟨eM,⟨el,hk⟩|hk⟩|hk
   ·rw[if_pos qO,eM,<-el]
    simp only[Nat.sub_self]
    exact .same h hk (.emp _) fun k hk=>by simp only[AV.aT]at hk
   ·have hln:((es.take hh).drop l).length=hh-l:=by simp;omega
    by_cases e:M=l
    ·rw[if_pos e,eM]
     have:=VR.rB (β:=β) (by rw[hln];exact hp.take b4 b5 off (hh-l) (fun h=>qO) qO)
     rw[hln]at this
     exact .same h hk this fun k hk=>by simp only[AV.aT]at hk
    ·rw[if_neg e,eM]
     simp only[Option.map_some,Addr.add_lit]
     have:=VR.rB (β:=β) (by rw[hln];exact hp.take b4 b5 (off+l*i.size) (hh-l) (fun _=>rfl) qO)
     rw[hln]at this
     exact .same h hk this fun k hk=>by simp only[AV.aT]at hk
   by_cases e:M=l
   ·rw[if_pos e]
    exact nK h hk (hp.take b4 b5 off (M-l) (fun h=>qO) qO)
   ·rw[if_neg e]
    simp only[Option.map_some,Addr.add_lit]
    exact nK h hk (hp.take b4 b5 (off+l*i.size) (M-l) (fun _=>rfl) qO)
 ·rename_i hd Wd off len
  split at hk
  ·obtain⟨e,i,hu,hie,hk⟩:=fw hΓ hk
   obtain⟨hWd,hk⟩:=d9 hk
   subst hWd
   have hsz:=dG hΓ hie w
   have key:∃l hh:Nat,(lo.map a.eval=none/\l=0\/∃k,lo.map a.eval=some (.int k (l:Int)))/\(hi.map a.eval=none/\hh=len\/∃k,hi.map a.eval=some (.int k (hh:Int)))/\
     l<=hh/\hh<=len/\K (.vec hd i.size (off+l) (hh-l)) []:=by
    have fin:∀(zl zh:Int),(fO zl zh len fun l h=>K (.vec hd i.size (off+l) (h-l)) [])->∃l hh:Nat,zl=l/\zh=hh/\l<=hh/\hh<=len/\K (.vec hd i.size (off+l) (hh-l)) []:=by
     intro zl zh hk
     obtain⟨l,hh,hl,hhh,h1,h2,hk⟩:=hk
     exact⟨l,hh,hl,hhh,h1,h2,hk⟩
    rcases dS hW h hk with⟨elo,hk⟩|⟨y,k,z,elo,eva,hk⟩
    ·rcases dS hW h hk with⟨ehi,hk⟩|⟨y',k',z',ehi,eva',hk⟩
     ·obtain⟨l,hh,q1,q2,q4,q5,hk⟩:=fin _ _ hk
      exact⟨l,hh,.inl ⟨by rw[elo];rfl,qO⟩,.inl ⟨by rw[ehi];rfl,qO⟩,q4,q5,hk⟩
     ·obtain⟨l,hh,q1,q2,q4,q5,hk⟩:=fin _ _ hk
      exact⟨l,hh,.inl ⟨by rw[elo];rfl,qO⟩,.inr ⟨k',by rw[ehi,<-q2,<-eva'];rfl⟩,q4,q5,hk⟩
    ·rcases dS hW h hk with⟨ehi,hk⟩|⟨y',k',z',ehi,eva',hk⟩
     ·obtain⟨l,hh,q1,q2,q4,q5,hk⟩:=fin _ _ hk
      exact⟨l,hh,.inr ⟨k,by rw[elo,<-q1,<-eva];rfl⟩,.inl ⟨by rw[ehi];rfl,qO⟩,q4,q5,hk⟩
     ·obtain⟨l,hh,q1,q2,q4,q5,hk⟩:=fin _ _ hk
      exact⟨l,hh,.inr ⟨k,by rw[elo,<-q1,<-eva];rfl⟩,.inr ⟨k',by rw[ehi,<-q2,<-eva'];rfl⟩,q4,q5,hk⟩
   obtain⟨l,hh,b1,b2,b4,b5,hk⟩:=key
   cases hx with
   | @vec _ _ _ _ b o cc hb hc hm ho=>
    have hbs:=im (P:=P) (w:=w) (lo.map a.eval) (hi.map a.eval) none len cc l hh b1 b2 (.inl rfl) b4 b5 qO
    show Out P E n s L a K ((Instr.sliceAt t _ (lo.map a.eval) (hi.map a.eval) none).run P w)
    rw[gh hu hsz _ _ _ _ _ _ _ _ _ hbs]
    have:(if(none:Option Value).isSome=true then hh else cc)=cc:=rfl
    rw[this]
    by_cases e:cc=l
    ·rw[if_pos e]
     exact .same h hk (.vec hb qO qO (fun h=>qO)) fun k hk=>hxm k hk
    ·rw[if_neg e]
     simp only[Option.map_some,Addr.add_lit]
     exact .same h hk (.vec hb qO qO (fun _=>by rw[ho qO,Nat.add_mul])) fun k hk=>hxm k hk
   |jZ ad hb=>
    have h0:hh=0:=qO
    have l0:l=0:=qO
    subst h0;subst l0
    have hbs:=im (P:=P) (w:=w) (lo.map a.eval) (hi.map a.eval) none 0 0 0 0 b1 b2 (.inl rfl) b4 b5 (Nat.le_refl _)
    show Out P E n s L a K ((Instr.sliceAt t _ (lo.map a.eval) (hi.map a.eval) none).run P w)
    rw[gh hu hsz _ _ _ _ _ _ _ _ _ hbs]
    simp
    exact .same h hk (.jZ ad hb) fun k hk=>hxm k hk
  ·rename_i mo _
   have hmh:hi.isSome=true/\iX Γ t fun _ i=>cond (Nat.beq i.size Wd) (iQ W lo 0 fun l=>iQ W hi len fun h=>iQ W (some mo) h fun mm=>SZ mm fun mm'=>cm (mm'-h).natAbs 1 (fO l h len fun l h=>K (.vec hd Wd (off+l) (h-l)) [])) False:=by
    cases e:hi.isSome with
    |false=>rw[e]at hk;exact hk.elim
    |true=>rw[e]at hk;exact⟨rfl,hk⟩
   obtain⟨hmh,hk⟩:=hmh
   obtain⟨e,i,hu,hie,hk⟩:=fw hΓ hk
   obtain⟨hWd,hk⟩:=d9 hk
   subst hWd
   have hsz:=dG hΓ hie w
   have key:∃l hh:Nat,(lo.map a.eval=none/\l=0\/∃k,lo.map a.eval=some (.int k (l:Int)))/\(hi.map a.eval=none/\hh=len\/∃k,hi.map a.eval=some (.int k (hh:Int)))/\
     ((some mo).map a.eval=none\/(∃k,(some mo).map a.eval=some (.int k (hh:Int))))/\l<=hh/\hh<=len/\K (.vec hd i.size (off+l) (hh-l)) []:=by
    have fin:∀(zl zh zm:Int),(SZ zm fun mm'=>cm (mm'-zh).natAbs 1 (fO zl zh len fun l h=>K (.vec hd i.size (off+l) (h-l)) []))->
      ∃l hh:Nat,zl=l/\zh=hh/\zm=hh/\l<=hh/\hh<=len/\K (.vec hd i.size (off+l) (hh-l)) []:=by
     intro zl zh zm hk
     obtain⟨mm',hmm,hlt,l,hh,hl,hhh,h1,h2,hk⟩:=hk
     exact⟨l,hh,hl,hhh,qO,h1,h2,hk⟩
    rcases dS hW h hk with⟨elo,hk⟩|⟨y,k,z,elo,eva,hk⟩
    ·rcases dS hW h hk with⟨ehi,hk⟩|⟨y',k',z',ehi,eva',hk⟩
     ·rcases dS hW h hk with⟨emx,hk⟩|⟨y'',k'',z'',emx,eva'',hk⟩
      ·obtain⟨l,hh,q1,q2,q3,q4,q5,hk⟩:=fin _ _ _ hk
       exact⟨l,hh,.inl ⟨by rw[elo];rfl,qO⟩,.inl ⟨by rw[ehi];rfl,qO⟩,.inl (by rw[emx];rfl),q4,q5,hk⟩
      ·obtain⟨l,hh,q1,q2,q3,q4,q5,hk⟩:=fin _ _ _ hk
       exact⟨l,hh,.inl ⟨by rw[elo];rfl,qO⟩,.inl ⟨by rw[ehi];rfl,qO⟩,.inr ⟨k'',by rw[emx,<-q3,<-eva''];rfl⟩,q4,q5,hk⟩
     ·rcases dS hW h hk with⟨emx,hk⟩|⟨y'',k'',z'',emx,eva'',hk⟩
      ·obtain⟨l,hh,q1,q2,q3,q4,q5,hk⟩:=fin _ _ _ hk
       exact⟨l,hh,.inl ⟨by rw[elo];rfl,qO⟩,.inr ⟨k',by rw[ehi,<-q2,<-eva'];rfl⟩,.inl (by rw[emx];rfl),q4,q5,hk⟩
      ·obtain⟨l,hh,q1,q2,q3,q4,q5,hk⟩:=fin _ _ _ hk
       exact⟨l,hh,.inl ⟨by rw[elo];rfl,qO⟩,.inr ⟨k',by rw[ehi,<-q2,<-eva'];rfl⟩,.inr ⟨k'',by rw[emx,<-q3,<-eva''];rfl⟩,q4,q5,hk⟩
    ·rcases dS hW h hk with⟨ehi,hk⟩|⟨y',k',z',ehi,eva',hk⟩
     ·rcases dS hW h hk with⟨emx,hk⟩|⟨y'',k'',z'',emx,eva'',hk⟩
      ·obtain⟨l,hh,q1,q2,q3,q4,q5,hk⟩:=fin _ _ _ hk
       exact⟨l,hh,.inr ⟨k,by rw[elo,<-q1,<-eva];rfl⟩,.inl ⟨by rw[ehi];rfl,qO⟩,.inl (by rw[emx];rfl),q4,q5,hk⟩
      ·obtain⟨l,hh,q1,q2,q3,q4,q5,hk⟩:=fin _ _ _ hk
       exact⟨l,hh,.inr ⟨k,by rw[elo,<-q1,<-eva];rfl⟩,.inl ⟨by rw[ehi];rfl,qO⟩,.inr ⟨k'',by rw[emx,<-q3,<-eva''];rfl⟩,q4,q5,hk⟩
     ·rcases dS hW h hk with⟨emx,hk⟩|⟨y'',k'',z'',emx,eva'',hk⟩
      ·obtain⟨l,hh,q1,q2,q3,q4,q5,hk⟩:=fin _ _ _ hk
       exact⟨l,hh,.inr ⟨k,by rw[elo,<-q1,<-eva];rfl⟩,.inr ⟨k',by rw[ehi,<-q2,<-eva'];rfl⟩,.inl (by rw[emx];rfl),q4,q5,hk⟩
      ·obtain⟨l,hh,q1,q2,q3,q4,q5,hk⟩:=fin _ _ _ hk
       exact⟨l,hh,.inr ⟨k,by rw[elo,<-q1,<-eva];rfl⟩,.inr ⟨k',by rw[ehi,<-q2,<-eva'];rfl⟩,.inr ⟨k'',by rw[emx,<-q3,<-eva''];rfl⟩,q4,q5,hk⟩
   obtain⟨l,hh,b1,b2,b3,b4,b5,hk⟩:=key
   have b3:∃k,(some mo).map a.eval=some (.int k (hh:Int)):=by
    rcases b3 with b3|b3
    ·simp at b3
    ·exact b3
   have b2s:(hi.map a.eval).isSome:=by cases hi with
    |none=>simp at hmh
    |some q=>rfl
   show Out P E n s L a K ((Instr.sliceAt t _ (lo.map a.eval) (hi.map a.eval) ((some mo).map a.eval)).run P w)
   cases hx with
   | @vec _ _ _ _ b o cc hb hc hm ho=>
    have hbs:=im (P:=P) (w:=w) (lo.map a.eval) (hi.map a.eval) ((some mo).map a.eval) len cc l hh b1 b2 (.inr ⟨b3,b2s⟩) b4 b5 qO
    rw[gh hu hsz _ _ _ _ _ _ _ _ _ hbs]
    have:(if((some mo).map a.eval).isSome=true then hh else cc)=hh:=rfl
    rw[this]
    by_cases e:hh=l
    ·rw[if_pos e]
     exact .same h hk (.vec hb qO qO (fun h=>qO)) fun k hk=>hxm k hk
    ·rw[if_neg e]
     simp only[Option.map_some,Addr.add_lit]
     exact .same h hk (.vec hb qO qO (fun _=>by rw[ho qO,Nat.add_mul])) fun k hk=>hxm k hk
   |jZ ad hb=>
    have h0:hh=0:=qO
    have l0:l=0:=qO
    subst h0;subst l0
    have hbs:=im (P:=P) (w:=w) (lo.map a.eval) (hi.map a.eval) ((some mo).map a.eval) 0 0 0 0 b1 b2 (.inr ⟨b3,b2s⟩) b4 b5 (Nat.le_refl _)
    rw[gh hu hsz _ _ _ _ _ _ _ _ _ hbs]
    simp
    exact .same h hk (.jZ ad hb) fun k hk=>hxm k hk
 ·exact hk.elim
theorem oD {a:Nat} {A:Prop} (h:cond (Nat.ble 1 a) A False):a≠0/\A:=by
 cases e:Nat.ble 1 a with
 |false=>rw[e]at h;exact h.elim
 |true=>rw[e]at h;exact⟨by have:=Nat.le_of_ble_eq_true e;omega,h⟩
theorem z6 {t:TypeId} {fields:Array Field} {f:Nat} {fl:Field} (hu:P.underlying t=some (.struct fields)) (hf:fields[f]?=some fl) {sz:Nat} (hs:∀w,(sizeOf fl.type).run P w= .ok sz w) (h0:sz≠0) (b off:Nat) (w:World):
  (Instr.fieldAt t (.pointer (some ⟨b,off,none⟩)) f).run P w= .ok (.pointer (some ⟨b,off+fl.offset,none⟩)) w:=by
 simp[Instr.fieldAt,run_underlying hu,hf,Instr.sureAddr,fieldPlace,Addr.add_lit,hs,h0]
theorem uS (hΓ:gW P Γ) (hW:∀x K,W x K->K (cL s x)) (h:cC E n s L a w F β) {t:TypeId} {x:Operand} {f:Nat} (hk:aR Γ P wr W LK L base (.fieldAddr t x f) K):
  Out P E n s L a K ((Instr.fieldAt t (a.eval x) f).run P w):=by
 simp only[aR]at hk
 have hx:=h.ev x
 have hxm:=h.AN x
 have hk:=hW x _ hk
 generalize cL s x=vx at hk hx hxm
 generalize a.eval x=ax at hx
 obtain⟨fields,fl,j,hu,hfl,hj,hk⟩:=tX hΓ hk
 obtain⟨h0,hk⟩:=oD hk
 have hrf:=fun b off=>z6 hu hfl (dG hΓ hj) h0 b off w
 split at hk
 ·cases hx with|aC hb=>
  rw[hrf]
  exact .same h hk (.aC hb) fun k hk=>hxm k hk
 ·cases hx with|dO hb=>
  rw[hrf]
  exact .same h hk (by rw[Nat.add_assoc];exact .dO hb) fun k hk=>hxm k hk
 ·cases hx with|p hx=>cases hx with|f5 _ _ b off vals hb hone hv hr=>
  rw[hrf]
  split at hk
  ·obtain⟨hle,hk⟩:=mJ hk
   refine nK h hk (.f5 _ _ b (off+fl.offset) (fun j=>vals (fl.offset+j)) hb (fun c hc=>hone c (List.mem_of_mem_drop (List.mem_of_mem_take hc))) (fun q c hc=>?_) fun q c hc=>?_)
   ·have hq:q<j.size:=by have:=(List.getElem?_eq_some_iff.1 hc).1;simp[PV.cells]at this;omega
    simp only[PV.cells]at hc
    rw[List.getElem?_take_of_lt hq,List.getElem?_drop]at hc
    rw[Nat.add_assoc];exact hv _ c hc
   ·have hq:q<j.size:=by have:=(List.getElem?_eq_some_iff.1 hc).1;simp[PV.cells]at this;omega
    simp only[PV.cells]at hc
    rw[List.getElem?_take_of_lt hq,List.getElem?_drop]at hc
    exact hr _ c hc
  ·obtain⟨c,hc,hk⟩:=pM hk
   cases ho:c.one with
   |false=>rw[ho]at hk;exact hk.elim
   |true=>
    rw[ho]at hk
    refine nK h hk (.f5 _ c b (off+fl.offset) (fun j=>vals (fl.offset+j)) hb (fun c' hc'=>?_) (fun q c' hc'=>?_) fun q c' hc'=>?_)
    ·rw[PV.fH ho]at hc';rw[List.mem_singleton.1 hc'];exact ho
    ·rw[PV.fH ho]at hc'
     cases q with
     |zero=>simp at hc';subst hc';exact hv _ c hc
     |succ q=>simp at hc'
    ·rw[PV.fH ho]at hc'
     cases q with
     |zero=>simp at hc';subst hc';exact hr _ c hc
     |succ q=>simp at hc'
 ·exact hk.elim
theorem kr {t:TypeId} (hΓ:gW P Γ) {i:TI} (hi:Γ t=some i) (cs:Array Value) (off:Nat) (w:World) (hl:off+(if i.d.agg then i.size else 1)<=cs.size):
  (part t cs off).run P w= .ok (if i.d.agg then .agg (cs.extract off (off+i.size))else cs.getD off Go.undef) w:=by
 have ha:=Dt hΓ hi w
 have hs:=dG hΓ hi w
 cases e:i.d.agg with
 |true=>rw[e]at ha;simp[part,ha,hs]
 |false=>
  rw[e]at ha hl
  have:off<cs.size:=by simp at hl;omega
  simp[part,ha,this,Array.getD]
theorem Fy (hΓ:gW P Γ) (hW:∀x K,W x K->K (cL s x)) (h:cC E n s L a w F β) {t:TypeId} {x:Operand} {f:Nat} (hk:aR Γ P wr W LK L base (.field t x f) K):
  Out P E n s L a K ((Instr.field t (a.eval x) f).run P w):=by
 simp only[aR]at hk
 have hx:=h.ev x
 have hxm:=h.AN x
 have hk:=hW x _ hk
 generalize cL s x=vx at hk hx hxm
 generalize a.eval x=ax at hx
 obtain⟨fields,fl,j,hu,hfl,hj,hk⟩:=tX hΓ hk
 have ex:∀(vs:Array Value) (o sz q:Nat),o+sz<=vs.size->q<sz->(vs.extract o (o+sz))[q]?=vs[o+q]?:=by
  intro vs o sz q h1 h2
  rw[Array.getElem?_extract,if_pos qO]
 split at hk
 ·rename_i cs
  cases hx with|p hx=>cases hx with|agg _ vs hone hl hr=>
  split at hk
  ·rename_i ha
   obtain⟨hle,hk⟩:=mJ hk
   have hp:=kr hΓ hj vs fl.offset w (by rw[ha];simp;omega)
   have hrun:(Instr.field t (.agg vs) f).run P w= .ok (.agg (vs.extract fl.offset (fl.offset+j.size))) w:=by
    simp[Instr.field,run_underlying hu,hfl,asAgg,hp,ha]
   rw[hrun]
   refine nK h hk (.agg _ _ (fun c hc=>hone c (List.mem_of_mem_drop (List.mem_of_mem_take hc))) (by simp;omega) fun q c v e1 e2=>?_)
   have hq:q<j.size:=by have:=(List.getElem?_eq_some_iff.1 e1).1;simp at this;omega
   rw[List.getElem?_take_of_lt hq,List.getElem?_drop]at e1
   rw[ex vs _ _ _ qO hq]at e2
   exact hr _ c v e1 e2
  ·rename_i ha
   obtain⟨c,hc,hk⟩:=pM hk
   have hlt:fl.offset<vs.size:=by rw[hl];exact(List.getElem?_eq_some_iff.1 hc).1
   have hp:=kr hΓ hj vs fl.offset w (by rw[ha];simp;omega)
   have hrun:(Instr.field t (.agg vs) f).run P w= .ok (vs.getD fl.offset Go.undef) w:=by
    simp[Instr.field,run_underlying hu,hfl,asAgg,hp,ha]
   rw[hrun]
   exact nK h hk (hr _ c _ hc (by simp[Array.getD,hlt]))
 ·rename_i cs
  cases hx with|agg _ vs hone hl hr=>
  split at hk
  ·rename_i ha
   have hle:=tn hk
   have hk:=wy hk (.inl hle)
   obtain⟨r,hk,hrr,hrm⟩:=tK hk
   have hp:=kr hΓ hj vs fl.offset w (by rw[ha];simp;omega)
   have hrun:(Instr.field t (.agg vs) f).run P w= .ok (.agg (vs.extract fl.offset (fl.offset+j.size))) w:=by
    simp[Instr.field,run_underlying hu,hfl,asAgg,hp,ha]
   rw[hrun]
   refine .same h hk (hrr _ _ _ _ (fun c hc=>hone c (List.mem_of_mem_drop (List.mem_of_mem_take hc))) (by simp;omega) fun q c v e1 e2=>?_) fun k hk=>hxm k (by simp only[AV.aT];exact zT (fun c hc=>List.mem_of_mem_drop (List.mem_of_mem_take hc)) (hrm k hk))
   have hq:q<j.size:=by have:=(List.getElem?_eq_some_iff.1 e1).1;simp at this;omega
   rw[List.getElem?_take_of_lt hq,List.getElem?_drop]at e1
   rw[ex vs _ _ _ qO hq]at e2
   exact hr _ c v e1 e2
  ·rename_i ha
   obtain⟨c,hc,hk⟩:=xN hk
   have hlt:fl.offset<vs.size:=by rw[hl];exact(List.getElem?_eq_some_iff.1 hc).1
   have hp:=kr hΓ hj vs fl.offset w (by rw[ha];simp;omega)
   have hrun:(Instr.field t (.agg vs) f).run P w= .ok (vs.getD fl.offset Go.undef) w:=by
    simp[Instr.field,run_underlying hu,hfl,asAgg,hp,ha]
   rw[hrun]
   exact .same h hk (hr _ c _ hc (by simp[Array.getD,hlt])) fun k hk=>hxm k (by simp only[AV.aT];exact AV.bj (List.mem_of_getElem? hc) hk)
 ·exact hk.elim
theorem q8 {t e:TypeId} (hu:P.underlying t=some (.slice e)) {sz:Nat} {w:World} (hs:(sizeOf e).run P w= .ok sz w) (b off len cap:Nat) (k:IntKind) (i:Nat) (hi:i<len):
  (Instr.indexAt t (.slice (some ⟨b,off,none⟩) len cap) (.int k i)).run P w= .ok (.pointer (some ⟨b,off+i*sz,none⟩)) w:=by
 simp[Instr.indexAt,run_underlying hu,hs,asIntOf,hi,Addr.add_lit]
theorem pP {t e:TypeId} {len:Nat} (hu:P.underlying t=some (.array len e)) {sz:Nat} {w:World} (hs:(sizeOf e).run P w= .ok sz w) (b off:Nat) (k:IntKind) (i:Nat) (hi:i<len):
  (Instr.indexAt t (.pointer (some ⟨b,off,none⟩)) (.int k i)).run P w= .ok (.pointer (some ⟨b,off+i*sz,none⟩)) w:=by
 simp[Instr.indexAt,run_underlying hu,hs,asIntOf,hi,Addr.add_lit,Instr.sureAddr]
theorem CZ (hΓ:gW P Γ) {t:TypeId} {K:Nat->TI->Prop} (h:J9 Γ t K):∃len e i,P.underlying t=some (.array len e)/\Γ e=some i/\K len i:=by
 unfold J9 at h
 split at h
 ·rename_i i hi
  split at h
  ·rename_i len e he
   split at h
   ·rename_i j hj
    have hd:=(hΓ t i hi).desc
    rw[he]at hd
    exact⟨len,e,j,hd,hj,h⟩
   ·exact h.elim
  ·exact h.elim
 ·exact h.elim
theorem u7 (hΓ:gW P Γ) (hW:∀x K,W x K->K (cL s x)) (h:cC E n s L a w F β) {t:TypeId} {x y:Operand} (hk:aR Γ P wr W LK L base (.indexAddr t x y) K):
  Out P E n s L a K ((Instr.indexAt t (a.eval x) (a.eval y)).run P w):=by
 simp only[aR]at hk
 have hx:=h.ev x
 have hxm:=h.AN x
 have hy:=h.ev y
 have hk:=hW y _ (hW x _ hk)
 generalize cL s x=vx at hk hx hxm
 generalize cL s y=vy at hk hy
 generalize a.eval x=ax at hx
 generalize a.eval y=ay at hy
 unfold tE at hk
 split at hk
 ·obtain rfl:=hy.intOf
  split at hk
  ·rename_i m Wd es
   obtain⟨e,i,hu,hie,hk⟩:=fw hΓ hk
   obtain⟨hWd,hK⟩:=d9 hk
   subst hWd
   obtain⟨j,e',hj,he,hK⟩:=hK
   subst hj
   have hlt:=(List.getElem?_eq_some_iff.1 he).1
   cases hx with|p hx=>
   cases hx with
   |nil=>simp at hlt
   |sl _ _ _ b off cap vals hc hb hW' hone hv hr=>
    rw[q8 hu (dG hΓ hie w) _ _ _ _ _ _ hlt]
    exact nK h hK (.f5 m e' b _ (fun q=>vals j q) (hb (by intro e;rw[e]at hlt;simp at hlt)) (hone e' (List.mem_of_getElem? he)) (fun q c hc=>hv j e' q c he hc) fun q c hc=>hr j e' q c he hc)
  ·obtain⟨e,i,hu,hie,hk⟩:=fw hΓ hk
   obtain⟨hWd,hK⟩:=d9 hk
   subst hWd
   obtain⟨j,hj,hlt,hK⟩:=hK
   subst hj
   cases hx with
   |vec hb hc hm ho=>
    rw[q8 hu (dG hΓ hie w) _ _ _ _ _ _ hlt]
    exact .same h hK (by rw[ho qO,<-Nat.add_mul,Nat.add_comm];exact .dO (off:=0) hb) fun k hk=>hxm k hk
   |jZ=>omega
  ·obtain⟨len,e,i,hu,hie,hk⟩:=CZ hΓ hk
   obtain⟨h0,hk⟩:=oD hk
   obtain⟨j,hj,hlt,hK⟩:=hk
   subst hj
   cases hx with
   |aC hb=>
    rw[pP hu (dG hΓ hie w) _ _ _ _ hlt]
    exact .same h hK (.aC hb) fun k hk=>hxm k hk
  ·obtain⟨len,e,i,hu,hie,hk⟩:=CZ hΓ hk
   obtain⟨h0,hk⟩:=oD hk
   obtain⟨j,hj,hlt,hK⟩:=hk
   subst hj
   cases hx with
   |dO hb=>
    rw[pP hu (dG hΓ hie w) _ _ _ _ hlt,Nat.add_assoc]
    exact .same h hK (.dO hb) fun k hk=>hxm k hk
  ·exact hk.elim
 ·exact hk.elim
theorem EV (hΓ:gW P Γ) (hW:∀x K,W x K->K (cL s x)) (h:cC E n s L a w F β) {t:TypeId} {x y:Operand} (hk:aR Γ P wr W LK L base (.index t x y) K):
  Out P E n s L a K ((Instr.index t (a.eval x) (a.eval y)).run P w):=by
 simp only[aR]at hk
 have hx:=h.ev x
 have hy:=h.ev y
 have hk:=hW y _ (hW x _ hk)
 generalize cL s x=vx at hk hx
 generalize cL s y=vy at hk hy
 generalize a.eval x=ax at hx
 generalize a.eval y=ay at hy
 unfold Jr at hk
 split at hk
 ·obtain rfl:=hy.intOf
  split at hk
  ·rename_i cs
   split at hk
   ·rename_i i hi
    split at hk
    ·rename_i len e hd
     have hu:P.underlying t=some (.array len e):=by have:=(hΓ t _ hi).desc;rw[hd]at this;exact this
     split at hk
     ·rename_i j hj
      cases hb:(Nat.beq j.size 1&&(Nat.beq len cs.length&& !j.d.agg))with
      |false=>rw[hb]at hk;exact hk.elim
      |true=>
       rw[hb]at hk
       simp only[Bool.and_eq_true,Bool.not_eq_true']at hb
       have h1:=Nat.eq_of_beq_eq_true hb.1
       have h2:=Nat.eq_of_beq_eq_true hb.2.1
       have h3:=hb.2.2
       obtain⟨q,c,hq,hc,hk⟩:=hk
       subst hq
       have hlt:=(List.getElem?_eq_some_iff.1 hc).1
       cases hx with|p hx=>cases hx with|agg _ vs hone hl hr=>
       have hp:=kr hΓ hj vs (q*j.size) w (by rw[h3,h1];simp;omega)
       have hrun:∀k,(Instr.index t (.agg vs) (.int k (q:Int))).run P w= .ok (vs.getD q Go.undef) w:=by
        intro k
        have hqv:q<len:=qO
        have hsz:=dG hΓ hj w
        rw[h3,h1,Nat.mul_one]at hp
        simp[Instr.index,run_underlying hu,asIntOf,hqv,hsz,h1,hp]
       rw[hrun]
       exact nK h hk (hr _ c _ hc (by simp[Array.getD,hl,hlt]))
     ·exact hk.elim
    ·exact hk.elim
   ·exact hk.elim
  ·rename_i b
   split at hk
   ·rename_i i hi
    split at hk
    ·rename_i hd
     have hu:P.underlying t=some .string:=by have:=(hΓ t _ hi).desc;rw[hd]at this;exact this
     obtain⟨q,hq,hlt,z,hz,hk⟩:=hk
     subst hq
     cases hx with|p hx=>cases hx with|raw _ _=>
     have hrun:∀k,(Instr.index t (.string b) (.int k (q:Int))).run P w= .ok (.int .u8 z) w:=by
      intro k
      have hg:b[q]?=some (b.data.getD q 0):=by
       rw[getElem?_pos b q hlt]
       have:q<b.data.size:=hlt
       rw[show b.data.getD q 0=b.data[q] by simp only[Array.getD,this,dite_true];rfl]
       rfl
      simp[Instr.index,run_underlying hu,asIntOf,hg,<-hz]
     rw[hrun]
     exact nK h hk (.int _ _)
    ·exact hk.elim
   ·exact hk.elim
  ·exact hk.elim
 ·exact hk.elim
end
end
end Go.Proofs.YtiakeknbdclaoaaGreat
