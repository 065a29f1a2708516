/- FTOwn: what its proof needs, part 1. -/
import Derived.Laws.StructEq
import Derived.ChangeKeysEq
import Derived.Test.YtnilcfiemgmfdaaGreatProg
import Derived.Calls
import Derived.WalkKit
import Derived.Laws.BytesString
import Derived.Lib.AppendZerosOnto
import Derived.MapKept
import Derived.WideKeyRuns
import Derived.Orders
import Derived.KernelRfl
import Derived.Laws.MathBits
import Derived.ProofKit
import Derived.Carry
import Derived.OpenShut
set_option linter.unusedVariables false
set_option linter.unusedSimpArgs false
namespace Go.Proofs.YtnilcfiemgmfdaaGreat
open Go
set_option maxRecDepth 10000
inductive PV where
 |int (k:IntKind) (n:Int)
 |bool (b:Bool)
 |agg (cs:List PV)
 |sl (m:Bool) (W:Nat) (es:List PV)
 |eT (m:Bool) (e:PV)
 |fn (f:FuncId) (caps:List PV)
 |je (f:FuncId) (fs:List PV)
 |mp (m:Bool) (es:List (PV×PV))
 |raw (v:Value)
 deriving Inhabited
def PV.cells:PV->List PV
 | .agg cs=>cs
 |v=>[v]
def PV.one:PV->Bool
 | .agg _=>false
 |_=>true
theorem PV.dG {v:PV} (h:v.one=true):v.cells=[v]:=by
 cases v<;>first|rfl|exact Bool.noConfusion h
inductive PR (w:World) (FB:Bool->Nat->Prop):PV->Value->Prop where
 |int (k:IntKind) (n:Int):PR w FB (.int k n) (.int k n)
 |bool (b:Bool):PR w FB (.bool b) (.bool b)
 |agg (cs:List PV) (vs:Array Value) (hone:∀c∈cs,c.one=true) (hl:vs.size=cs.length) (h:∀(i:Nat) c v,cs[i]?=some c->vs[i]?=some v->PR w FB c v):PR w FB (.agg cs) (.agg vs)
 |nil (m:Bool) (W:Nat) (ad:Option Addr):PR w FB (.sl m W []) (.slice ad 0 0)
 |sl (m:Bool) (W:Nat) (es:List PV) (b off cap:Nat) (vals:Nat->Nat->Value) (hc:es.length<=cap) (hb:es≠[]->FB m b) (hW:∀e∈es,e.cells.length=W) (hone:∀e∈es,∀c∈e.cells,c.one=true)
   (hv:∀(i:Nat) e (j:Nat) c,es[i]?=some e->e.cells[j]?=some c->w.cell? ⟨b,off+i*W+j,none⟩=some (vals i j))
   (hr:∀(i:Nat) e (j:Nat) c,es[i]?=some e->e.cells[j]?=some c->PR w FB c (vals i j)):PR w FB (.sl m W es) (.slice (some ⟨b,off,none⟩) es.length cap)
 |eT (m:Bool) (e:PV) (b off:Nat) (vals:Nat->Value) (hb:FB m b) (hone:∀c∈e.cells,c.one=true) (hv:∀(j:Nat) c,e.cells[j]?=some c->w.cell? ⟨b,off+j,none⟩=some (vals j))
   (hr:∀(j:Nat) c,e.cells[j]?=some c->PR w FB c (vals j)):PR w FB (.eT m e) (.pointer (some ⟨b,off,none⟩))
 |fn (f:FuncId) (caps:List PV) (vs:Array Value) (hl:vs.size=caps.length) (h:∀(i:Nat) c v,caps[i]?=some c->vs[i]?=some v->PR w FB c v):PR w FB (.fn f caps) (.func (.func f) #[] vs)
 |je (f:FuncId) (fs:List PV) (vs:Array Value) (hl:vs.size=fs.length) (h:∀(i:Nat) c v,fs[i]?=some c->vs[i]?=some v->PR w FB c v):PR w FB (.je f fs) (.func (.func f) vs #[])
 |mp (m:Bool) (es es0:List (PV×PV)) (hp:es0.Perm es) (b clock:Nat) (en:Array MapEntry) (hb:FB m b) (hm:w.heap[b]?=some (.map en clock)) (hl:en.size=es0.length)
   (hk:∀(i:Nat) (x:PV×PV) (e:MapEntry),es0[i]?=some x->en[i]?=some e->PR w FB x.1 e.key)
   (hv:∀(i:Nat) (x:PV×PV) (e:MapEntry),es0[i]?=some x->en[i]?=some e->PR w FB x.2 e.val)
   (hbo:∀(i:Nat) (e:MapEntry),en[i]?=some e->e.born<clock) (hd:∀(i j:Nat) (e e':MapEntry),en[i]?=some e->en[j]?=some e'->e.born=e'.born->i=j):PR w FB (.mp m es) (.map (some b))
 |raw (v:Value) (h:v.oneCell'=true):PR w FB (.raw v) v
theorem PR.mono {w w':World} {FB FB':Bool->Nat->Prop} (hF:∀m b,FB m b->FB' m b) (hh:∀m b,FB m b->w'.heap[b]?=w.heap[b]?) {p:PV} {v:Value} (h:PR w FB p v):PR w' FB' p v:=by
 have cell:∀m b o,FB m b->w'.cell? ⟨b,o,none⟩=w.cell? ⟨b,o,none⟩:=fun m b o h=>by simp only[World.cell?,hh m b h]
 induction h with
 |int k n=>exact .int k n
 |bool b=>exact .bool b
 |agg cs vs hone hl _ ih=>exact .agg cs vs hone hl ih
 |nil m W ad=>exact .nil m W ad
 |sl m W es b off cap vals hc hb hW hone hv _ ih=>
  refine .sl m W es b off cap vals hc (fun h=>hF m b (hb h)) hW hone (fun i e j c h1 h2=>?_) ih
  rw[cell m b _ (hb (by intro h;rw[h]at h1;simp at h1))];exact hv i e j c h1 h2
 |eT m e b off vals hb hone hv _ ih=>exact .eT m e b off vals (hF m b hb) hone (fun j c h=>by rw[cell m b _ hb];exact hv j c h) ih
 |fn f caps vs hl _ ih=>exact .fn f caps vs hl ih
 |je f fs vs hl _ ih=>exact .je f fs vs hl ih
 |mp m es es0 hp b clock en hb hm hl _ _ hbo hd ihk ihv=>exact .mp m es es0 hp b clock en (hF m b hb) (by rw[hh m b hb];exact hm) hl ihk ihv hbo hd
 |raw v h=>exact .raw v h
inductive bZ:PV->Prop where
 |int (k n):bZ (.int k n)
 |bool (b):bZ (.bool b)
 |agg (cs:List PV) (h:∀c∈cs,bZ c):bZ (.agg cs)
 |sl (W:Nat) (es:List PV) (h:∀e∈es,∀c∈e.cells,bZ c):bZ (.sl false W es)
 |eT (e:PV) (h:∀c∈e.cells,bZ c):bZ (.eT false e)
 |fn (f caps) (h:∀c∈caps,bZ c):bZ (.fn f caps)
 |je (f fs) (h:∀c∈fs,bZ c):bZ (.je f fs)
 |mp (es:List (PV×PV)) (h:∀e∈es,bZ e.1) (h':∀e∈es,bZ e.2):bZ (.mp false es)
 |raw (v):bZ (.raw v)
def Gb (FB:Bool->Nat->Prop):Bool->Nat->Prop:=fun m b=>m=false/\FB false b
theorem PR.gP {w:World} {FB:Bool->Nat->Prop} {p:PV} (hp:bZ p):∀{v:Value},PR w FB p v->PR w (Gb FB) p v:=by
 induction hp with
 |int k n=>intro v h;cases h;exact .int k n
 |bool b=>intro v h;cases h;exact .bool b
 |agg cs _ ih=>intro v h;cases h with|agg _ vs hone hl h=>exact .agg cs vs hone hl fun i c v h1 h2=>ih c (List.mem_of_getElem? h1) (h i c v h1 h2)
 |sl W es _ ih=>
  intro v h
  cases h with
  |nil=>exact .nil _ _ _
  |sl _ _ _ b off cap vals hc hb hW hone hv hr=>exact .sl _ _ _ b off cap vals hc (fun h=>⟨rfl,hb h⟩) hW hone hv fun i e j c h1 h2=>ih e (List.mem_of_getElem? h1) c (List.mem_of_getElem? h2) (hr i e j c h1 h2)
 |eT e _ ih=>intro v h;cases h with|eT _ _ b off vals hb hone hv hr=>exact .eT _ _ b off vals ⟨rfl,hb⟩ hone hv fun j c h=>ih c (List.mem_of_getElem? h) (hr j c h)
 |fn f caps _ ih=>intro v h;cases h with|fn _ _ vs hl h=>exact .fn f caps vs hl fun i c v h1 h2=>ih c (List.mem_of_getElem? h1) (h i c v h1 h2)
 |je f fs _ ih=>intro v h;cases h with|je _ _ vs hl h=>exact .je f fs vs hl fun i c v h1 h2=>ih c (List.mem_of_getElem? h1) (h i c v h1 h2)
 |mp es _ _ ih1 ih2=>
  intro v h
  cases h with
  |mp _ _ es0 hp b clock en hb hm hl hk hv hbo hd=>exact .mp _ _ es0 hp b clock en ⟨rfl,hb⟩ hm hl (fun i x e h1 h2=>ih1 x (hp.mem_iff.1 (List.mem_of_getElem? h1)) (hk i x e h1 h2)) (fun i x e h1 h2=>ih2 x (hp.mem_iff.1 (List.mem_of_getElem? h1)) (hv i x e h1 h2)) hbo hd
 |raw v=>intro x h;cases h with|raw _ h=>exact .raw v h
inductive Hd where
 |t (n:Nat)
 |r (n k:Nat)
 deriving DecidableEq,Inhabited
instance (n:Nat):OfNat Hd n:=⟨.t n⟩
instance:Coe Nat Hd:=⟨.t⟩
def Hd.key:Hd->Nat
 | .t n=>n
 | .r n _=>n
inductive AV where
 |any
 |undef
 |tf (b:Bool)
 |emp
 |m6 (m:Bool) (W:Nat) (es:List PV)
 |p (v:PV)
 |aF (h:Hd) (off:Nat)
 |c5 (h:Hd) (W i off:Nat)
 |vec (h:Hd) (W off len:Nat)
 |map (h:Hd)
 |agg (cs:List AV)
 |bq (cs:List AV)
 |fn (f:FuncId) (first caps:List AV)
 deriving Inhabited
def AV.one:AV->Bool
 | .p v=>v.one
 | .any| .undef| .agg _| .bq _=>false
 |_=>true
inductive VR (w:World) (FB:Bool->Nat->Prop) (β:Hd->Option Nat×Nat):AV->Value->Prop where
 |any (v:Value):VR w FB β .any v
 |undef:VR w FB β .undef (.tuple #[])
 |tf (b:Bool):VR w FB β (.tf b) (.bool b)
 |jh:VR w FB β .emp (.slice none 0 0)
 |emp (ad:Addr):VR w FB β .emp (.slice (some ad) 0 0)
 |m6 {m:Bool} {W:Nat} {es:List PV} {ad:Option Addr} (h:PR w FB (.sl m W es) (.slice ad es.length es.length)):VR w FB β (.m6 m W es) (.slice ad es.length es.length)
 |p {v:PV} {x:Value} (h:PR w FB v x):VR w FB β (.p v) x
 |aF {h:Hd} {off b:Nat} (hb:(β h).1=some b):VR w FB β (.aF h off) (.pointer (some ⟨b,off,none⟩))
 |c5 {h:Hd} {W i off b:Nat} (hb:(β h).1=some b):VR w FB β (.c5 h W i off) (.pointer (some ⟨b,i*W+off,none⟩))
 |vec {h:Hd} {W off len b o c:Nat} (hb:(β h).1=some b) (hc:len<=c) (hm:off+c<=(β h).2) (ho:c≠0->o=off*W):VR w FB β (.vec h W off len) (.slice (some ⟨b,o,none⟩) len c)
 |ij {h:Hd} {W:Nat} (a:Option Addr) (hb:(β h).1=none):VR w FB β (.vec h W 0 0) (.slice a 0 0)
 |map {h:Hd} {b:Nat} (hb:(β h).1=some b):VR w FB β (.map h) (.map (some b))
 |agg (cs:List AV) (vs:Array Value) (hone:∀c∈cs,c.one=true) (hl:vs.size=cs.length) (h:∀(i:Nat) c v,cs[i]?=some c->vs[i]?=some v->VR w FB β c v):VR w FB β (.agg cs) (.agg vs)
 |bq (cs:List AV) (vs:Array Value) (hl:vs.size=cs.length) (h:∀(i:Nat) c v,cs[i]?=some c->vs[i]?=some v->VR w FB β c v):VR w FB β (.bq cs) (.tuple vs)
 |fn (f:FuncId) (first caps:List AV) (fs vs:Array Value) (hfl:fs.size=first.length) (hf:∀(i:Nat) c v,first[i]?=some c->fs[i]?=some v->VR w FB β c v)
   (hl:vs.size=caps.length) (h:∀(i:Nat) c v,caps[i]?=some c->vs[i]?=some v->VR w FB β c v):VR w FB β (.fn f first caps) (.func (.func f) fs vs)
mutual
def AV.aU:AV->Hd->Prop
 | .aF h _,k| .c5 h _ _ _,k| .vec h _ _ _,k| .map h,k=>h=k
 | .agg cs,k| .bq cs,k=>AV.bo cs k
 | .fn _ first caps,k=>AV.bo first k\/AV.bo caps k
 |_,_=>False
def AV.bo:List AV->Hd->Prop
 |[],_=>False
 |c::cs,k=>c.aU k\/AV.bo cs k
end
theorem AV.bm {cs:List AV} {c:AV} {k:Hd} (h:c∈cs) (hk:c.aU k):AV.bo cs k:=by
 induction cs with
 |nil=>cases h
 |cons x xs ih=>
  simp only[AV.bo]
  cases h with
  |head=>exact .inl hk
  |tail _ h=>exact .inr (ih h)
theorem VR.mono {w w':World} {FB FB':Bool->Nat->Prop} {β β':Hd->Option Nat×Nat} (hF:∀m b,FB m b->FB' m b) (hh:∀m b,FB m b->w'.heap[b]?=w.heap[b]?)
  {p:AV} {v:Value} (h:VR w FB β p v):(∀k,p.aU k->β' k=β k)->VR w' FB' β' p v:=by
 induction h with
 |any v=>exact fun _=>.any v
 |undef=>exact fun _=>.undef
 |tf b=>exact fun _=>.tf b
 |jh=>exact fun _=>.jh
 |emp ad=>exact fun _=>.emp ad
 |m6 h=>exact fun _=>.m6 (h.mono hF hh)
 |p h=>exact fun _=>.p (h.mono hF hh)
 |aF hb=>exact fun H=>.aF (by rw[H _ rfl];exact hb)
 |c5 hb=>exact fun H=>.c5 (by rw[H _ rfl];exact hb)
 | @vec h W off len b o c hb hc hm ho=>intro H;have:=H h rfl;rw[<-this]at hb hm;exact .vec hb hc hm ho
 |ij a hb=>exact fun H=>.ij a (by rw[H _ rfl];exact hb)
 |map hb=>exact fun H=>.map (by rw[H _ rfl];exact hb)
 |agg cs vs hone hl _ ih=>exact fun H=>.agg cs vs hone hl fun i c v h1 h2=>ih i c v h1 h2 fun k hk=>H k (by simp only[AV.aU];exact AV.bm (List.mem_of_getElem? h1) hk)
 |bq cs vs hl _ ih=>exact fun H=>.bq cs vs hl fun i c v h1 h2=>ih i c v h1 h2 fun k hk=>H k (by simp only[AV.aU];exact AV.bm (List.mem_of_getElem? h1) hk)
 |fn f first caps fs vs hfl _ hl _ ih1 ih2=>
  exact fun H=>.fn f first caps fs vs hfl (fun i c v h1 h2=>ih1 i c v h1 h2 fun k hk=>H k (by simp only[AV.aU];exact .inl (AV.bm (List.mem_of_getElem? h1) hk))) hl
   (fun i c v h1 h2=>ih2 i c v h1 h2 fun k hk=>H k (by simp only[AV.aU];exact .inr (AV.bm (List.mem_of_getElem? h1) hk)))
inductive aC where
 |free
 |dead
 |box (T:TypeId) (cs:List AV)
 |vec (T:TypeId) (W:Nat) (es:List PV)
 |map (es:List (PV×PV))
 |rows (T:TypeId) (cs:List AV)
 |bt (T:TypeId) (W:Nat) (rows:List (Option (List PV)))
 |iter (m:Bool) (es:List (PV×PV)) (seen:List Nat)
 deriving Inhabited
def aC.live:aC->Prop
 | .free| .dead| .bt _ _ _=>False
 |_=>True
def aC.aU:aC->Hd->Prop
 | .box _ cs,k=>AV.bo cs k
 | .rows _ cs,k=>AV.bo cs k
 |_,_=>False
def nm (w:World) (FB:Bool->Nat->Prop) (β:Hd->Option Nat×Nat) (h:Hd):aC->Prop
 | .free| .dead| .bt _ _ _=>True
 | .box T cs=>(∀c∈cs,c.one=true)/\∃b arr,(β h).1=some b/\w.heap[b]?=some (.cells arr T (0,0))/\arr.size=cs.length/\∀(i:Nat) c v,cs[i]?=some c->arr[i]?=some v->VR w FB β c v
 | .vec T W es=>(∀e∈es,e.cells.length=W/\∀c∈e.cells,c.one=true)/\es.length<=(β h).2/\(((β h).1=none/\(β h).2=0)\/∃b arr,(β h).1=some b/\w.heap[b]?=some (.cells arr T (0,0))/\arr.size=(β h).2*W/\
   ∀(i:Nat) e (j:Nat) c v,es[i]?=some e->e.cells[j]?=some c->arr[i*W+j]?=some v->PR w FB c v)
 | .map es=>∃b en clock,(β h).1=some b/\w.heap[b]?=some (.map en clock)/\en.size=es.length/\
   (∀(i:Nat) (x:PV×PV) (e:MapEntry),es[i]?=some x->en[i]?=some e->PR w FB x.1 e.key/\PR w FB x.2 e.val)/\
   (∀(i:Nat) (e:MapEntry),en[i]?=some e->e.born<clock)/\(∀(i j:Nat) (e e':MapEntry),en[i]?=some e->en[j]?=some e'->e.born=e'.born->i=j)
 | .rows T cs=>(∀c∈cs,c.one=true)/\cs.length<=(β h).2/\(((β h).1=none/\(β h).2=0)\/∃b arr,(β h).1=some b/\w.heap[b]?=some (.cells arr T (0,0))/\arr.size=(β h).2/\∀(i:Nat) c v,cs[i]?=some c->arr[i]?=some v->VR w FB β c v)
 | .iter m es seen=>∃b mb en clock sb,(β h).1=some b/\w.heap[b]?=some (.mapIter (some mb) clock sb clock)/\FB m mb/\w.heap[mb]?=some (.map en clock)/\en.size=es.length/\
   (∀(i:Nat) (x:PV×PV) (e:MapEntry),es[i]?=some x->en[i]?=some e->PR w FB x.1 e.key/\PR w FB x.2 e.val)/\
   (∀(i:Nat) (e:MapEntry),en[i]?=some e->e.born<clock)/\(∀(i j:Nat) (e e':MapEntry),en[i]?=some e->en[j]?=some e'->e.born=e'.born->i=j)/\
   (∀(i:Nat) (e:MapEntry),en[i]?=some e->(sb.contains e.born=true↔i∈seen))/\(∀j,seen.getLast?=some j->∃e,en[j]?=some e/\sb.back?=some e.born)
theorem nm.mono {w w':World} {FB FB':Bool->Nat->Prop} {β β':Hd->Option Nat×Nat} (hF:∀m b,FB m b->FB' m b) (hh:∀m b,FB m b->w'.heap[b]?=w.heap[b]?)
  {h:Hd} {B:aC} (ho:nm w FB β h B) (hβ:B.live->β' h=β h) (hm:∀k,B.aU k->β' k=β k) (hb:B.live->∀b,(β h).1=some b->w'.heap[b]?=w.heap[b]?):nm w' FB' β' h B:=by
 cases B with
 |free=>trivial
 |dead=>trivial
 |bt T W rows=>trivial
 |box T cs=>
  obtain⟨h0,b,arr,h1,h2,h3,h4⟩:=ho
  exact⟨h0,b,arr,by rw[hβ trivial];exact h1,by rw[hb trivial b h1];exact h2,h3,fun i c v e1 e2=>(h4 i c v e1 e2).mono hF hh fun k hk=>hm k (AV.bm (List.mem_of_getElem? e1) hk)⟩
 |vec T W es=>
  obtain⟨h1,h2,h3⟩:=ho
  have e:=hβ trivial
  refine⟨h1,by rw[e];exact h2,?_⟩
  rcases h3 with h3|⟨b,arr,g1,g2,g3,g4⟩
  ·exact .inl (by rw[e];exact h3)
  ·exact .inr ⟨b,arr,by rw[e];exact g1,by rw[hb trivial b g1];exact g2,by rw[e];exact g3,fun i e j c v e1 e2 e3=>(g4 i e j c v e1 e2 e3).mono hF hh⟩
 |map es=>
  obtain⟨b,en,clock,h1,h2,h3,h4,h5,h6⟩:=ho
  exact⟨b,en,clock,by rw[hβ trivial];exact h1,by rw[hb trivial b h1];exact h2,h3,fun i x e e1 e2=>⟨(h4 i x e e1 e2).1.mono hF hh,(h4 i x e e1 e2).2.mono hF hh⟩,h5,h6⟩
 |rows T cs=>
  obtain⟨h1,h2,h3⟩:=ho
  have e:=hβ trivial
  refine⟨h1,by rw[e];exact h2,?_⟩
  rcases h3 with h3|⟨b,arr,g1,g2,g3,g4⟩
  ·exact .inl (by rw[e];exact h3)
  ·exact .inr ⟨b,arr,by rw[e];exact g1,by rw[hb trivial b g1];exact g2,by rw[e];exact g3,fun i c v e1 e2=>(g4 i c v e1 e2).mono hF hh fun k hk=>hm k (AV.bm (List.mem_of_getElem? e1) hk)⟩
 |iter m es seen=>
  obtain⟨b,mb,en,clock,sb,h1,h2,h3,h4,h5,h6,h7,h8,h9,h10⟩:=ho
  exact⟨b,mb,en,clock,sb,by rw[hβ trivial];exact h1,by rw[hb trivial b h1];exact h2,hF m mb h3,by rw[hh m mb h3];exact h4,h5,fun i x e e1 e2=>⟨(h6 i x e e1 e2).1.mono hF hh,(h6 i x e e1 e2).2.mono hF hh⟩,h7,h8,h9,h10⟩
structure Env where
 w0:World
 mz:Nat->Prop
 bM:Nat->Prop
 F0:Nat->Prop
 In:Hd->Prop
 β0:Hd->Option Nat×Nat
def aQ (B F:Nat->Prop):Bool->Nat->Prop
 |true=>B
 |false=>F
structure b7 (E:Env) (n:Nat) (s:Nat->AV) (L:Hd->aC) (a:Act) (w:World) (F:Nat->Prop) (β:Hd->Option Nat×Nat):Prop where
 os:w.os=E.w0.os
 tape:w.tape=E.w0.tape
 output:w.output=E.w0.output
 size:E.w0.heap.size<=w.heap.size
 ml:∀b,E.mz b->w.heap[b]?=E.w0.heap[b]?
 f5:∀b,E.mz b->b<E.w0.heap.size
 uO:∀b,E.bM b->E.mz b
 kd:∀b,F b->b<w.heap.size
 fold:∀b,F b->b<E.w0.heap.size->E.F0 b
 own:∀h b,(L h).live->(β h).1=some b->¬F b/\¬E.mz b/\b<w.heap.size
 kc:∀h h' b,(L h).live->(L h').live->(β h).1=some b->(β h').1=some b->h=h'
 len:a.tmps.size=n
 fU:∀t,VR w (aQ E.bM F) β (s t) (a.tmps.getD t Go.undef)
 df:∀h,nm w (aQ E.bM F) β h (L h)
 ms:∀t h,(s t).aU h->L h≠ .free
 mb:∀k h,(L k).aU h->L h≠ .free
 defers:a.defers=[]
 bin:∀i,E.In i->β i=E.β0 i/\L i≠ .free
 Ei:∀b,E.F0 b->F b
def St (E:Env) (n:Nat) (s:Nat->AV) (L:Hd->aC) (a:Act) (w:World):Prop:=∃F β,b7 E n s L a w F β
def bz {ι α:Type} [DecidableEq ι] (f:ι->α) (t:ι) (v:α):ι->α:=fun i=>if i=t then v else f i
theorem aA {ι α:Type} [DecidableEq ι] (f:ι->α) (t:ι) (v:α):bz f t v t=v:=if_pos rfl
theorem aD {ι α:Type} [DecidableEq ι] (f:ι->α) {t i:ι} (v:α) (h:i≠t):bz f t v i=f i:=if_neg h
theorem St.xb {s:Nat->AV} {L:Hd->aC} (h:∀t k,(s t).aU k->L k≠ .free) {d:Nat} {v:AV} (hv:∀k,v.aU k->L k≠ .free):∀t k,(bz s d v t).aU k->L k≠ .free:=by
 intro t k hk
 unfold bz at hk
 split at hk
 ·exact hv k hk
 ·exact h t k hk
theorem pO (xs:Array Value) (d:Nat) (x u:Value) (h:d<xs.size):(xs.setIfInBounds d x).getD d u=x:=by
 simp[Array.getD,h]
theorem oE (xs:Array Value) (d t:Nat) (x u:Value) (h:t≠d):(xs.setIfInBounds d x).getD t u=xs.getD t u:=by
 simp only[Array.getD,Array.size_setIfInBounds,Array.getInternal_eq_getElem]
 split
 ·exact Array.getElem_setIfInBounds_ne (by assumption) (by omega)
 ·rfl
theorem b7.put {E:Env} {n:Nat} {s:Nat->AV} {L:Hd->aC} {a:Act} {w:World} {F:Nat->Prop} {β:Hd->Option Nat×Nat} (h:b7 E n s L a w F β)
  {d:Nat} (hd:d<n) {v:AV} {x:Value} (hv:VR w (aQ E.bM F) β v x) (hm:∀k,v.aU k->L k≠ .free):b7 E n (bz s d v) L (a.put (some d) x) w F β:=
 {h with
  len:=by simp[Act.put,h.len]
  fU:=by
   intro t
   unfold bz Act.put
   by_cases e:t=d
   ·subst e;simp only[if_true];rw[pO _ _ _ _ (by rw[h.len];exact hd)];exact hv
   ·rw[if_neg e];simp only[];rw[oE _ _ _ _ _ e];exact h.fU t
  ms:=St.xb h.ms hm
  defers:=h.defers}
theorem b7.step {E:Env} {n:Nat} {s:Nat->AV} {L L':Hd->aC} {a:Act} {w w':World} {F F':Nat->Prop} {β β':Hd->Option Nat×Nat} (h:b7 E n s L a w F β)
  (hos:w'.os=w.os) (htape:w'.tape=w.tape) (hout:w'.output=w.output) (hsz:w.heap.size<=w'.heap.size)
  (hF:∀b,F b->F' b) (hFlt:∀b,F' b->b<w'.heap.size) (hfold:∀b,F' b->b<E.w0.heap.size->E.F0 b)
  (hkeep:∀b,E.mz b->w'.heap[b]?=w.heap[b]?) (hsame:∀b,F b->w'.heap[b]?=w.heap[b]?)
  (hβ:∀k,L k≠ .free->β' k=β k) (hLf:∀k,L k≠ .free->L' k≠ .free)
  (hblk:∀k,(L' k=L k/\((L k).live->∀b,(β k).1=some b->w'.heap[b]?=w.heap[b]?))\/(nm w' (aQ E.bM F') β' k (L' k)/\∀j,(L' k).aU j->L' j≠ .free))
  (hown:∀k b,(L' k).live->(β' k).1=some b->¬F' b/\¬E.mz b/\b<w'.heap.size)
  (hdis:∀k k' b,(L' k).live->(L' k').live->(β' k).1=some b->(β' k').1=some b->k=k'):b7 E n s L' a w' F' β':=by
 have hFB:∀m b,aQ E.bM F m b->aQ E.bM F' m b:=by intro m b;cases m;exact hF b;exact id
 have hFs:∀m b,aQ E.bM F m b->w'.heap[b]?=w.heap[b]?:=by intro m b hb;cases m;exact hsame b hb;exact hkeep b (h.uO b hb)
 exact{
  os:=hos.trans h.os,tape:=htape.trans h.tape,output:=hout.trans h.output,size:=Nat.le_trans h.size hsz
  ml:=fun b hb=>(hkeep b hb).trans (h.ml b hb),f5:=h.f5,uO:=h.uO,kd:=hFlt,fold:=hfold,own:=hown,kc:=hdis,len:=h.len
  fU:=fun t=>(h.fU t).mono hFB hFs fun k hk=>hβ k (h.ms t k hk)
  df:=by
   intro k
   rcases hblk k with⟨e,hb⟩|⟨ho,_⟩
   ·rw[e]
    refine(h.df k).mono hFB hFs (fun hl=>hβ k (by intro e';rw[e']at hl;exact hl)) (fun j hj=>hβ j (h.mb k j hj)) hb
   ·exact ho
  ms:=fun t k hk=>hLf k (h.ms t k hk)
  mb:=by
   intro k j hj
   rcases hblk k with⟨e,_⟩|⟨_,hm⟩
   ·rw[e]at hj;exact hLf j (h.mb k j hj)
   ·exact hm j hj
  defers:=h.defers
  bin:=fun i hi=>⟨(hβ i (h.bin i hi).2).trans (h.bin i hi).1,hLf i (h.bin i hi).2⟩
  Ei:=fun b hb=>hF b (h.Ei b hb)}
theorem PR.dW {w FB} {p:PV} {v:Value} (h:PR w FB p v) (hp:p.one=true):v.oneCell'=true:=by
 cases h<;>first|rfl|assumption|exact Bool.noConfusion hp
theorem VR.dW {w FB β} {p:AV} {v:Value} (h:VR w FB β p v) (hp:p.one=true):v.oneCell'=true:=by
 cases h<;>first|rfl|(rename_i h;exact h.dW hp)|exact Bool.noConfusion hp
theorem fJ {v:Value} (h:v.oneCell'=true):v.cells= #[v]:=by
 cases v<;>first|rfl|exact Bool.noConfusion h
theorem aC.bQ {B:aC} (h:B.live):B≠ .free:=by intro e;rw[e]at h;exact h
theorem b7.still {E:Env} {n:Nat} {s:Nat->AV} {L:Hd->aC} {a:Act} {w w':World} {F:Nat->Prop} {β:Hd->Option Nat×Nat} (h:b7 E n s L a w F β)
  (hos:w'.os=w.os) (htape:w'.tape=w.tape) (hout:w'.output=w.output) (hh:w'.heap=w.heap):b7 E n s L a w' F β:=
 h.step hos htape hout (by rw[hh];exact Nat.le_refl _) (fun _=>id) (by rw[hh];exact h.kd) h.fold (fun _ _=>by rw[hh]) (fun _ _=>by rw[hh]) (fun _ _=>rfl) (fun _=>id)
  (fun _=>.inl ⟨rfl,fun _ _ _=>by rw[hh]⟩) (by rw[hh];exact h.own) h.kc
theorem b7.push {E:Env} {n:Nat} {s:Nat->AV} {L:Hd->aC} {a:Act} {w w':World} {F:Nat->Prop} {β:Hd->Option Nat×Nat} (h:b7 E n s L a w F β) (o:Obj)
  (hos:w'.os=w.os) (htape:w'.tape=w.tape) (hout:w'.output=w.output) (hh:w'.heap=w.heap.push o):b7 E n s L a w' F β:=by
 have key:∀b,b<w.heap.size->w'.heap[b]?=w.heap[b]?:=fun b hb=>by rw[hh,Array.getElem?_push,if_neg (by omega)]
 have hs:w'.heap.size=w.heap.size+1:=by rw[hh];simp
 have kl:∀b,E.mz b->b<w.heap.size:=fun b hb=>Nat.lt_of_lt_of_le (h.f5 b hb) h.size
 refine h.step hos htape hout (by omega) (fun _=>id) (fun b hb=>by have:=h.kd b hb;omega) h.fold (fun b hb=>key b (kl b hb)) (fun b hb=>key b (h.kd b hb)) (fun _ _=>rfl) (fun _=>id)
  (fun k=>.inl ⟨rfl,fun hl b hb=>key b (h.own k b hl hb).2.2⟩) (fun k b h1 h2=>?_) h.kc
 have:=h.own k b h1 h2
 exact⟨this.1,this.2.1,by omega⟩
theorem b7.alloc {E:Env} {n:Nat} {s:Nat->AV} {L:Hd->aC} {a:Act} {w w':World} {F:Nat->Prop} {β:Hd->Option Nat×Nat} (h:b7 E n s L a w F β) (o:Obj) (B:aC) (nh:Hd) (cap:Nat)
  (hos:w'.os=w.os) (htape:w'.tape=w.tape) (hout:w'.output=w.output) (hh:w'.heap=w.heap.push o) (hfree:L nh= .free)
  (hO:nm w' (aQ E.bM F) (bz β nh (some w.heap.size,cap)) nh B) (hlive:B.live) (hmen:∀j,B.aU j->L j≠ .free):
  b7 E n s (bz L nh B) a w' F (bz β nh (some w.heap.size,cap)):=by
 have key:∀b,b<w.heap.size->w'.heap[b]?=w.heap[b]?:=fun b hb=>by rw[hh,Array.getElem?_push,if_neg (by omega)]
 have hs:w'.heap.size=w.heap.size+1:=by rw[hh];simp
 have kl:∀b,E.mz b->b<w.heap.size:=fun b hb=>Nat.lt_of_lt_of_le (h.f5 b hb) h.size
 have ne:∀k,L k≠ .free->k≠nh:=fun k hk e=>hk (e▸hfree)
 have oldlt:∀k b,(L k).live->(β k).1=some b->b<w.heap.size:=fun k b h1 h2=>(h.own k b h1 h2).2.2
 refine h.step hos htape hout (by omega) (fun _=>id) (fun b hb=>by have:=h.kd b hb;omega) h.fold (fun b hb=>key b (kl b hb)) (fun b hb=>key b (h.kd b hb))
  (fun k hk=>aD _ _ (ne k hk)) (fun k hk=>by rw[aD _ _ (ne k hk)];exact hk) (fun k=>?_) (fun k b h1 h2=>?_) (fun k k' b h1 h2 h3 h4=>?_)
 ·by_cases e:k=nh
  ·subst e;rw[aA]
   refine .inr ⟨hO,fun j hj=>?_⟩
   by_cases e':j=k
   ·subst e';rw[aA];exact aC.bQ hlive
   ·rw[aD _ _ e'];exact hmen j hj
  ·rw[aD _ _ e];exact .inl ⟨rfl,fun hl b hb=>key b (oldlt k b hl hb)⟩
 ·by_cases e:k=nh
  ·subst e;rw[aA]at h2;simp only[Option.some.injEq]at h2;subst h2
   exact⟨fun hb=>by have:=h.kd _ hb;omega,fun hb=>by have:=kl _ hb;omega,by omega⟩
  ·rw[aD _ _ e]at h1 h2
   have:=h.own k b h1 h2
   exact⟨this.1,this.2.1,by omega⟩
 ·by_cases e:k=nh<;>by_cases e':k'=nh
  ·rw[e,e']
  ·subst e;rw[aA]at h3;rw[aD _ _ e']at h2 h4;simp only[Option.some.injEq]at h3;subst h3;have:=oldlt k' _ h2 h4;omega
  ·subst e';rw[aA]at h4;rw[aD _ _ e]at h1 h3;simp only[Option.some.injEq]at h4;subst h4;have:=oldlt k _ h1 h3;omega
  ·rw[aD _ _ e]at h1 h3;rw[aD _ _ e']at h2 h4;exact h.kc k k' b h1 h2 h3 h4
theorem b7.write {E:Env} {n:Nat} {s:Nat->AV} {L:Hd->aC} {a:Act} {w w':World} {F:Nat->Prop} {β:Hd->Option Nat×Nat} (h:b7 E n s L a w F β) (B:aC) (hd:Hd) {bk:Nat}
  (hos:w'.os=w.os) (htape:w'.tape=w.tape) (hout:w'.output=w.output) (hsz:w'.heap.size=w.heap.size) (hb:(β hd).1=some bk) (hh:∀b,b≠bk->w'.heap[b]?=w.heap[b]?)
  (hl0:(L hd).live) (hO:nm w' (aQ E.bM F) β hd B) (hlive:B.live) (hmen:∀j,B.aU j->L j≠ .free):b7 E n s (bz L hd B) a w' F β:=by
 have own:=h.own hd bk hl0 hb
 have hL:∀k,(bz L hd B k).live->(L k).live:=by
  intro k hk
  by_cases e:k=hd
  ·subst e;exact hl0
  ·rwa[aD _ _ e]at hk
 refine h.step hos htape hout (by omega) (fun _=>id) (fun b hb=>by have:=h.kd b hb;omega) h.fold (fun b hb=>hh b (fun e=>own.2.1 (e▸hb))) (fun b hb=>hh b (fun e=>own.1 (e▸hb))) (fun _ _=>rfl)
  (fun k hk=>?_) (fun k=>?_) (fun k b h1 h2=>?_) (fun k k' b h1 h2 h3 h4=>h.kc k k' b (hL k h1) (hL k' h2) h3 h4)
 ·by_cases e:k=hd
  ·subst e;rw[aA];exact aC.bQ hlive
  ·rw[aD _ _ e];exact hk
 ·by_cases e:k=hd
  ·subst e;rw[aA]
   refine .inr ⟨hO,fun j hj=>?_⟩
   by_cases e':j=k
   ·subst e';rw[aA];exact aC.bQ hlive
   ·rw[aD _ _ e'];exact hmen j hj
  ·rw[aD _ _ e];exact .inl ⟨rfl,fun hl b hb=>hh b (fun e'=>e (h.kc k hd b hl hl0 hb (e'▸‹(β hd).1=some bk›)))⟩
 ·have:=h.own k b (hL k h1) h2
  exact⟨this.1,this.2.1,by omega⟩
theorem b7.kill {E:Env} {n:Nat} {s:Nat->AV} {L:Hd->aC} {a:Act} {w:World} {F:Nat->Prop} {β:Hd->Option Nat×Nat} (h:b7 E n s L a w F β) (hd:Hd):b7 E n s (bz L hd .dead) a w F β:=by
 have hL:∀k,(bz L hd .dead k).live->(L k).live/\k≠hd:=by
  intro k hk
  by_cases e:k=hd
  ·subst e;rw[aA]at hk;exact hk.elim
  ·rw[aD _ _ e]at hk;exact⟨hk,e⟩
 refine h.step rfl rfl rfl (Nat.le_refl _) (fun _=>id) h.kd h.fold (fun _ _=>rfl) (fun _ _=>rfl) (fun _ _=>rfl) (fun k hk=>?_) (fun k=>?_) (fun k b h1 h2=>h.own k b (hL k h1).1 h2)
  (fun k k' b h1 h2 h3 h4=>h.kc k k' b (hL k h1).1 (hL k' h2).1 h3 h4)
 ·by_cases e:k=hd
  ·subst e;rw[aA];exact fun e=>by cases e
  ·rw[aD _ _ e];exact hk
 ·by_cases e:k=hd
  ·subst e;rw[aA];exact .inr ⟨trivial,fun j hj=>hj.elim⟩
  ·rw[aD _ _ e];exact .inl ⟨rfl,fun _ _ _=>rfl⟩
section
inductive Ty where
 |int (k:IntKind)
 |bool
 |slice (e:TypeId)
 |struct (fs:List (Nat×TypeId))
 |array (n:Nat) (e:TypeId)
 |map (k e:TypeId)
 |string
 |other
structure TI where
 d:Ty
 size:Nat
 bytes:Nat
 zero:List PV
 eq:Bool:=false
def Ty.agg:Ty->Bool
 | .struct _| .array _ _=>true
 |_=>false
def Cq (P:Program) (t:TypeId):Ty->Prop
 | .int k=>P.underlying t=some (.int k)
 | .bool=>P.underlying t=some .bool
 | .slice e=>P.underlying t=some (.slice e)
 | .struct fs=>∃fields:Array Field,P.underlying t=some (.struct fields)/\fields.toList.map (fun f=>(f.offset,f.type))=fs
 | .array n e=>P.underlying t=some (.array n e)
 | .map k e=>P.underlying t=some (.map k e)
 | .string=>P.underlying t=some .string
 | .other=>∃d,P.underlying t=some d/\(match d with| .struct _| .array _ _=>False|_=>True)
inductive AE:List Value->List Value->Bool->Prop
 |nil:AE [] [] true
 |int {k a b xs ys r} (h:AE xs ys r):AE (.int k a::xs) (.int k b::ys) ((a==b)&&r)
 |bool {a b xs ys r} (h:AE xs ys r):AE (.bool a::xs) (.bool b::ys) ((a==b)&&r)
inductive fT:List PV->List Value->Prop
 |nil:fT [] []
 |int {k z a zs vs} (h:fT zs vs):fT (.int k z::zs) (.int k a::vs)
 |bool {z a zs vs} (h:fT zs vs):fT (.bool z::zs) (.bool a::vs)
def jE:List PV->List PV->Bool
 |[],[]=>true
 | .int k _::zs,.int k' _::xs=>decide (k=k')&&jE zs xs
 | .bool _::zs,.bool _::xs=>jE zs xs
 |_,_=>false
structure ed (P:Program) (t:TypeId) (i:TI):Prop where
 desc:Cq P t i.d
 info:∃info z,P.info? t=some info/\info.size=i.size/\info.bytes=i.bytes/\info.zero=some z/\z.cells.size=i.size/\i.zero.length=i.size/\
  (∀w FB (j:Nat) c v,i.zero[j]?=some c->z.cells[j]?=some v->PR w FB c v)
 plain:∀c∈i.zero,c.one=true
 eqs:i.eq=true->P.eqGuardType P.depth t=false/\∀w xs ys r,AE xs ys r->fT i.zero xs->(Op.equal t (.agg xs.toArray) (.agg ys.toArray)).run P w= .ok r w
 keys:i.eq=true->∀w b xs,fT i.zero xs->(Instr.checkKey b 10000 t (.agg xs.toArray)).run P w= .ok () w
 EX:∀info z,P.info? t=some info->info.zero=some z->(i.d.agg=true->∃arr,z= .agg arr)/\(i.d.agg=false->z.cells= #[z])
 Fc:∀info z e,P.info? t=some info->info.zero=some z->i.d= .slice e->z= .slice none 0 0
abbrev kU:=TypeId->Option TI
def fk (P:Program) (Γ:kU):Prop:=∀t i,Γ t=some i->ed P t i
def aC.top:aC->aC
 | .bt _ _ _=>.dead
 |B=>B
def aC.row:aC->Nat->aC
 | .bt T W rs,k=>match rs[k]? with
  |some (some es)=>.vec T W es
  |some none=>.dead
  |none=>.free
 |_,_=>.free
def look (H:List aC):Hd->aC
 | .t n=>(H.getD n .free).top
 | .r n k=>(H.getD n .free).row k
def Hd.beq:Hd->Hd->Bool
 | .t a,.t b=>Nat.beq a b
 | .r a b,.r c d=>Nat.beq a c&&Nat.beq b d
 |_,_=>false
def dT (L:Hd->aC) (n:Nat):Prop:=L (.t n)= .free/\∀k,L (.r n k)= .free
def PV.rM:List PV->List PV->Bool
 |[],[]=>true
 | .int k a::xs,.int k' b::ys=>decide (k=k')&&((a==b)&&PV.rM xs ys)
 | .bool a::xs,.bool b::ys=>(a==b)&&PV.rM xs ys
 |_,_=>false
def PV.f9:PV->PV->Bool
 | .agg xs,.agg ys=>PV.rM xs ys
 | .int k a,.int k' b=>decide (k=k')&&a==b
 |_,_=>false
structure xu (w:World) (F bM:Nat->Prop) (β:Hd->Option Nat×Nat) (args:List AV) (Hin:List aC) (vs:List Value):Prop where
 len:vs.length=args.length
 rel:∀(i:Nat) a v,args[i]?=some a->vs[i]?=some v->VR w (aQ bM F) β a v
 df:∀h,nm w (aQ bM F) β h (look Hin h)
 kd:∀b,F b->b<w.heap.size
 blt:∀b,bM b->b<w.heap.size
 own:∀h b,(look Hin h).live->(β h).1=some b->¬F b/\¬bM b/\b<w.heap.size
 kc:∀h h' b,(look Hin h).live->(look Hin h').live->(β h).1=some b->(β h').1=some b->h=h'
 ma:∀a∈args,∀k,a.aU k->look Hin k≠ .free
 mb:∀h k,(look Hin h).aU k->look Hin k≠ .free
def fR:Nat->Prop:=fun _=>False
structure Eb (w:World) (F:Nat->Prop) (β:Hd->Option Nat×Nat) (Hin:List aC) (r:AV) (Hout:List aC) (v:Value) (w':World) (F':Nat->Prop) (β':Hd->Option Nat×Nat):Prop where
 os:w'.os=w.os
 tape:w'.tape=w.tape
 output:w'.output=w.output
 size:w.heap.size<=w'.heap.size
 same:∀b,b<w.heap.size->(∀h,(look Hin h).live->(β h).1≠some b)->w'.heap[b]?=w.heap[b]?
 kd:∀b,F' b->b<w'.heap.size
 fold:∀b,F' b->b<w.heap.size->F b
 A8:∀b,F b->F' b
 Eh:∀h,look Hin h≠ .free->β' h=β h
 rel:VR w' (aQ fR F') β' r v
 df:∀h,nm w' (aQ fR F') β' h (look Hout h)
 own:∀h b,(look Hout h).live->(β' h).1=some b->¬F' b/\b<w'.heap.size/\(b<w.heap.size->∃h',(look Hin h').live/\(β h').1=some b)
 kc:∀h h' b,(look Hout h).live->(look Hout h').live->(β' h).1=some b->(β' h').1=some b->h=h'
 mr:∀k,r.aU k->look Hout k≠ .free
 mb:∀h k,(look Hout h).aU k->look Hout k≠ .free
 nf:∀h,look Hin h≠ .free->look Hout h≠ .free
structure cw (P:Program) (f:FuncId) (args:List AV) (Hin:List aC) (r:AV) (Hout:List aC):Prop where
 fn:∃fn,P.funcs[f]?=some fn/\(fn.name== "runtime.NumGoroutine")=false/\fn.body.isNone=false
 run:∀w F bM β vs,xu w F bM β args Hin vs->Calls P f vs.toArray w fun e w'=>∃v F' β',e= .returned v/\Eb w F β Hin r Hout v w' F' β'
abbrev au (P:Program) (f:FuncId) (args:List PV) (r:AV) (nb:List aC):Prop:=cw P f (args.map .p) [] r nb
inductive ae (k:IntKind) (e:Int) (K:Int->Prop):Prop
 |mk (z:Int) (h:k.wrap e=z) (hk:K z)
inductive a8 (b:Bool) (A B:Prop):Prop
 |mk (h1:b=true->A) (h2:b=false->B)
inductive ag (b:Bool) (K:AV->Prop):Prop
 |sym (hk:K (.p (.bool b)))
 |yes (h:b=true) (hk:K (.tf true))
 |no (h:b=false) (hk:K (.tf false))
inductive aG (es:List PV) (i:Int) (K:Nat->PV->Prop):Prop
 |mk (j:Nat) (e:PV) (hi:i=j) (h:es[j]?=some e) (hk:K j e)
inductive aI (i:Int) (n:Nat) (K:Nat->Prop):Prop
 |mk (j:Nat) (hi:i=j) (h:j<n) (hk:K j)
inductive bT (i n:Nat) (K:Prop):Prop
 |mk (h:i<n) (hk:K)
inductive bV (n:Int) (bytes:Nat) (K:Nat->Prop):Prop
 |mk (j:Nat) (hi:n=j) (h:j*bytes<=140737488355328) (h':j<=140737488355328) (hk:K j)
inductive F4 (A B:Prop):Prop
 |e (h:A)
 |s (h:B)
inductive FG (A B:Prop):Prop
 |vec (h:A)
 |rows (h:B)
inductive ck (n bytes:Nat) (K:Prop):Prop
 |mk (h:n*bytes<=140737488355328) (h':n<=140737488355328) (hk:K)
inductive ue (y:Int) (K:Prop):Prop
 |mk (h:y≠0) (hk:K)
inductive sr (y:Int) (K:Prop):Prop
 |mk (h:0<=y) (hk:K)
inductive SZ (e:Int) (K:Int->Prop):Prop
 |mk (z:Int) (h:e=z) (hk:K z)
inductive cH (es:List PV) (K:List PV->Prop):Prop
 |mk (es':List PV) (h:es=es') (hk:K es')
inductive m9 (len:Nat) (K:Bool->Prop):Prop
 |mk (h1:len≠0->K false) (h2:len=0->K true/\K false)
inductive ga (a b:Nat) (K:Prop):Prop
 |mk (h:a=b) (hk:K)
inductive mQ (e:Nat) (K:Nat->Prop):Prop
 |mk (z:Nat) (h:e=z) (hk:K z)
inductive fp (lo hi:Int) (n:Nat) (K:Nat->Nat->Prop):Prop
 |mk (l h:Nat) (hl:lo=l) (hh:hi=h) (h1:l<=h) (h2:h<=n) (hk:K l h)
inductive BE (c A B C:Prop):Prop
 |sl (h:A)
 |emp (hc:c) (h:B)
 |m6 (h:C)
def EI (mx:Option Operand) (l h:Nat) (A B C:Prop):Prop:=
 match mx with
 |none=>A
 |some _=>BE (l=h) A B C
inductive cq (cs:List AV) (i:Int) (K:AV->Prop):Prop
 |mk (j:Nat) (c:AV) (hi:i=j) (h:cs[j]?=some c) (hk:K c)
inductive pT (es:List AV) (K:List AV->Prop):Prop
 |mk (es':List AV) (h:es=es') (hk:K es')
inductive Ev (es:List PV) (K:Prop):Prop
 |mk (h:∀e∈es,e.one=true) (hk:K)
inductive bp (es:List PV) (off len:Nat) (K:List PV->Prop):Prop
 |mk (es':List PV) (h:(es.drop off).take len=es') (hl:off+len<=es.length) (hk:K es')
mutual
def AV.cE (ρ:Hd->Hd):AV->AV
 | .aF h o=>.aF (ρ h) o
 | .c5 h W i o=>.c5 (ρ h) W i o
 | .vec h W o l=>.vec (ρ h) W o l
 | .map h=>.map (ρ h)
 | .agg cs=>.agg (AV.cz ρ cs)
 | .bq cs=>.bq (AV.cz ρ cs)
 | .fn f fs cs=>.fn f (AV.cz ρ fs) (AV.cz ρ cs)
 | .any=>.any
 | .undef=>.undef
 | .tf b=>.tf b
 | .emp=>.emp
 | .m6 m W es=>.m6 m W es
 | .p v=>.p v
def AV.cz (ρ:Hd->Hd):List AV->List AV
 |[]=>[]
 |c::cs=>c.cE ρ::AV.cz ρ cs
end
def aC.cE (ρ:Hd->Hd):aC->aC
 | .box T cs=>.box T (AV.cz ρ cs)
 | .rows T cs=>.rows T (AV.cz ρ cs)
 |B=>B
def dJ (hs:List Nat) (base:Nat) (i:Nat):Nat:=if i<hs.length then hs.getD i 0 else base+(i-hs.length)
def bn (hs:List Nat) (base:Nat):Hd->Hd
 | .t i=>.t (dJ hs base i)
 | .r i k=>.r (dJ hs base i) k
structure FZ (w:World) (F bM:Nat->Prop) (r:PV) (v:Value) (w':World) (F':Nat->Prop):Prop where
 os:w'.os=w.os
 tape:w'.tape=w.tape
 output:w'.output=w.output
 size:w.heap.size<=w'.heap.size
 same:∀b,b<w.heap.size->w'.heap[b]?=w.heap[b]?
 kd:∀b,F' b->b<w'.heap.size
 fold:∀b,F' b->b<w.heap.size->F b
 A8:∀b,F b->F' b
 rel:PR w' (aQ bM F') r v
structure wy (P:Program) (f:FuncId) (args:List PV) (r:PV):Prop where
 fn:∃fn,P.funcs[f]?=some fn/\(fn.name== "runtime.NumGoroutine")=false/\fn.body.isNone=false
 run:∀w F bM β vs,xu w F bM β (args.map .p) [] vs->Calls P f vs.toArray w fun e w'=>∃v F',e= .returned v/\FZ w F bM r v w' F'
inductive ab (P:Program) (wr:Bool) (f:FuncId) (raw args:List AV) (L:Hd->aC) (base:Nat) (K:AV->List (Hd×aC)->Prop):Prop
 |mk (hs:List Nat) (args':List AV) (r:AV) (Hin Hout:List aC) (hw:wr=false->hs=[]) (hn:hs.Nodup) (hb:∀h∈hs,h<base) (ha:AV.cz (bn hs base) args'=args)
   (hin0:Hin.length=hs.length) (hin:∀(i h:Nat) B,hs[i]?=some h->Hin[i]?=some B->L (.t h)=(B.cE (bn hs base)).top/\∀k,L (.r h k)=B.row k) (hl:∀B∈Hin,B≠ .free/\B≠ .dead) (hm:∀B∈Hin,∀k,B.aU k->k.key<hs.length)
   (hlen:hs.length<=Hout.length) (hfree:∀B∈Hout,B≠ .free) (hargs:∀a∈args',∀k,a.aU k->k.key<hs.length) (hc:cw P f args' Hin r Hout)
   (hk:K (r.cE (bn hs base)) (Hout.zipIdx.map fun x=>(.t (dJ hs base x.2),x.1.cE (bn hs base)))):ab P wr f raw args L base K
 |ni (pvs:List PV) (r:PV) (hraw:pvs.map .p=raw) (hc:wy P f pvs r) (hk:K (.p r) []):ab P wr f raw args L base K
 |app (h W n m:Nat) (T:TypeId) (es es':List PV) (pvs:List PV) (hraw: .vec (.t h) W 0 n::pvs.map .p=raw) (hL:L (.t h)= .vec T W es) (hLr:∀k,L (.r h k)= .free) (hb:h<base)
   (hc:cw P f (.vec (.t 0) W 0 n::pvs.map .p) [.vec T W es] (.vec (.t 1) W 0 m) [.dead,.vec T W es']) (hk:K (.vec (.t base) W 0 m) [(.t h,.dead),(.t base,.vec T W es')]):ab P wr f raw args L base K
inductive lS (L:Hd->aC):AV->PV->Prop
 |p (v:PV) (h:v.one=true):lS L (.p v) v
 |vec {h:Hd} {W off len:Nat} {T:TypeId} {es:List PV} (hL:L h= .vec T W es) (hl:off+len<=es.length):lS L (.vec h W off len) (.sl true W ((es.drop off).take len))
inductive ea (L:Hd->aC) (cs:List AV) (len:Nat) (K:List PV->Prop):Prop
 |mk (ps:List PV) (hlen:len=cs.length) (hl:ps.length=cs.length) (h:∀(i:Nat) c p,cs[i]?=some c->ps[i]?=some p->lS L c p) (hk:K ps)
inductive cd (es:List (PV×PV)) (k:PV) (K:Option PV->Prop):Prop
 |yes (i:Nat) (e:PV×PV) (h:es[i]?=some e) (he:PV.f9 k e.1=true) (hf:∀j e',j≠i->es[j]?=some e'->PV.f9 k e'.1=false) (hk:K (some e.2))
 |no (h:∀e∈es,PV.f9 k e.1=false) (hk:K none)
inductive dc (es:List (PV×PV)) (k v:PV) (K:List (PV×PV)->Prop):Prop
 |dh (i:Nat) (e:PV×PV) (es':List (PV×PV)) (h:es[i]?=some e) (he:PV.f9 k e.1=true) (hf:∀j e',j<i->es[j]?=some e'->PV.f9 k e'.1=false) (hs:es.set i (k,v)=es') (hk:K es')
 |new (es':List (PV×PV)) (h:∀e∈es,PV.f9 k e.1=false) (hs:es++[(k,v)]=es') (hk:K es')
inductive zW (es:List (PV×PV)) (seen:List Nat) (K:PV×PV->Prop):Prop
 |mk (j:Nat) (e:PV×PV) (hj:seen.getLast?=some j) (he:es[j]?=some e) (hk:K e)
inductive a5 (b:PV->Bool) (es:List (PV×PV)) (K:Prop):Prop
 |mk (h:∀e∈es,b e.1=true) (hk:K)
inductive Bq (es:List (PV×PV)) (seen:List Nat) (A:Nat->PV×PV->Prop) (B:Prop):Prop
 |mk (h:∀i e,es[i]?=some e->i∉seen->A i e) (hend:(∀i,i<es.length->i∈seen)->B):Bq es seen A B
def vH:List AV->Nat->(AV->Prop)->Prop
 |[],_,_=>False
 |c::_,0,K=>K c
 |_::cs,i+1,K=>vH cs i K
def lN:List PV->Nat->(PV->Prop)->Prop
 |[],_,_=>False
 |c::_,0,K=>K c
 |_::cs,i+1,K=>lN cs i K
def ov:List PV->(List AV->Prop)->Prop
 |[],K=>K []
 |c::cs,K=>ov cs fun l=>K (.p c::l)
def fq:List AV->(List PV->Prop)->(List AV->Prop)->Prop
 |[],K,_=>K []
 | .p v::cs,K,J=>fq cs (fun l=>K (v::l)) (fun l=>J (.p v::l))
 | .tf b::cs,K,J=>fq cs (fun l=>K (.bool b::l)) (fun l=>J (.tf b::l))
 |c::cs,_,J=>rebuild cs fun l=>J (c::l)
where
 rebuild:List AV->(List AV->Prop)->Prop
  |[],K=>K []
  |c::cs,K=>rebuild cs fun l=>K (c::l)
def gh:List AV->Nat->List AV->(List AV->Prop)->Prop
 |[],0,[],K=>K []
 |[],_,_,_=>False
 |c::cs,0,[],K=>fq.rebuild (c::cs) K
 |_::cs,0,v::vs,K=>gh cs 0 vs fun l=>K (v::l)
 |c::cs,o+1,vs,K=>gh cs o vs fun l=>K (c::l)
def fe:List AV->Nat->Nat->(List AV->Prop)->Prop
 |_,0,0,K=>K []
 |[],_,_,_=>False
 |c::cs,0,n+1,K=>fe cs 0 n fun l=>K (c::l)
 |_::cs,o+1,n,K=>fe cs o n K
def f6:List PV->Nat->Nat->(List PV->Prop)->Prop
 |_,0,0,K=>K []
 |[],_,_,_=>False
 |c::cs,0,n+1,K=>f6 cs 0 n fun l=>K (c::l)
 |_::cs,o+1,n,K=>f6 cs o n K
def qH (cs:List AV) (K:AV->Prop):Prop:=fq cs (fun l=>K (.p (.agg l))) (fun l=>K (.agg l))
section
variable (Γ:kU) (P:Program)
def po (t:TypeId) (v:AV) (K:PV->Prop):Prop:=
 match v with
 | .p v=>K v
 | .tf b=>K (.bool b)
 | .emp=>match Γ t with
  |some ⟨.slice e,_,_,_,_⟩=>match Γ e with
   |some i=>K (.sl false i.size [])
   |none=>False
  |_=>False
 | .agg cs=>fq cs (fun l=>K (.agg l)) (fun _=>False)
 | .fn f [] caps=>fq caps (fun l=>K (.fn f l)) (fun _=>False)
 | .fn f (c0::fs) []=>fq (c0::fs) (fun l=>K (.je f l)) (fun _=>False)
 |_=>False
def cellsOf (t:TypeId) (v:AV) (K:List AV->Prop):Prop:=
 match v with
 | .p (.agg cs)=>ov cs K
 | .p v=>K [.p v]
 | .tf b=>K [.tf b]
 | .emp=>po Γ t .emp fun v=>K [.p v]
 | .agg cs=>K cs
 | .aF h o=>K [.aF h o]
 | .c5 h W i o=>K [.c5 h W i o]
 | .vec h W o l=>K [.vec h W o l]
 | .map h=>K [.map h]
 | .fn f fs cs=>K [.fn f fs cs]
 |_=>False
def vh (t:TypeId) (v:AV) (K:List AV->Prop):Prop:=
 match v with
 | .emp=>F4 (K [.emp]) (cellsOf Γ t .emp K)
 |v=>cellsOf Γ t v K
def p8 (L:Hd->aC) (LK:Hd->(aC->Prop)->Prop) (c:AV) (K:PV->Prop):Prop:=
 match c with
 | .vec h W off len=>LK h fun B=>match B with
  | .vec _ W' es=>cond (Nat.beq W W') (bp es off len fun es'=>K (.sl true W es')) False
  | .rows _ cs=>cond (Nat.beq W 1&&Nat.beq off 0) (ea L cs len fun ps=>K (.sl true 1 ps)) False
  |_=>False
 | .map h=>LK h fun B=>match B with
  | .map es=>K (.mp true es)
  |_=>False
 | .p v=>cond v.one (K v) False
 | .tf b=>K (.bool b)
 |_=>False
def fE (L:Hd->aC) (LK:Hd->(aC->Prop)->Prop):List AV->(List PV->Prop)->Prop
 |[],K=>K []
 |c::cs,K=>p8 L LK c fun v=>fE L LK cs fun l=>K (v::l)
def fa (L:Hd->aC) (LK:Hd->(aC->Prop)->Prop) (t:TypeId) (v:AV) (K:AV->Prop):Prop:=
 match v with
 | .vec h W off len=>LK h fun B=>match B with
  | .vec _ W' es=>cond (Nat.beq W W') (bp es off len fun es'=>K (.p (.sl true W es'))) False
  |_=>False
 | .aF h 0=>LK h fun B=>match B with
  | .box T cs=>match Γ T with
   |some i=>match i.d.agg with
    |true=>fq cs (fun l=>K (.p (.eT true (.agg l)))) (fun cs=>fE L LK cs fun l=>K (.p (.eT true (.agg l))))
    |false=>fq cs (fun l=>match l with
     |[c]=>cond c.one (K (.p (.eT true c))) False
     |_=>False) (fun _=>False)
   |none=>False
  |_=>False
 | .map h=>LK h fun B=>match B with
  | .map es=>K (.p (.mp true es))
  |_=>False
 |v=>po Γ t v fun v=>K (.p v)
def dM (L:Hd->aC) (LK:Hd->(aC->Prop)->Prop):List AV->(List PV->Prop)->Prop
 |[],K=>K []
 |c::cs,K=>fa Γ L LK 0 c fun v=>match v with
  | .p v=>dM L LK cs fun l=>K (v::l)
  |_=>False
def oP (L:Hd->aC) (LK:Hd->(aC->Prop)->Prop) (t:TypeId) (v:AV) (K:AV->Prop):Prop:=
 match v with
 | .fn f [] caps=>dM Γ L LK caps fun l=>K (.p (.fn f l))
 | .fn f (c0::fs) []=>dM Γ L LK (c0::fs) fun l=>K (.p (.je f l))
 | .agg cs=>dM Γ L LK cs fun l=>cond (l.all PV.one) (K (.p (.agg l))) False
 | .vec h 1 0 len=>LK h fun B=>match B with
  | .rows _ cs=>ea L cs len fun ps=>K (.p (.sl true 1 ps))
  | .vec _ W' es=>cond (Nat.beq 1 W') (bp es 0 len fun es'=>K (.p (.sl true 1 es'))) False
  |_=>False
 |v=>fa Γ L LK t v K
def Bb (t:TypeId) (v:AV) (K:AV->Prop):Prop:=
 match v with
 | .vec h W o l=>K (.vec h W o l)
 | .aF h o=>K (.aF h o)
 | .map h=>K (.map h)
 |v=>po Γ t v fun v=>K (.p v)
def jk (L:Hd->aC) (LK:Hd->(aC->Prop)->Prop) (wr:Bool):List (TypeId×AV)->(List AV->Prop)->Prop
 |[],K=>K []
 |x::vs,K=>match wr with
  |true=>Bb Γ x.1 x.2 fun v'=>jk L LK wr vs fun l'=>K (v'::l')
  |false=>oP Γ L LK x.1 x.2 fun v'=>jk L LK wr vs fun l'=>K (v'::l')
def eK (W:Operand->(AV->Prop)->Prop):List Operand->(List AV->Prop)->Prop
 |[],K=>K []
 |x::xs,K=>W x fun v=>eK W xs fun l=>K (v::l)
def e9 (W:Operand->(AV->Prop)->Prop) (place:Nat->Option (Nat×TypeId)):List (Nat×Operand)->List AV->(List AV->Prop)->Prop
 |[],cs,K=>K cs
 |(i,x)::ps,cs,K=>match place i with
  |some (off,t)=>W x fun v=>cellsOf Γ t v fun vs=>match Γ t with
   |some ti=>cond (Nat.beq vs.length ti.size) (gh cs off vs fun cs'=>e9 W place ps cs' K) False
   |none=>False
  |none=>False
def eJ (W:Operand->(AV->Prop)->Prop) (e:TypeId) (size:Nat):Nat->List (Nat×Operand)->(List PV->Prop)->Prop
 |_,[],K=>K []
 |n,(i,x)::ps,K=>cond (Nat.beq i n) (W x fun v=>po Γ e v fun v'=>cond (Nat.beq v'.cells.length size) (eJ W e size (n+1) ps fun l=>K (v'::l)) False) False
def AV.Gr:AV->Bool
 | .vec _ _ _ _=>true
 |_=>false
def t8 (e:TypeId) (v:AV) (K:AV->Prop):Prop:=
 match v with
 | .vec h Wd o l=>K (.vec h Wd o l)
 |v=>po Γ e v fun v'=>cond v'.one (K (.p v')) False
def gY (W:Operand->(AV->Prop)->Prop) (e:TypeId):Nat->List (Nat×Operand)->(List AV->Prop)->Prop
 |_,[],K=>K []
 |n,(i,x)::ps,K=>cond (Nat.beq i n) (W x fun v=>t8 Γ e v fun c=>gY W e (n+1) ps fun l=>K (c::l)) False
def TI.qA (i:TI):Bool:=
 match i.d with
 | .slice _=>Nat.beq i.size 1
 |_=>false
def kD (v:AV) (K:Bool->Prop):Prop:=
 match v with
 | .tf b=>K b
 | .p (.bool b)=>K b
 |_=>False
def dV:List PV->List PV->(Bool->Prop)->Prop
 |[],[],K=>K true
 | .int k a::xs,.int k' b::ys,K=>if k=k' then dV xs ys fun r=>K ((a==b)&&r)else False
 | .bool a::xs,.bool b::ys,K=>dV xs ys fun r=>K ((a==b)&&r)
 |_,_,_=>False
def wB (op:BinOp) (k:IntKind) (a b:Int) (K:AV->List (Hd×aC)->Prop):Prop:=
 match op with
 | .add=>ae k (a+b) fun z=>K (.p (.int k z)) []
 | .sub=>ae k (a-b) fun z=>K (.p (.int k z)) []
 | .mul=>ae k (a*b) fun z=>K (.p (.int k z)) []
 | .quo=>ue b (ae k (a.tdiv b) fun z=>K (.p (.int k z)) [])
 | .rem=>ue b (SZ (a.tmod b) fun z=>K (.p (.int k z)) [])
 | .and=>ae k ((BitVec.ofInt k.bits a&&&BitVec.ofInt k.bits b).toNat:Int) fun z=>K (.p (.int k z)) []
 | .or=>ae k ((BitVec.ofInt k.bits a|||BitVec.ofInt k.bits b).toNat:Int) fun z=>K (.p (.int k z)) []
 | .xor=>ae k ((BitVec.ofInt k.bits a^^^BitVec.ofInt k.bits b).toNat:Int) fun z=>K (.p (.int k z)) []
 | .andNot=>ae k ((BitVec.ofInt k.bits a&&& ~~~BitVec.ofInt k.bits b).toNat:Int) fun z=>K (.p (.int k z)) []
 | .eql=>ag (a==b) fun v=>K v []
 | .neq=>ag (a !=b) fun v=>K v []
 | .lss=>ag (decide (a<b)) fun v=>K v []
 | .leq=>ag (decide (a<=b)) fun v=>K v []
 | .gtr=>ag (decide (a>b)) fun v=>K v []
 | .geq=>ag (decide (a>=b)) fun v=>K v []
 | .shl| .shr=>False
def Bv (op:BinOp) (k:IntKind) (a:Int) (k':IntKind) (b:Int) (K:AV->List (Hd×aC)->Prop):Prop:=
 match op with
 | .shl=>sr b (ae k (a*2^(min b.toNat k.bits)) fun z=>K (.p (.int k z)) [])
 | .shr=>sr b (SZ (a.fdiv (2^(min b.toNat k.bits))) fun z=>K (.p (.int k z)) [])
 |op=>if k=k' then wB op k a b K else False
def vF (i:TI) (op:BinOp) (xs ys:List PV) (K:AV->List (Hd×aC)->Prop):Prop:=
 match i.eq with
 |true=>cond (jE i.zero xs) (match op with
  | .eql=>dV xs ys fun r=>ag r fun v=>K v []
  | .neq=>dV xs ys fun r=>ag (!r) fun v=>K v []
  |_=>False) False
 |false=>False
def nB (i:TI) (op:BinOp) (a b:Bool) (K:AV->List (Hd×aC)->Prop):Prop:=
 match i.d with
 | .bool=>match op with
  | .eql=>ag (a==b) fun v=>K v []
  | .neq=>ag (!(a==b)) fun v=>K v []
  |_=>False
 |_=>False
def zH (op:BinOp) (a b:ByteArray) (K:AV->List (Hd×aC)->Prop):Prop:=
 match op with
 | .eql=>ag (a.toList==b.toList) fun v=>K v []
 | .neq=>ag (!(a.toList==b.toList)) fun v=>K v []
 |_=>False
def Ft (op:BinOp) (t:TypeId) (x y:AV) (K:AV->List (Hd×aC)->Prop):Prop:=
 match x with
 | .p (.int k a)=>match y with
  | .p (.int k' b)=>Bv op k a k' b K
  |_=>False
 | .p (.agg xs)=>match y with
  | .p (.agg ys)=>match Γ t with
   |some i=>vF i op xs ys K
   |none=>False
  |_=>False
 | .p (.bool a)=>match Γ t with
  |some i=>kD y fun b=>nB i op a b K
  |none=>False
 | .tf a=>match Γ t with
  |some i=>kD y fun b=>nB i op a b K
  |none=>False
 | .p (.raw (.string a))=>match y with
  | .p (.raw (.string b))=>zH op a b K
  |_=>False
 |_=>False
def isNil:Operand->Bool
 | .const (.slice none 0 0)=>true
 |_=>false
def w5 (v:AV) (K:Bool->Prop):Prop:=
 match v with
 | .p (.sl _ _ es)=>m9 es.length K
 | .emp=>m9 0 K
 | .vec _ _ _ len=>m9 len K
 |_=>False
def Fg (op:BinOp) (t:TypeId) (v:AV) (K:AV->List (Hd×aC)->Prop):Prop:=
 match Γ t with
 |some i=>match i.d with
  | .slice _=>match op with
   | .eql=>w5 v fun r=>K (.tf r) []
   | .neq=>w5 v fun r=>K (.tf (!r)) []
   |_=>False
  |_=>False
 |none=>False
def fZ (W:Operand->(AV->Prop)->Prop) (x:Option Operand) (d:Int) (K:Int->Prop):Prop:=
 match x with
 |none=>K d
 |some x=>W x fun v=>match v with
  | .p (.int _ n)=>K n
  |_=>False
def eP (t:TypeId) (K:TypeId->TI->Prop):Prop:=
 match Γ t with
 |some i=>match i.d with
  | .slice e=>match Γ e with
   |some j=>K e j
   |none=>False
  |_=>False
 |none=>False
def oR (i:TI) (K:PV->Prop):Prop:=
 match i.d.agg with
 |true=>K (.agg i.zero)
 |false=>match i.zero with
  |[z]=>K z
  |_=>False
def mN (LK:Hd->(aC->Prop)->Prop) (x:AV) (K:Nat->List PV->Prop):Prop:=
 match x with
 | .emp=>K 0 []
 | .p (.sl _ W es)=>K W es
 | .vec h W off len=>LK h fun B=>match B with
  | .vec _ W' es=>cond (Nat.beq W W') (bp es off len fun es'=>K W es') False
  |_=>False
 |_=>False
def jl (LK:Hd->(aC->Prop)->Prop) (size:Nat) (x:AV) (K:List PV->Prop):Prop:=
 mN LK x fun W xs=>match x with
  | .emp=>K []
  |_=>cond (Nat.beq W size) (K xs) False
def rX (h:Hd) (x:AV):Bool:=
 match x with
 | .vec h' _ _ _=> !(Hd.beq h h')
 |_=>true
def jN (LK:Hd->(aC->Prop)->Prop) (base:Nat) (e:TypeId) (i:TI) (s x:AV) (K:AV->List (Hd×aC)->Prop):Prop:=
 cond (Nat.ble 1 i.size) (match s with
 | .emp=>jl LK i.size x fun xs=>ck xs.length i.bytes (K (.vec base i.size 0 xs.length) [(base,.vec e i.size xs)])
 | .vec h W 0 len=>cond (Nat.beq W i.size&&rX h x) (LK h fun B=>match B with
  | .vec T W' es=>cond (Nat.beq W W'&&Nat.beq T e) (ga len es.length (jl LK i.size x fun xs=>ck (es.length+xs.length) i.bytes
    (cH (es++xs) fun es'=>mQ (es.length+xs.length) fun m=>K (.vec base i.size 0 m) [(h,.dead),(base,.vec e i.size es')]))) False
  |_=>False) False
 | .m6 _ W es=>cond (Nat.beq W i.size) (jl LK i.size x fun xs=>bT 0 xs.length (ck (es.length+xs.length) i.bytes (cH (es++xs) fun es'=>mQ (es.length+xs.length) fun m=>K (.vec base i.size 0 m) [(base,.vec e i.size es')]))) False
 |_=>False) False
def mK (LK:Hd->(aC->Prop)->Prop) (v:AV) (K:Option (List AV)->Prop):Prop:=
 match v with
 | .vec h 1 0 len=>LK h fun B=>match B with
  | .rows _ cs=>cond (Nat.beq len cs.length) (K (some cs)) False
  | .vec _ _ _=>K none
  |_=>False
 |_=>K none
def jL (LK:Hd->(aC->Prop)->Prop) (base:Nat) (e:TypeId) (i:TI) (s x:AV) (xs:List AV) (K:AV->List (Hd×aC)->Prop):Prop:=
 cond (Nat.beq i.size 1&& !xs.isEmpty) (match s with
  | .emp=>ck xs.length i.bytes (K (.vec base 1 0 xs.length) [(base,.rows e xs)])
  | .vec h 1 0 len=>LK h fun B=>match B with
   | .rows T es=>cond (Nat.beq T e) (ga len es.length (ck (es.length+xs.length) i.bytes (pT (es++xs) fun cs=>mQ (es.length+xs.length) fun m=>K (.vec base 1 0 m) [(h,.dead),(base,.rows e cs)]))) False
   |_=>False
  |_=>False) False
def nt (LK:Hd->(aC->Prop)->Prop) (base:Nat) (e:TypeId) (i:TI) (s x:AV) (K:AV->List (Hd×aC)->Prop):Prop:=
 mK LK x fun o=>match o with
  |none=>jN LK base e i s x K
  |some xs=>jL LK base e i s x xs K
def jW (LK:Hd->(aC->Prop)->Prop) (base:Nat) (e:TypeId) (i:TI) (s y:AV) (K:AV->List (Hd×aC)->Prop):Prop:=
 match y with
 | .p (.int _ n)=>match s with
  | .vec h W 0 len=>match i.zero with
   |[z]=>cond (Nat.beq W 1&&(Nat.beq i.size 1&& !i.d.agg)) (LK h fun B=>match B with
    | .vec T W' es=>cond (Nat.beq W' 1&&Nat.beq T e) (ga len es.length (bV n i.bytes fun m=>ck (es.length+m) i.bytes (cH (es++List.replicate m z) fun es'=>mQ (es.length+m) fun l=>K (.vec base 1 0 l) [(h,.dead),(base,.vec e 1 es')]))) False
    |_=>False) False
   |_=>False
  |_=>False
 |_=>False
def pI:AV->AV
 | .p (.raw (.slice none 0 0))=>.emp
 |v=>v
def FP (t:TypeId) (x:AV) (K:AV->List (Hd×aC)->Prop):Prop:=
 eP Γ t fun _ _=>match x with
  | .p (.sl _ _ es)=>SZ es.length fun z=>K (.p (.int .i64 z)) []
  | .vec _ _ _ len=>SZ len fun z=>K (.p (.int .i64 z)) []
  | .emp=>K (.p (.int .i64 0)) []
  |_=>False
def CT (x y:AV) (f:Int->Int->Int) (K:AV->List (Hd×aC)->Prop):Prop:=
 match x with
 | .p (.int k a)=>match y with
  | .p (.int _ b)=>SZ (f a b) fun z=>K (.p (.int k z)) []
  |_=>False
 |_=>False
def xj (LK:Hd->(aC->Prop)->Prop) (t:TypeId) (d x:AV) (K:AV->List (Hd×aC)->Prop):Prop:=
 match d with
 | .vec h W 0 len=>cond (rX h x) (LK h fun B=>match B with
  | .vec T W' es=>eP Γ t fun e i=>cond (Nat.beq W i.size&&(Nat.beq W W'&&Nat.ble 1 W)) (bT len (es.length+1) (jl LK i.size x fun xs=>
    cH (xs.take len++es.drop (min xs.length len)) fun es'=>SZ ((min xs.length len:Nat):Int) fun z=>K (.p (.int .i64 z)) [(h,.vec T W' es')])) False
  |_=>False) False
 |_=>False
def r7 (LK:Hd->(aC->Prop)->Prop) (t:TypeId) (d:AV) (K:AV->List (Hd×aC)->Prop):Prop:=
 match d with
 | .vec h W 0 len=>LK h fun B=>match B with
  | .vec T W' es=>eP Γ t fun e i=>cond (Nat.beq W i.size&&(Nat.beq W W'&&Nat.ble 1 W)) (bT len (es.length+1) (oR i fun z=>cH (List.replicate len z++es.drop len) fun es'=>K .undef [(h,.vec T W' es')])) False
  |_=>False
 |_=>False
def qQ (t:TypeId):Bool:=
 match Γ t with
 |some i=>match i.d with
  | .int _=>true
  |_=>false
 |none=>false
def jj (LK:Hd->(aC->Prop)->Prop) (base:Nat) (b:Builtin) (ts:List TypeId) (vs:List AV) (K:AV->List (Hd×aC)->Prop):Prop:=
 match vs with
 |[x]=>match ts with
  |t::_=>match b with
   | .len=>FP Γ t (pI x) K
   | .clear=>r7 Γ LK t x K
   |_=>False
  |_=>False
 |[x,y]=>match ts with
  |t::t'::ts'=>match b with
   | .max=>CT x y (fun a b=>if b>a then b else a) K
   | .min=>CT x y (fun a b=>if b<a then b else a) K
   | .append=>cond (Nat.beq t t'&&ts'.isEmpty) (eP Γ t fun e i=>nt LK base e i (pI x) y K) (cond (qQ Γ t'&&ts'.isEmpty) (eP Γ t fun e i=>jW LK base e i x y K) False)
   | .copy=>xj Γ LK t x y K
   |_=>False
  |_=>False
 |_=>False
def isByte:PV->Bool
 | .int .u8 _=>true
 |_=>false
def intOf:PV->Int
 | .int _ n=>n
 |_=>0
def strOf (es:List PV):ByteArray:=(es.map intOf).foldl (fun r n=>r.push (UInt8.ofNat n.toNat)) ByteArray.empty
inductive AF (es:List PV) (K:ByteArray->Prop):Prop
 |mk (h:es.all isByte=true) (hk:K (strOf es))
def D5 (src dst:TypeId) (v:AV) (K:AV->List (Hd×aC)->Prop):Prop:=
 match v with
 | .p (.sl _ W es)=>match Γ dst with
  |some i=>match i.d with
   | .string=>eP Γ src fun _ j=>match j.d with
    | .int .u8=>cond (Nat.beq W 1) (AF es fun b=>K (.p (.raw (.string b))) []) False
    |_=>False
   |_=>False
  |none=>False
 | .p (.int _ n)=>match Γ dst with
  |some i=>match Γ src with
   |some _=>match i.d with
    | .int k=>ae k n fun z=>K (.p (.int k z)) []
    |_=>False
   |none=>False
  |none=>False
 |_=>False
def Ea (base:Nat) (t:TypeId) (vl vc:AV) (K:AV->List (Hd×aC)->Prop):Prop:=
 match vl with
 | .p (.int _ n)=>match vc with
  | .p (.int _ m)=>eP Γ t fun e i=>oR i fun z=>SZ m fun m'=>bT (m'-n).natAbs 1 (bV n i.bytes fun j=>match i.qA with
   |false=>K (.vec base i.size 0 j) [(base,.vec e i.size (List.replicate j z))]
   |true=>FG (K (.vec base i.size 0 j) [(base,.vec e i.size (List.replicate j z))]) (K (.vec base 1 0 j) [(base,.rows e (List.replicate j .emp))]))
  |_=>False
 |_=>False
def nF:Operand->Bool
 | .const (.int _ 0)=>true
 |_=>false
def BI (base:Nat) (t:TypeId) (vc:AV) (K:AV->List (Hd×aC)->Prop):Prop:=
 match vc with
 | .p (.int _ m)=>eP Γ t fun e i=>bV m i.bytes fun _=>K (.vec base i.size 0 0) [(base,.vec e i.size [])]
 |_=>False
def ob (W:Operand->(AV->Prop)->Prop) (t:TypeId) (v:AV) (lo hi mx:Option Operand) (K:AV->List (Hd×aC)->Prop):Prop:=
 match v with
 | .p (.sl m Wd es)=>cond (mx.isNone||hi.isSome) (eP Γ t fun _ i=>cond (Nat.beq i.size Wd) (fZ W lo 0 fun l=>fZ W hi es.length fun h=>fZ W mx h fun mm=>SZ mm fun mm'=>bT (mm'-h).natAbs 1 (fp l h es.length fun l h=>
   EI mx l h (cH ((es.take h).drop l) fun es'=>K (.p (.sl m Wd es')) []) (K .emp []) (cH ((es.take h).drop l) fun es'=>K (.m6 m Wd es') []))) False) False
 | .vec hd Wd off len=>match mx with
  |none=>eP Γ t fun _ i=>cond (Nat.beq i.size Wd) (fZ W lo 0 fun l=>fZ W hi len fun h=>fp l h len fun l h=>K (.vec hd Wd (off+l) (h-l)) []) False
  |some _=>cond hi.isSome (eP Γ t fun _ i=>cond (Nat.beq i.size Wd) (fZ W lo 0 fun l=>fZ W hi len fun h=>fZ W mx h fun mm=>SZ mm fun mm'=>bT (mm'-h).natAbs 1 (fp l h len fun l h=>K (.vec hd Wd (off+l) (h-l)) [])) False) False
 |_=>False
def nw (t:TypeId) (f:Nat) (K:Nat->TI->Prop):Prop:=
 match Γ t with
 |some i=>match i.d with
  | .struct fs=>match fs[f]? with
   |some x=>match Γ x.2 with
    |some j=>K x.1 j
    |none=>False
   |none=>False
  |_=>False
 |none=>False
def vT (t:TypeId) (v:AV) (f:Nat) (K:AV->List (Hd×aC)->Prop):Prop:=
 nw Γ t f fun o fi=>cond (Nat.ble 1 fi.size) (match v with
  | .aF h off=>K (.aF h (off+o)) []
  | .c5 h Wd i off=>K (.c5 h Wd i (off+o)) []
  | .p (.eT m (.agg cs))=>match fi.d.agg with
   |true=>f6 cs o fi.size fun l=>K (.p (.eT m (.agg l))) []
   |false=>lN cs o fun c=>cond c.one (K (.p (.eT m c)) []) False
  |_=>False) False
def EM (t:TypeId) (v:AV) (f:Nat) (K:AV->List (Hd×aC)->Prop):Prop:=
 nw Γ t f fun o fi=>match v with
  | .p (.agg cs)=>match fi.d.agg with
   |true=>f6 cs o fi.size fun l=>K (.p (.agg l)) []
   |false=>lN cs o fun c=>K (.p c) []
  | .agg cs=>match fi.d.agg with
   |true=>fe cs o fi.size fun l=>qH l fun v=>K v []
   |false=>vH cs o fun c=>K c []
  |_=>False
def CN (t:TypeId) (K:Nat->TI->Prop):Prop:=
 match Γ t with
 |some i=>match i.d with
  | .array len e=>match Γ e with
   |some j=>K len j
   |none=>False
  |_=>False
 |none=>False
def om (t:TypeId) (v ix:AV) (K:AV->List (Hd×aC)->Prop):Prop:=
 match ix with
 | .p (.int _ n)=>match v with
  | .p (.sl m Wd es)=>eP Γ t fun _ ti=>cond (Nat.beq ti.size Wd) (aG es n fun _ e=>K (.p (.eT m e)) []) False
  | .vec h Wd off len=>eP Γ t fun _ ti=>cond (Nat.beq ti.size Wd) (aI n len fun j=>K (.c5 h Wd (j+off) 0) []) False
  | .aF h off=>CN Γ t fun len ti=>cond (Nat.ble 1 ti.size) (aI n len fun j=>K (.aF h (off+j*ti.size)) []) False
  | .c5 h Wd i off=>CN Γ t fun len ti=>cond (Nat.ble 1 ti.size) (aI n len fun j=>K (.c5 h Wd i (off+j*ti.size)) []) False
  |_=>False
 |_=>False
def Ao (t:TypeId) (v ix:AV) (K:AV->List (Hd×aC)->Prop):Prop:=
 match ix with
 | .p (.int _ n)=>match v with
  | .p (.agg cs)=>match Γ t with
   |some i=>match i.d with
    | .array len e=>match Γ e with
     |some j=>cond (Nat.beq j.size 1&&(Nat.beq len cs.length&& !j.d.agg)) (aG cs n fun _ c=>K (.p c) []) False
     |none=>False
    |_=>False
   |none=>False
  | .p (.raw (.string b))=>match Γ t with
   |some i=>match i.d with
    | .string=>aI n b.size fun j=>SZ ((b.data.getD j 0).toNat:Nat) fun z=>K (.p (.int .u8 z)) []
    |_=>False
   |none=>False
  |_=>False
 |_=>False
def jo (t:TypeId) (K:TypeId->TI->TypeId->TI->Prop):Prop:=
 match Γ t with
 |some i=>match i.d with
  | .map k e=>match Γ k with
   |some ki=>match Γ e with
    |some ei=>K k ki e ei
    |none=>False
   |none=>False
  |_=>False
 |none=>False
def TI.pb (i:TI) (p:PV):Bool:=
 match i.d with
 | .int k=>match p with
  | .int k' _=>decide (k=k')
  |_=>false
 |_=>match p with
  | .agg xs=>i.eq&&(i.d.agg&&jE i.zero xs)
  |_=>false
def iO (LK:Hd->(aC->Prop)->Prop) (v:AV) (K:List (PV×PV)->Prop):Prop:=
 match v with
 | .map h=>LK h fun B=>match B with
  | .map es=>K es
  |_=>False
 | .p (.mp _ es)=>K es
 |_=>False
def dm (LK:Hd->(aC->Prop)->Prop) (t:TypeId) (vm vk vx:AV) (K:AV->List (Hd×aC)->Prop):Prop:=
 jo Γ t fun kt ki et _=>po Γ kt vk fun key=>po Γ et vx fun val=>cond (ki.pb key) (match vm with
 | .map h=>LK h fun B=>match B with
  | .map es=>a5 ki.pb es (dc es key val fun es'=>K .undef [(h,.map es')])
  |_=>False
 |_=>False) False
def nE (LK:Hd->(aC->Prop)->Prop) (t:TypeId) (vm vk:AV) (ok:Bool) (K:AV->List (Hd×aC)->Prop):Prop:=
 jo Γ t fun kt ki _ ei=>po Γ kt vk fun key=>cond (ki.pb key) (iO LK vm fun es=>a5 ki.pb es (cd es key fun o=>match o with
  |some v=>match ok with
   |true=>K (.bq [.p v,.tf true]) []
   |false=>K (.p v) []
  |none=>oR ei fun z=>match ok with
   |true=>K (.bq [.p z,.tf false]) []
   |false=>K (.p z) [])) False
def rR (base:Nat) (t:TypeId) (v:AV) (K:AV->List (Hd×aC)->Prop):Prop:=
 jo Γ t fun _ _ _ _=>match v with
 | .p (.mp m es)=>∀es0:List (PV×PV),es0.Perm es->K (.aF base 0) [(base,.iter m es0 [])]
 |_=>False
def Be (LK:Hd->(aC->Prop)->Prop) (v:AV) (K:AV->List (Hd×aC)->Prop):Prop:=
 match v with
 | .aF h 0=>LK h fun B=>match B with
  | .iter m es seen=>Bq es seen (fun i e=>K (.bq [.tf true,.p e.1,.p e.2]) [(h,.iter m es (seen++[i]))]) (K (.bq [.tf false]) [])
  |_=>False
 |_=>False
def vr (LK:Hd->(aC->Prop)->Prop) (v:AV) (K:AV->List (Hd×aC)->Prop):Prop:=
 match v with
 | .aF h 0=>LK h fun B=>match B with
  | .iter _ es seen=>zW es seen fun e=>K (.bq [.p e.1,.p e.2]) []
  |_=>False
 |_=>False
def aY (wr:FuncId->Bool) (W:Operand->(AV->Prop)->Prop) (LK:Hd->(aC->Prop)->Prop) (L:Hd->aC) (base:Nat) (op:Op) (K:AV->List (Hd×aC)->Prop):Prop:=
 match op with
 | .move x| .assign x=>W x fun v=>K v []
 | .pick c a b=>W c fun v=>match v with
  | .tf true=>W a fun v=>K v []
  | .tf false=>W b fun v=>K v []
  | .p (.bool t)=>match t with
   |true=>W a fun v=>K v []
   |false=>W b fun v=>K v []
  |_=>False
 | .alloc t=>match Γ t with
  |some i=>ov i.zero fun cs=>K (.aF base 0) [(base,.box t cs)]
  |none=>False
 | .box t x=>W x fun v=>cellsOf Γ t v fun cs=>K (.aF base 0) [(base,.box t cs)]
 | .build t parts=>match Γ t with
  |some ⟨.struct fs,_,_,zero,_⟩=>cond (fs.all fun f=>(Γ f.2).isSome) (ov zero fun zs=>e9 Γ W (fun i=>fs[i]?) parts.toList zs fun cs=>qH cs fun v=>K v []) False
  |some ⟨.array n e,_,_,zero,_⟩=>match Γ e with
   |some i=>ov zero fun zs=>e9 Γ W (fun j=>some (j*i.size,e)) parts.toList zs fun cs=>qH cs fun v=>K v []
   |none=>False
  |_=>False
 | .buildSlice t n parts=>match Γ t with
  |some ⟨.slice e,_,_,_,_⟩=>match Γ e with
   |some i=>match n,parts.toList with
    |0,[]=>K .emp []
    |n,_=>match i.qA with
     |true=>eK W (parts.toList.map (·.2)) fun vs=>match vs.any AV.Gr with
      |true=>gY Γ W e 0 parts.toList fun cs=>cond (Nat.beq cs.length n&&(Nat.ble n 1000&&Nat.ble 1 n)) (K (.vec base 1 0 n) [(base,.rows e cs)]) False
      |false=>eJ Γ W e i.size 0 parts.toList fun es=>cond (Nat.beq es.length n&&(Nat.ble (n*i.size) 1000&&Nat.ble 1 (n*i.size))) (K (.vec base i.size 0 n) [(base,.vec e i.size es)]) False
     |false=>eJ Γ W e i.size 0 parts.toList fun es=>cond (Nat.beq es.length n&&(Nat.ble (n*i.size) 1000&&Nat.ble 1 (n*i.size))) (K (.vec base i.size 0 n) [(base,.vec e i.size es)]) False
   |none=>False
  |_=>False
 | .load t x=>W x fun v=>match v with
  | .aF h off=>LK h fun B=>match B,Γ t with
   | .box _ cs,some i=>match i.d.agg with
    |true=>fe cs off i.size fun l=>qH l fun v=>K v []
    |false=>vH cs off fun c=>K c []
   |_,_=>False
  | .c5 h W i off=>LK h fun B=>match B,Γ t with
   | .vec _ W' es,some ti=>cond (Nat.beq W W') (aG es i fun _ e=>match ti.d.agg,off,e with
    |true,0,.agg cs=>cond (Nat.beq ti.size W) (K (.p (.agg cs)) []) (f6 cs 0 ti.size fun l=>K (.p (.agg l)) [])
    |true,off+1,.agg cs=>f6 cs (off+1) ti.size fun l=>K (.p (.agg l)) []
    |false,off,e=>lN e.cells off fun c=>K (.p c) []
    |_,_,_=>False) False
   | .rows _ cs,some ti=>cond (Nat.beq W 1&&(Nat.beq off 0&& !ti.d.agg)) (cq cs i fun c=>K c []) False
   |_,_=>False
  | .p (.eT _ e)=>match Γ t with
   |some ti=>match ti.d.agg,e with
    |true,.agg cs=>cond (Nat.beq ti.size cs.length) (K (.p (.agg cs)) []) False
    |false,.agg cs=>lN cs 0 fun c=>K (.p c) []
    |false,e=>K (.p e) []
    |_,_=>False
   |none=>False
  |_=>False
 | .store t x y=>W x fun p=>W y fun v=>match p with
  | .aF h off=>LK h fun B=>match B,Γ t with
   | .box T cs,some i=>vh Γ t v fun vs=>cond (Nat.beq vs.length i.size) (gh cs off vs fun cs'=>K .undef [(h,.box T cs')]) False
   |_,_=>False
  | .c5 h W i 0=>LK h fun B=>match B,Γ t with
   | .vec T W' es,some ti=>match v with
    | .vec g Wd o l=>cond (Nat.beq W 1&&(Nat.beq W' 1&&(Nat.beq ti.size 1&& !ti.d.agg))) (Ev es (bT i es.length (pT ((es.map .p).set i (.vec g Wd o l)) fun cs'=>K .undef [(h,.rows T cs')]))) False
    |v=>cond (Nat.beq W W'&&Nat.beq ti.size W) (po Γ t v fun e=>cond (Nat.beq e.cells.length W) (bT i es.length (cH (es.set i e) fun es'=>K .undef [(h,.vec T W es')])) False) False
   | .rows T cs,some ti=>cond (Nat.beq W 1&&(Nat.beq ti.size 1&& !ti.d.agg)) (t8 Γ t v fun c=>bT i cs.length (pT (cs.set i c) fun cs'=>K .undef [(h,.rows T cs')])) False
   |_,_=>False
  |_=>False
 | .binOp op t x y _=>match isNil y with
  |true=>W x fun a=>Fg Γ op t a K
  |false=>W x fun a=>W y fun b=>Ft Γ op t a b K
 | .unOp op _ x=>W x fun v=>match op,v with
  | .neg,.p (.int k n)=>ae k (0-n) fun z=>K (.p (.int k z)) []
  | .xor,.p (.int k n)=>ae k ((BitVec.ofInt k.bits (if k.signed then-1 else k.max)^^^BitVec.ofInt k.bits n).toNat:Int) fun z=>K (.p (.int k z)) []
  | .not,.p (.bool b)=>ag (!b) fun v=>K v []
  | .not,.tf b=>K (.tf (!b)) []
  |_,_=>False
 | .nilCheck x=>W x fun v=>match v with
  | .aF h o=>K (.aF h o) []
  | .c5 h Wd i o=>K (.c5 h Wd i o) []
  | .p (.eT m e)=>K (.p (.eT m e)) []
  |_=>False
 | .convert src dst x=>W x fun v=>D5 Γ src dst v K
 | .makeFunc (.func f) fs cs=>eK W fs.toList fun fs=>eK W cs.toList fun cs=>K (.fn f fs cs) []
 | .makeSlice t l c=>match nF l with
  |true=>W c fun vc=>BI Γ base t vc K
  |false=>W l fun vl=>W c fun vc=>Ea Γ base t vl vc K
 | .slice t x lo hi mx=>W x fun v=>ob Γ W t v lo hi mx K
 | .fieldAddr t x f=>W x fun v=>vT Γ t v f K
 | .field t x f=>W x fun v=>EM Γ t v f K
 | .indexAddr t x i=>W x fun v=>W i fun ix=>om Γ t v ix K
 | .index t x i=>W x fun v=>W i fun ix=>Ao Γ t v ix K
 | .extract x i=>W x fun v=>match v with
  | .bq cs=>vH cs i fun c=>K c []
  |_=>False
 | .makeMap t none=>jo Γ t fun _ _ _ _=>K (.map base) [(base,.map [])]
 | .mapUpdate t m k x=>W m fun vm=>W k fun vk=>W x fun vx=>dm Γ LK t vm vk vx K
 | .insert t m k x=>W m fun vm=>W k fun vk=>W x fun vx=>dm Γ LK t vm vk vx K
 | .lookup t x k ok=>W x fun vm=>W k fun vk=>nE Γ LK t vm vk ok K
 | .range t x=>W x fun v=>rR Γ base t v K
 | .next x false=>W x fun v=>Be LK v K
 | .entry x=>W x fun v=>vr LK v K
 | .call ⟨.builtin b,xs,ts⟩=>eK W xs.toList fun vs=>jj Γ LK base b ts.toList vs K
 | .call ⟨.value f,xs,ts⟩=>cond (Nat.beq ts.toList.length xs.toList.length) (W f fun vf=>match vf with
  | .fn fid fs cs=>eK W xs.toList fun vs=>jk Γ L LK (wr fid) ((fs.map fun v=>(0,v))++(ts.toList.zip vs++cs.map fun v=>(0,v))) fun args=>ab P (wr fid) fid (fs++(vs++cs)) args L base K
  | .p (.fn fid cs)=>eK W xs.toList fun vs=>jk Γ L LK (wr fid) (ts.toList.zip vs++cs.map fun v=>(0,.p v)) fun args=>ab P (wr fid) fid (vs++cs.map .p) args L base K
  | .p (.je fid fs)=>eK W xs.toList fun vs=>jk Γ L LK (wr fid) ((fs.map fun v=>(0,.p v))++ts.toList.zip vs) fun args=>ab P (wr fid) fid (fs.map .p++vs) args L base K
  |_=>False) False
 |_=>False
end
end
section
def Ax:Value->AV
 | .int k n=>.p (.int k n)
 | .bool b=>.tf b
 | .slice none 0 0=>.emp
 | .pointer none=>.p (.raw (.pointer none))
 | .map none=>.p (.raw (.map none))
 | .nilFunc=>.p (.raw .nilFunc)
 | .string b=>.p (.raw (.string b))
 |_=>.any
def cf (s:Nat->AV):Operand->AV
 | .tmp t=>s t
 | .const v=>Ax v
 | .global _=>.any
 | .func f=>.fn f [] []
theorem AP (w FB β) (v:Value):VR w FB β (Ax v) v:=by
 unfold Ax
 split<;>first|exact .p (.int _ _)|exact .tf _|exact .jh|exact .p (.raw _ rfl)|exact .any _
theorem sD (v:Value) (k:Hd):¬(Ax v).aU k:=by
 unfold Ax
 split<;>exact fun h=>by simp only[AV.aU]at h
section
variable {E:Env} {n:Nat} {s:Nat->AV} {L:Hd->aC} {a:Act} {w:World} {F:Nat->Prop} {β:Hd->Option Nat×Nat}
theorem b7.ev (h:b7 E n s L a w F β) (x:Operand):VR w (aQ E.bM F) β (cf s x) (a.eval x):=by
 cases x with
 |tmp t=>exact h.fU t
 |const v=>exact AP _ _ _ v
 |global g=>exact .any _
 |func f=>exact .fn f [] [] #[] #[] rfl (by simp) rfl (by simp)
theorem b7.ug (h:b7 E n s L a w F β) (x:Operand) (k:Hd) (hk:(cf s x).aU k):L k≠ .free:=by
 cases x with
 |tmp t=>exact h.ms t k hk
 |const v=>exact(sD v k hk).elim
 |global g=>simp only[cf,AV.aU]at hk
 |func f=>simp only[cf,AV.aU,AV.bo,or_self]at hk
end
def fh (L:Hd->aC) (h:Hd) (P:aC):Hd->aC:=
 match h with
 | .t n=>fun g=>match g with
  | .t m=>if m=n then .dead else L (.t m)
  | .r m k=>if m=n then P.row k else L (.r m k)
 | .r n k=>bz L (.r n k) P
def dL (L:Hd->aC) (h:Hd) (B:aC):Hd->aC:=
 match B with
 | .bt T W rows=>fh L h (.bt T W rows)
 |B=>bz L h B
theorem mP {L:Hd->aC} {h:Hd} {B:aC} (hB:B.live):dL L h B=bz L h B:=by cases B<;>first|rfl|exact hB.elim
def a7 (L:Hd->aC) (ups:List (Hd×aC)):Hd->aC:=ups.foldl (fun L x=>dL L x.1 x.2) L
def Out (P:Program) (E:Env) (n:Nat) (s:Nat->AV) (L:Hd->aC) (a:Act) (K:AV->List (Hd×aC)->Prop):Result Value->Prop
 | .ok x w'=>∃v ups F β,K v ups/\b7 E n s (a7 L ups) a w' F β/\VR w' (aQ E.bM F) β v x/\∀k,v.aU k->a7 L ups k≠ .free
 | .halt _ _=>False
section
variable {P:Program} {E:Env} {n:Nat} {s:Nat->AV} {L:Hd->aC} {a:Act} {w:World} {F:Nat->Prop} {β:Hd->Option Nat×Nat} {K:AV->List (Hd×aC)->Prop}
theorem Out.same (h:b7 E n s L a w F β) {v:AV} {x:Value} (hk:K v []) (hv:VR w (aQ E.bM F) β v x) (hm:∀k,v.aU k->L k≠ .free):Out P E n s L a K (.ok x w):=
 ⟨v,[],F,β,hk,h,hv,hm⟩
theorem Out.int (h:b7 E n s L a w F β) {k:IntKind} {z:Int} (hk:K (.p (.int k z)) []):Out P E n s L a K (.ok (.int k z) w):=
 .same h hk (.p (.int k z)) fun k hk=>by simp only[AV.aU]at hk
theorem Out.bool (h:b7 E n s L a w F β) {b:Bool} (hk:ag b fun v=>K v []):Out P E n s L a K (.ok (.bool b) w):=by
 cases hk with
 |sym hk=>exact .same h hk (.p (.bool b)) fun k hk=>by simp only[AV.aU]at hk
 |yes hb hk=>subst hb;exact .same h hk (.tf true) fun k hk=>by simp only[AV.aU]at hk
 |no hb hk=>subst hb;exact .same h hk (.tf false) fun k hk=>by simp only[AV.aU]at hk
theorem Out.new (h:b7 E n s L a w F β) (arr:Array Value) (T:TypeId) (B:aC) (base cap:Nat) {v:AV} {x:Value} (hk:K v [(base,B)]) (hfree:L base= .free)
  (hO:nm (w.alloc (.cells arr T)) (aQ E.bM F) (bz β base (some w.heap.size,cap)) base B) (hlive:B.live) (hmen:∀j,B.aU j->L j≠ .free)
  (hv:VR (w.alloc (.cells arr T)) (aQ E.bM F) (bz β base (some w.heap.size,cap)) v x) (hm:∀k,v.aU k->k=base\/L k≠ .free):Out P E n s L a K (.ok x (w.alloc (.cells arr T))):=by
 refine⟨v,_,F,_,hk,by show b7 E n s (dL L base B) a _ F _;rw[mP hlive];exact h.alloc (.cells arr T) B base cap rfl rfl rfl rfl hfree hO hlive hmen,hv,fun k hk=>?_⟩
 show dL L base B k≠ .free
 rw[mP hlive]
 by_cases e:k=base
 ·subst e;rw[aA];exact aC.bQ hlive
 ·rw[aD _ _ e];exact(hm k hk).resolve_left e
end
theorem rz {cs:List AV} {i:Nat} {K:AV->Prop} (h:vH cs i K):∃c,cs[i]?=some c/\K c:=by
 induction cs generalizing i with
 |nil=>simp only[vH]at h
 |cons c cs ih=>
  cases i with
  |zero=>exact⟨c,rfl,h⟩
  |succ i=>exact ih (by simpa only[vH]using h)
theorem kX {cs:List PV} {i:Nat} {K:PV->Prop} (h:lN cs i K):∃c,cs[i]?=some c/\K c:=by
 induction cs generalizing i with
 |nil=>simp only[lN]at h
 |cons c cs ih=>
  cases i with
  |zero=>exact⟨c,rfl,h⟩
  |succ i=>exact ih (by simpa only[lN]using h)
theorem nL {cs:List PV} {K:List AV->Prop} (h:ov cs K):K (cs.map .p):=by
 induction cs generalizing K with
 |nil=>exact h
 |cons c cs ih=>exact ih (K:=fun l=>K (.p c::l)) h
theorem kG {cs:List AV} {K:List AV->Prop} (h:fq.rebuild cs K):K cs:=by
 induction cs generalizing K with
 |nil=>exact h
 |cons c cs ih=>exact ih (K:=fun l=>K (c::l)) h
def Eg (cs:List AV) (l:List PV):Prop:=l.length=cs.length/\(∀(i:Nat) c p,cs[i]?=some c->l[i]?=some p->c.one=true->p.one=true)/\∀w FB β (i:Nat) c p v,cs[i]?=some c->l[i]?=some p->VR w FB β c v->PR w FB p v
theorem Eg.cons {cs:List AV} {l:List PV} (h:Eg cs l) {c:AV} {p:PV} (ho:c.one=true->p.one=true) (hc:∀w FB β v,VR w FB β c v->PR w FB p v):Eg (c::cs) (p::l):=by
 refine⟨by simp[h.1],fun i c' p' h1 h2=>?_,fun w FB β i c' p' v h1 h2 hv=>?_⟩
 ·cases i with
  |zero=>simp at h1 h2;subst h1;subst h2;exact ho
  |succ i=>exact h.2.1 i c' p' (by simpa using h1) (by simpa using h2)
 cases i with
 |zero=>simp at h1 h2;subst h1;subst h2;exact hc w FB β v hv
 |succ i=>exact h.2.2 w FB β i c' p' v (by simpa using h1) (by simpa using h2) hv
theorem VR.xe {w FB β} {p:PV} {v:Value} (h:VR w FB β (.p p) v):PR w FB p v:=by cases h;assumption
theorem VR.CO {w FB β} {b:Bool} {v:Value} (h:VR w FB β (.tf b) v):PR w FB (.bool b) v:=by cases h;exact .bool b
theorem jK {cs:List AV} {K:List PV->Prop} {J:List AV->Prop} (h:fq cs K J):(∃l,K l/\Eg cs l)\/J cs:=by
 induction cs generalizing K J with
 |nil=>exact .inl ⟨[],h,rfl,by simp,by simp⟩
 |cons c cs ih=>
  have other:(fq.rebuild cs fun l=>J (c::l))->(∃l,K l/\Eg (c::cs) l)\/J (c::cs):=fun h=>.inr (kG (K:=fun l=>J (c::l)) h)
  cases c with
  |p v=>
   rcases ih (K:=fun l=>K (v::l)) (J:=fun l=>J (.p v::l)) h with⟨l,hk,hl⟩|hj
   ·exact .inl ⟨_,hk,hl.cons (fun h=>h) fun _ _ _ _=>VR.xe⟩
   ·exact .inr hj
  |tf b=>
   rcases ih (K:=fun l=>K (.bool b::l)) (J:=fun l=>J (.tf b::l)) h with⟨l,hk,hl⟩|hj
   ·exact .inl ⟨_,hk,hl.cons (fun _=>rfl) fun _ _ _ _=>VR.CO⟩
   ·exact .inr hj
  |_=>exact other h
theorem Eg.rel {cs:List AV} {l:List PV} (h:Eg cs l) {w FB β} {arr:Array Value} (hone:∀c∈cs,c.one=true) (hl:arr.size=cs.length) (hc:∀(i:Nat) c v,cs[i]?=some c->arr[i]?=some v->VR w FB β c v):PR w FB (.agg l) (.agg arr):=by
 refine .agg l arr (fun p hp=>?_) (by rw[hl,h.1]) fun i p v h1 h2=>?_
 ·obtain⟨i,hi⟩:=List.getElem?_of_mem hp
  have hi':i<cs.length:=by rw[<-h.1];exact(List.getElem?_eq_some_iff.1 hi).1
  exact h.2.1 i cs[i] p (List.getElem?_eq_getElem hi') hi (hone _ (List.getElem_mem hi'))
 have hi:i<cs.length:=by rw[<-h.1];exact(List.getElem?_eq_some_iff.1 h1).1
 exact h.2.2 w FB β i cs[i] p v (List.getElem?_eq_getElem hi) h1 (hc i _ v (List.getElem?_eq_getElem hi) h2)
theorem oo {cs:List AV} {K:AV->Prop} (h:qH cs K):∃r,K r/\(∀w FB β (arr:Array Value),(∀c∈cs,c.one=true)->arr.size=cs.length->(∀(i:Nat) c v,cs[i]?=some c->arr[i]?=some v->VR w FB β c v)->VR w FB β r (.agg arr))/\∀k,r.aU k->AV.bo cs k:=by
 rcases jK h with⟨l,hk,hl⟩|hk
 ·exact⟨_,hk,fun w FB β arr h0 h1 h2=>.p (hl.rel h0 h1 h2),fun k hk=>by simp only[AV.aU]at hk⟩
 ·exact⟨_,hk,fun w FB β arr h0 h1 h2=>.agg cs arr h0 h1 h2,fun k hk=>by simpa only[AV.aU]using hk⟩
theorem p7 {cs:List AV} {o n:Nat} {K:List AV->Prop} (h:fe cs o n K):o+n<=cs.length\/n=0->K ((cs.drop o).take n):=by
 induction cs generalizing o n K with
 |nil=>
  cases o with
  |zero=>cases n with
   |zero=>exact fun _=>h
   |succ n=>simp only[fe]at h
  |succ o=>simp only[fe]at h
 |cons c cs ih=>
  intro hl
  cases o with
  |zero=>cases n with
   |zero=>exact h
   |succ n=>
    have:=ih (o:=0) (n:=n) (K:=fun l=>K (c::l)) (by simpa only[fe]using h) (by simp at hl⊢;omega)
    simpa using this
  |succ o=>
   have:=ih (o:=o) (n:=n) (K:=K) (by simpa only[fe]using h) (by simp at hl⊢;omega)
   simpa using this
theorem nU {cs:List AV} {o n:Nat} {K:List AV->Prop} (h:fe cs o n K):o+n<=cs.length:=by
 induction cs generalizing o n K with
 |nil=>
  cases o with
  |zero=>cases n with
   |zero=>simp
   |succ n=>simp only[fe]at h
  |succ o=>simp only[fe]at h
 |cons c cs ih=>
  cases o with
  |zero=>cases n with
   |zero=>simp
   |succ n=>
    have:=ih (o:=0) (n:=n) (K:=fun l=>K (c::l)) (by simpa only[fe]using h)
    simp at this⊢;omega
  |succ o=>
   have:=ih (o:=o) (n:=n) (K:=K) (by simpa only[fe]using h)
   simp;omega
theorem jH {cs:List PV} {o n:Nat} {K:List PV->Prop} (h:f6 cs o n K):o+n<=cs.length/\K ((cs.drop o).take n):=by
 induction cs generalizing o n K with
 |nil=>
  cases o with
  |zero=>cases n with
   |zero=>exact⟨by simp,h⟩
   |succ n=>simp only[f6]at h
  |succ o=>simp only[f6]at h
 |cons c cs ih=>
  cases o with
  |zero=>cases n with
   |zero=>exact⟨by simp,h⟩
   |succ n=>
    have:=ih (o:=0) (n:=n) (K:=fun l=>K (c::l)) (by simpa only[f6]using h)
    exact⟨by simp at this⊢;omega,by simpa using this.2⟩
  |succ o=>
   have:=ih (o:=o) (n:=n) (K:=K) (by simpa only[f6]using h)
   exact⟨by simp at this⊢;omega,by simpa using this.2⟩
theorem oV {cs:List AV} {o:Nat} {vs:List AV} {K:List AV->Prop} (h:gh cs o vs K):o+vs.length<=cs.length/\K (cs.take o++vs++cs.drop (o+vs.length)):=by
 induction cs generalizing o vs K with
 |nil=>
  cases vs with
  |nil=>cases o with
   |zero=>exact⟨by simp,by simpa using(show K []from h)⟩
   |succ o=>simp only[gh]at h
  |cons v vs=>cases o<;>simp only[gh]at h
 |cons c cs ih=>
  cases o with
  |zero=>cases vs with
   |nil=>exact⟨by simp,by simpa using kG (show fq.rebuild (c::cs) K from h)⟩
   |cons v vs=>
    have:=ih (o:=0) (vs:=vs) (K:=fun l=>K (v::l)) (by simpa only[gh]using h)
    exact⟨by simp at this⊢;omega,by simpa using this.2⟩
  |succ o=>
   have:=ih (o:=o) (vs:=vs) (K:=fun l=>K (c::l)) (by cases vs<;>simpa only[gh]using h)
   refine⟨by simp at this⊢;omega,?_⟩
   have e:o+1+vs.length=(o+vs.length)+1:=by omega
   rw[e]
   simpa using this.2
section
variable {Γ:kU} {P:Program}
theorem ig {t:TypeId} {v:AV} {K:PV->Prop} (h:po Γ t v K):∃p,K p/\∀w FB β x,VR w FB β v x->PR w FB p x:=by
 unfold po at h
 split at h
 ·exact⟨_,h,fun _ _ _ _=>VR.xe⟩
 ·exact⟨_,h,fun _ _ _ _=>VR.CO⟩
 ·split at h
  ·split at h
   ·refine⟨_,h,fun w FB β x hv=>?_⟩
    cases hv with
    |jh=>exact .nil _ _ _
    |emp ad=>exact .nil _ _ _
   ·exact h.elim
  ·exact h.elim
 ·rcases jK h with⟨l,hk,hl⟩|hk
  ·refine⟨_,hk,fun w FB β x hv=>?_⟩
   cases hv with|agg _ arr h0 h1 h2=>exact hl.rel h0 h1 h2
  ·exact hk.elim
 ·rcases jK h with⟨l,hk,hl⟩|hk
  ·refine⟨_,hk,fun w FB β x hv=>?_⟩
   cases hv with
   |fn _ _ _ fs arr hfl _ h1 h2=>
    have:fs= #[]:=by cases fs;simpa using hfl
    subst this
    refine .fn _ l arr (by rw[h1,hl.1]) fun i p v h1' h2'=>?_
    have hi:i<l.length:=(List.getElem?_eq_some_iff.1 h1').1
    rw[hl.1]at hi
    exact hl.2.2 w FB β i _ p v (List.getElem?_eq_getElem hi) h1' (h2 i _ v (List.getElem?_eq_getElem hi) h2')
  ·exact hk.elim
 ·rcases jK h with⟨l,hk,hl⟩|hk
  ·refine⟨_,hk,fun w FB β x hv=>?_⟩
   cases hv with
   |fn _ _ _ fs arr hfl h2 h1 _=>
    have:arr= #[]:=by cases arr;simpa using h1
    subst this
    refine .je _ l fs (by rw[hfl,hl.1]) fun i p v h1' h2'=>?_
    have hi:i<l.length:=(List.getElem?_eq_some_iff.1 h1').1
    rw[hl.1]at hi
    exact hl.2.2 w FB β i _ p v (List.getElem?_eq_getElem hi) h1' (h2 i _ v (List.getElem?_eq_getElem hi) h2')
  ·exact hk.elim
 ·exact h.elim
theorem PR.cells {w FB} {p:PV} {x:Value} (h:PR w FB p x):x.cells.size=p.cells.length/\(∀c∈p.cells,c.one=true)/\∀(i:Nat) c y,p.cells[i]?=some c->x.cells[i]?=some y->PR w FB c y:=by
 have one:∀{p:PV} {x:Value},p.one=true->x.cells= #[x]->PR w FB p x->x.cells.size=p.cells.length/\(∀c∈p.cells,c.one=true)/\∀(i:Nat) c y,p.cells[i]?=some c->x.cells[i]?=some y->PR w FB c y:=by
  intro p x h1 h2 h
  rw[PV.dG h1,h2]
  refine⟨rfl,by simpa using h1,fun i c y e1 e2=>?_⟩
  cases i with
  |zero=>simp at e1 e2;subst e1;subst e2;exact h
  |succ i=>simp at e1
 cases h with
 |agg cs vs h0 hl h=>exact⟨hl,h0,h⟩
 |int k n=>exact one rfl rfl (.int k n)
 |bool b=>exact one rfl rfl (.bool b)
 |nil m W ad=>exact one rfl rfl (.nil m W ad)
 |sl m W es b off cap vals hc hb hW h0 hv hr=>exact one rfl rfl (.sl m W es b off cap vals hc hb hW h0 hv hr)
 |eT m e b off vals hb h0 hv hr=>exact one rfl rfl (.eT m e b off vals hb h0 hv hr)
 |fn f caps vs hl h=>exact one rfl rfl (.fn f caps vs hl h)
 |je f fs vs hl h=>exact one rfl rfl (.je f fs vs hl h)
 |mp m es es0 hp b clock en hb hm hl hk hv hbo hd=>exact one rfl rfl (.mp m es es0 hp b clock en hb hm hl hk hv hbo hd)
 |raw v h=>exact one rfl (fJ h) (.raw x h)
theorem VR.one {w FB β} {c:AV} {x:Value} (h:VR w FB β c x) (ho:c.one=true):x.cells.size=[c].length/\(∀c'∈[c],c'.one=true)/\∀(i:Nat) c' y,[c][i]?=some c'->x.cells[i]?=some y->VR w FB β c' y:=by
 rw[fJ (h.dW ho)]
 refine⟨rfl,by simpa using ho,fun i c y e1 e2=>?_⟩
 cases i with
 |zero=>simp at e1 e2;subst e1;subst e2;exact h
 |succ i=>simp at e1
theorem i3 {t:TypeId} {v:AV} {K:List AV->Prop} (h:cellsOf Γ t v K):∃cs,K cs/\(∀w FB β x,VR w FB β v x->x.cells.size=cs.length/\(∀c∈cs,c.one=true)/\∀(i:Nat) c y,cs[i]?=some c->x.cells[i]?=some y->VR w FB β c y)/\∀k,AV.bo cs k->v.aU k:=by
 have menP:∀(l:List PV) k,¬AV.bo (l.map .p) k:=by
  intro l k
  induction l with
  |nil=>simp[AV.bo]
  |cons p l ih=>simp only[List.map_cons,AV.bo,AV.aU,false_or];exact ih
 unfold cellsOf at h
 split at h
 ·refine⟨_,nL h,fun w FB β x hv=>?_,fun k hk=>(menP _ k hk).elim⟩
  obtain⟨h1,h0,h2⟩:=hv.xe.cells
  refine⟨by rw[h1];simp[PV.cells],by simpa[PV.cells,AV.one]using h0,fun i c y e1 e2=>?_⟩
  rw[List.getElem?_map]at e1
  cases e:(‹List PV›)[i]? with
  |none=>rw[e]at e1;cases e1
  |some p=>rw[e]at e1;cases e1;exact .p (h2 i p y e e2)
 ·rename_i v hna
  refine⟨_,h,fun w FB β x hv=>?_,fun k hk=>by simp only[AV.bo,AV.aU,or_self]at hk⟩
  have e:v.one=true:=by cases v<;>first|rfl|exact(hna _ rfl).elim
  exact hv.one e
 ·refine⟨_,h,fun w FB β x hv=>hv.one rfl,fun k hk=>by simpa only[AV.bo,or_false]using hk⟩
 ·have h':=h
  obtain⟨p,⟨hk,ho⟩,hp⟩:=ig (Γ:=Γ) (t:=t) (v:=.emp) (K:=fun p=>K [.p p]/\p.one=true) (by
   simp only[po]at h'⊢
   split at h'
   ·split at h'
    ·exact⟨h',rfl⟩
    ·exact h'.elim
   ·exact h'.elim)
  exact⟨_,hk,fun w FB β x hv=>(VR.p (hp w FB β x hv)).one ho,fun k hk=>by simp only[AV.bo,AV.aU,or_self]at hk⟩
 ·refine⟨_,h,fun w FB β x hv=>by cases hv with|agg _ arr h0 h1 h2=>exact⟨h1,h0,h2⟩,fun k hk=>by simpa only[AV.aU]using hk⟩
 ·refine⟨_,h,fun w FB β x hv=>hv.one rfl,fun k hk=>by simpa only[AV.bo,or_false]using hk⟩
 ·refine⟨_,h,fun w FB β x hv=>hv.one rfl,fun k hk=>by simpa only[AV.bo,or_false]using hk⟩
 ·refine⟨_,h,fun w FB β x hv=>hv.one rfl,fun k hk=>by simpa only[AV.bo,or_false]using hk⟩
 ·refine⟨_,h,fun w FB β x hv=>hv.one rfl,fun k hk=>by simpa only[AV.bo,or_false]using hk⟩
 ·refine⟨_,h,fun w FB β x hv=>hv.one rfl,fun k hk=>by simpa only[AV.bo,or_false]using hk⟩
 ·exact h.elim
theorem xX {t:TypeId} {v:AV} {K:List AV->Prop} (h:vh Γ t v K):∃cs,K cs/\(∀w FB β x,VR w FB β v x->x.cells.size=cs.length/\(∀c∈cs,c.one=true)/\∀(i:Nat) c y,cs[i]?=some c->x.cells[i]?=some y->VR w FB β c y)/\∀k,AV.bo cs k->v.aU k:=by
 unfold vh at h
 split at h
 ·cases h with
  |e h=>exact⟨_,h,fun w FB β x hv=>hv.one rfl,fun k hk=>by simp only[AV.bo,AV.aU,or_self]at hk⟩
  |s h=>exact i3 h
 ·exact i3 h
theorem VR.kD {w FB β} {v:AV} {x:Value} {K:Bool->Prop} (hv:VR w FB β v x) (h:kD v K):∃b,x= .bool b/\K b:=by
 unfold Go.Proofs.YtnilcfiemgmfdaaGreat.kD at h
 split at h
 ·cases hv;exact⟨_,rfl,h⟩
 ·cases hv with|p h'=>cases h';exact⟨_,rfl,h⟩
 ·exact h.elim
end
end
section
section
variable {P:Program} {Γ:kU} (hΓ:fk P Γ)
include hΓ
theorem wJ {t:TypeId} {i:TI} (h:Γ t=some i) (w:World):(isAgg t).run P w= .ok i.d.agg w:=by
 have:=(hΓ t i h).desc
 unfold isAgg
 cases hd:i.d with
 |other=>
  rw[hd]at this
  obtain⟨d,h1,h2⟩:=this
  cases d<;>first|exact h2.elim|(simp[run_underlying h1,Ty.agg];done)
 |struct fs=>rw[hd]at this;obtain⟨fields,h1,_⟩:=this;simp[run_underlying h1,Ty.agg]
 |_=>rw[hd]at this;simp[run_underlying this,Ty.agg]
theorem cJ {t:TypeId} {i:TI} (h:Γ t=some i) (w:World):(sizeOf t).run P w= .ok i.size w:=by
 obtain⟨info,z,h1,h2,_⟩:=(hΓ t i h).info
 simp[sizeOf,typeInfo,h1,h2]
theorem jA {t:TypeId} {i:TI} (h:Γ t=some i):∃z,(∀w,(zeroValue t).run P w= .ok z w)/\z.cells.size=i.size/\i.zero.length=i.size/\∀w FB (j:Nat) c v,i.zero[j]?=some c->z.cells[j]?=some v->PR w FB c v:=by
 obtain⟨info,z,h1,h2,h3,h4,h5,h6,h7⟩:=(hΓ t i h).info
 exact⟨z,fun w=>by simp[zeroValue,typeInfo,h1,h4],h5,h6,h7⟩
theorem lE {t:TypeId} {i:TI} (h:Γ t=some i):∃info z,P.info? t=some info/\info.size=i.size/\info.bytes=i.bytes/\info.zero=some z/\z.cells.size=i.size:=by
 obtain⟨info,z,h1,h2,h3,h4,h5,h6,h7⟩:=(hΓ t i h).info
 exact⟨info,z,h1,h2,h3,h4,h5⟩
end
section
variable {P:Program} {Γ:kU} {E:Env} {n:Nat} {s:Nat->AV} {L:Hd->aC} {a:Act} {w:World} {F:Nat->Prop} {β:Hd->Option Nat×Nat} {K:AV->List (Hd×aC)->Prop}
 {W:Operand->(AV->Prop)->Prop} {LK:Hd->(aC->Prop)->Prop}
theorem iI (hW:∀x K,W x K->K (cf s x)) (h:b7 E n s L a w F β) {x:Operand} (hk:W x fun v=>K v []):Out P E n s L a K (.ok (a.eval x) w):=
 .same h (hW _ _ hk) (h.ev x) (h.ug x)
theorem kQ (l:List PV) (k:Hd):¬AV.bo (l.map .p) k:=by
 induction l with
 |nil=>simp[AV.bo]
 |cons p l ih=>simp only[List.map_cons,AV.bo,AV.aU,false_or];exact ih
variable {wr:FuncId->Bool} {base:Nat}
theorem BO (hW:∀x K,W x K->K (cf s x)) (h:b7 E n s L a w F β) {c x y:Operand} (hk:aY Γ P wr W LK L base (.pick c x y) K):
  Out P E n s L a K ((do pure (if<-asBool (a.eval c)then a.eval x else a.eval y):Sem Value).run P w):=by
 have hc:=h.ev c
 have hk:=hW c _ hk
 generalize cf s c=vc at hk hc
 generalize a.eval c=xc at hc
 split at hk
 ·cases hc;simp[asBool];exact iI hW h hk
 ·cases hc;simp[asBool];exact iI hW h hk
 ·rename_i t
  cases hc with|p hc=>
   cases hc
   cases t
   ·simp[asBool];exact iI hW h hk
   ·simp[asBool];exact iI hW h hk
 ·exact hk.elim
theorem lJ (w:World) (o:Obj) {b:Nat} (h:b<w.heap.size):(w.alloc o).heap[b]?=w.heap[b]?:=by
 show(w.heap.push o)[b]?=_
 rw[Array.getElem?_push,if_neg (by omega)]
theorem dN (w:World) (o:Obj):(w.alloc o).heap[w.heap.size]?=some o:=by
 show(w.heap.push o)[w.heap.size]?=_
 rw[Array.getElem?_push,if_pos rfl]
theorem b7.CC (h:b7 E n s L a w F β):∀m b,aQ E.bM F m b->b<w.heap.size:=by
 intro m b hb
 cases m
 ·exact h.kd b hb
 ·exact Nat.lt_of_lt_of_le (h.f5 b (h.uO b hb)) h.size
theorem b7.lQ (h:b7 E n s L a w F β) (o:Obj) (hfree:L base= .free) (r:Option Nat×Nat) {v:AV} {x:Value} (hv:VR w (aQ E.bM F) β v x) (hm:∀k,v.aU k->L k≠ .free):
  VR (w.alloc o) (aQ E.bM F) (bz β base r) v x:=
 hv.mono (fun _ _=>id) (fun m b hb=>lJ w o (h.CC m b hb)) fun k hk=>aD _ _ fun e=>hm k hk (e▸hfree)
theorem b7.fS (h:b7 E n s L a w F β) (o:Obj) {v:PV} {x:Value} (hv:PR w (aQ E.bM F) v x):PR (w.alloc o) (aQ E.bM F) v x:=
 hv.mono (fun _ _=>id) (fun m b hb=>lJ w o (h.CC m b hb))
theorem uc (h:b7 E n s L a w F β) (hf:∀v ups,K v ups->∀x∈ups,base<=x.1.key->dT L x.1.key) {t:TypeId} {arr:Array Value} {cs:List AV} (hk:K (.aF base 0) [(base,.box t cs)])
  (hone:∀c∈cs,c.one=true) (hl:arr.size=cs.length) (hc:∀(i:Nat) c v,cs[i]?=some c->arr[i]?=some v->VR w (aQ E.bM F) β c v) (hm:∀k,AV.bo cs k->L k≠ .free):
  Out P E n s L a K (.ok (.pointer (some ⟨w.heap.size,0,none⟩)) (w.alloc (.cells arr t))):=by
 have hfree:L base= .free:=(hf _ _ hk (base,.box t cs) (by simp) (Nat.le_refl _)).1
 refine .new h arr t (.box t cs) base 0 hk hfree ⟨hone,w.heap.size,arr,by rw[aA],dN w _,hl,fun i c v h1 h2=>?_⟩ trivial (fun j hj=>hm j hj) (.aF (by rw[aA])) (fun k hk=>.inl hk.symm)
 exact h.lQ _ hfree _ (hc i c v h1 h2) fun k hk=>hm k (AV.bm (List.mem_of_getElem? h1) hk)
theorem yN (hΓ:fk P Γ) (h:b7 E n s L a w F β) (hf:∀v ups,K v ups->∀x∈ups,base<=x.1.key->dT L x.1.key) {t:TypeId} (hk:aY Γ P wr W LK L base (.alloc t) K):
  Out P E n s L a K ((Instr.alloc t true (.tuple #[])).run P w):=by
 simp only[aY]at hk
 split at hk
 ·rename_i i hi
  obtain⟨z,hz,h1,h2,h3⟩:=jA hΓ hi
  have hk:=nL hk
  have hr:(Instr.alloc t true (.tuple #[])).run P w= .ok (.pointer (some ⟨w.heap.size,0,none⟩)) (w.alloc (.cells z.cells t)):=by
   simp[Instr.alloc,hz,newVar,newRow]
  rw[hr]
  refine uc h hf hk (fun c hc=>?_) (by rw[h1];simp[h2]) (fun j c v e1 e2=>?_) fun k hk=>(kQ _ k hk).elim
  ·obtain⟨p,hp,rfl⟩:=List.mem_map.1 hc;exact(hΓ t i hi).plain p hp
  ·rw[List.getElem?_map]at e1
   cases e:i.zero[j]? with
   |none=>rw[e]at e1;cases e1
   |some p=>rw[e]at e1;cases e1;exact .p (h3 w _ j p v e e2)
 ·exact hk.elim
theorem Df (hW:∀x K,W x K->K (cf s x)) (h:b7 E n s L a w F β) (hf:∀v ups,K v ups->∀x∈ups,base<=x.1.key->dT L x.1.key) {t:TypeId} {x:Operand} (hk:aY Γ P wr W LK L base (.box t x) K):
  Out P E n s L a K ((Instr.box t (a.eval x)).run P w):=by
 obtain⟨cs,hk,hc,hm⟩:=i3 (hW x _ hk)
 obtain⟨h1,h0,h2⟩:=hc _ _ _ _ (h.ev x)
 have hr:(Instr.box t (a.eval x)).run P w= .ok (.pointer (some ⟨w.heap.size,0,none⟩)) (w.alloc (.cells (a.eval x).cells t)):=by
  simp[Instr.box,newVar,newRow]
 rw[hr]
 exact uc h hf hk h0 h1 h2 fun k hk=>h.ug x k (hm k hk)
theorem dy (hΓ:fk P Γ) {t:TypeId} {i:TI} (hi:Γ t=some i) (w:World) (b off:Nat) (f:Nat->Value) (hc:∀j,j<(if i.d.agg then i.size else 1)->w.cell? ⟨b,off+j,none⟩=some (f j)):
  (Instr.loadAt t (.pointer (some ⟨b,off,none⟩))).run P w= .ok (if i.d.agg then .agg ((List.range i.size).map f).toArray else f 0) w:=by
 have ha:=wJ hΓ hi w
 have hs:=cJ hΓ hi w
 cases e:i.d.agg with
 |true=>
  rw[e]at ha hc
  have hl:=run_loadCells (P:=P) w ⟨b,off,none⟩ i.size f (fun j hj=>by rw[Addr.add_lit];exact hc j (by simpa using hj))
  simp[Instr.loadAt,Instr.sureAddr,loadVar,ha,hs,hl]
 |false=>
  rw[e]at ha hc
  have h0:=hc 0 (by simp)
  simp only[Nat.add_zero]at h0
  simp[Instr.loadAt,Instr.sureAddr,loadVar,ha,h0]
theorem iM (f:Nat->Value) (m i:Nat) (v:Value) (h:((List.range m).map f).toArray[i]?=some v):i<m/\v=f i:=by
 simp only[List.getElem?_toArray,List.getElem?_map,List.getElem?_range']at h
 by_cases hi:i<m
 ·rw[List.getElem?_range hi]at h;cases h;exact⟨hi,rfl⟩
 ·rw[List.getElem?_eq_none (by simp;omega)]at h;cases h
theorem tI {cs l:List AV} (h:∀c∈l,c∈cs) {k:Hd} (hk:AV.bo l k):AV.bo cs k:=by
 induction l with
 |nil=>simp only[AV.bo]at hk
 |cons c l ih=>
  simp only[AV.bo]at hk
  rcases hk with hk|hk
  ·exact AV.bm (h c (by simp)) hk
  ·exact ih (fun c hc=>h c (by simp[hc])) hk
inductive FQ (L:Hd->aC) (w:World) (FB:Bool->Nat->Prop) (β:Hd->Option Nat×Nat) (K:AV->List (Hd×aC)->Prop):Result Value->Prop
 |mk {v:AV} {x:Value} (hk:K v []) (hv:VR w FB β v x) (hm:∀k,v.aU k->L k≠ .free):FQ L w FB β K (.ok x w)
theorem xt (hΓ:fk P Γ) (hW:∀x K,W x K->K (cf s x)) (hL:∀h K,LK h K->K (L h)) (h:b7 E n s L a w F β) {t:TypeId} {x:Operand} (hk:aY Γ P wr W LK L base (.load t x) K):
  FQ L w (aQ E.bM F) β K ((Instr.loadAt t (a.eval x)).run P w):=by
 have hx:=h.ev x
 have hm:=h.ug x
 have hk:=hW x _ hk
 generalize cf s x=v at hk hx hm
 generalize a.eval x=y at hx
 split at hk
 ·
  rename_i hd off
  have hk:=hL hd _ hk
  have hb:=h.df hd
  have hmb:=h.mb hd
  generalize hB:L hd=B at hk hb hmb
  split at hk
  ·rename_i T cs i hi
   obtain⟨h0,b,arr,g1,g2,g3,g4⟩:=hb
   cases hx with| @aF _ _ b' hb'=>
   rw[g1]at hb';cases hb'
   have cell:∀j,off+j<cs.length->w.cell? ⟨b,off+j,none⟩=some (arr.getD (off+j) Go.undef):=fun j hj=>by
    simp only[World.cell?,g2];simp[Array.getD,g3,hj]
   split at hk
   ·rename_i ha
    have hlen:=nU hk
    have hk:=p7 hk (.inl hlen)
    obtain⟨r,hk,hr,hrm⟩:=oo hk
    have hrun:=dy hΓ hi w b off (fun j=>arr.getD (off+j) Go.undef) (fun j hj=>cell j (by rw[ha]at hj;simp at hj;omega))
    rw[hrun,ha]
    simp only[if_true]
    refine .mk hk (hr _ _ _ _ (fun c hc=>h0 c (List.mem_of_mem_drop (List.mem_of_mem_take hc))) (by simp;omega) fun j c v e1 e2=>?_) fun k hk=>hmb k (tI (fun c hc=>List.mem_of_mem_drop (List.mem_of_mem_take hc)) (hrm k hk))
    obtain⟨hj,rfl⟩:=iM _ _ _ _ e2
    rw[List.getElem?_take_of_lt hj,List.getElem?_drop]at e1
    exact g4 _ c _ e1 (by simp[Array.getD,g3,(List.getElem?_eq_some_iff.1 e1).1])
   ·rename_i ha
    obtain⟨c,hc,hk⟩:=rz hk
    have hlt:=(List.getElem?_eq_some_iff.1 hc).1
    have hrun:=dy hΓ hi w b off (fun j=>arr.getD (off+j) Go.undef) (fun j hj=>cell j (by rw[ha]at hj;simp at hj;omega))
    rw[hrun,ha]
    simp only[Bool.false_eq_true,if_false,Nat.add_zero]
    exact .mk hk (g4 off c _ hc (by simp[Array.getD,g3,hlt])) fun k hk=>hmb k (AV.bm (List.mem_of_getElem? hc) hk)
  ·exact hk.elim
 ·
  rename_i hd Wd i off
  have hk:=hL hd _ hk
  have hb:=h.df hd
  have hmb:=h.mb hd
  generalize hB:L hd=B at hk hb
  split at hk
  ·rename_i T W' es ti hi
   cases hWd:Nat.beq Wd W' with
   |false=>rw[hWd]at hk;exact hk.elim
   |true=>
    rw[hWd]at hk
    have hWd:=Nat.eq_of_beq_eq_true hWd
    subst hWd
    simp only[cond_true]at hk
    cases hk with|mk j e hij he hk=>
    have hij:i=j:=by omega
    subst hij
    obtain⟨q1,q2,q3⟩:=hb
    cases hx with| @c5 _ _ _ _ b hb'=>
    obtain⟨arr,g1,g2,g3,g4⟩:∃arr,(β hd).1=some b/\w.heap[b]?=some (.cells arr T (0,0))/\arr.size=(β hd).2*Wd/\∀(i:Nat) e (j:Nat) c v,es[i]?=some e->e.cells[j]?=some c->arr[i*Wd+j]?=some v->PR w (aQ E.bM F) c v:=by
     rcases q3 with q3|⟨b',arr,g1,g2,g3,g4⟩
     ·rw[q3.1]at hb';cases hb'
     ·rw[g1]at hb';cases hb';exact⟨arr,g1,g2,g3,g4⟩
    have hlt:=(List.getElem?_eq_some_iff.1 he).1
    obtain⟨hw,hone⟩:=q1 e (List.mem_of_getElem? he)
    have hin:∀j,j<Wd->i*Wd+j<arr.size:=fun j hj=>by
     rw[g3]
     have:(i+1)*Wd<=(β hd).2*Wd:=Nat.mul_le_mul_right _ (by omega)
     rw[Nat.add_mul]at this;omega
    have cell:∀j,j<Wd->w.cell? ⟨b,i*Wd+j,none⟩=some (arr.getD (i*Wd+j) Go.undef):=fun j hj=>by
     simp only[World.cell?,g2];simp[Array.getD,hin j hj]
    cases ha:ti.d.agg with
    |true=>
     simp only[ha]at hk
     cases off with
     |succ o=>
      cases e with
      |agg cs=>
       obtain⟨hle,hk⟩:=jH hk
       have hcl:cs.length=Wd:=hw
       have hrun:=dy hΓ hi w b (i*Wd+(o+1)) (fun j=>arr.getD (i*Wd+(o+1)+j) Go.undef) (fun j hj=>by
        rw[ha]at hj;simp at hj
        have:=cell ((o+1)+j) (by omega)
        rwa[<-Nat.add_assoc]at this)
       rw[hrun,ha]
       simp only[if_true]
       refine .mk hk (.p (.agg _ _ (fun c hc=>hone c (List.mem_of_mem_drop (List.mem_of_mem_take hc))) (by simp;omega) fun j c v e1 e2=>?_)) fun k hk=>by simp only[AV.aU]at hk
       obtain⟨hj,rfl⟩:=iM _ _ _ _ e2
       rw[List.getElem?_take_of_lt hj,List.getElem?_drop]at e1
       have hin:=hin ((o+1)+j) (by omega)
       rw[<-Nat.add_assoc]at hin
       have gs:∀m,m<arr.size->arr[m]?=some (arr.getD m Go.undef):=fun m hm=>by simp[Array.getD,hm]
       exact g4 i _ ((o+1)+j) c _ he e1 (by rw[<-Nat.add_assoc];exact gs _ hin)
      |_=>exact hk.elim
     |zero=>
      cases e with
      |agg cs=>
       cases hsz:Nat.beq ti.size Wd with
       |false=>
        rw[hsz]at hk
        have hk:f6 cs 0 ti.size fun l=>K (.p (.agg l)) []:=hk
        obtain⟨hle,hk⟩:=jH hk
        have hcl:cs.length=Wd:=hw
        have hrun:=dy hΓ hi w b (i*Wd+0) (fun j=>arr.getD (i*Wd+0+j) Go.undef) (fun j hj=>by
         rw[ha]at hj;simp at hj
         have:=cell (0+j) (by omega)
         rwa[<-Nat.add_assoc]at this)
        rw[hrun,ha]
        simp only[if_true]
        refine .mk hk (.p (.agg _ _ (fun c hc=>hone c (List.mem_of_mem_drop (List.mem_of_mem_take hc))) (by simp;omega) fun j c v e1 e2=>?_)) fun k hk=>by simp only[AV.aU]at hk
        obtain⟨hj,rfl⟩:=iM _ _ _ _ e2
        rw[List.getElem?_take_of_lt hj,List.getElem?_drop]at e1
        have hin:=hin (0+j) (by omega)
        rw[<-Nat.add_assoc]at hin
        have gs:∀m,m<arr.size->arr[m]?=some (arr.getD m Go.undef):=fun m hm=>by simp[Array.getD,hm]
        exact g4 i _ (0+j) c _ he e1 (by rw[<-Nat.add_assoc];exact gs _ hin)
       |true=>
        rw[hsz]at hk
        have hsz:=Nat.eq_of_beq_eq_true hsz
        have hrun:=dy hΓ hi w b (i*Wd+0) (fun j=>arr.getD (i*Wd+j) Go.undef) (fun j hj=>by rw[ha]at hj;simp at hj;simpa using cell j (by omega))
        rw[hrun,ha]
        simp only[if_true]
        refine .mk hk (.p (.agg cs _ hone (by simp[hsz];exact hw.symm) fun j c v e1 e2=>?_)) fun k hk=>by simp only[AV.aU]at hk
        obtain⟨hj,rfl⟩:=iM _ _ _ _ e2
        exact g4 i _ j c _ he e1 (by simp[Array.getD,hin j (by omega)])
      |_=>exact hk.elim
    |false=>
     have hk:lN e.cells off fun c=>K (.p c) []:=by simpa only[ha]using hk
     obtain⟨c,hc,hk⟩:=kX hk
     have hofl:=(List.getElem?_eq_some_iff.1 hc).1
     rw[hw]at hofl
     have hrun:=dy hΓ hi w b (i*Wd+off) (fun j=>arr.getD (i*Wd+off+j) Go.undef) (fun j hj=>by rw[ha]at hj;simp at hj;subst hj;simpa using cell off hofl)
     rw[hrun,ha]
     simp only[Bool.false_eq_true,if_false,Nat.add_zero]
     exact .mk hk (.p (g4 i _ off c _ he hc (by simp[Array.getD,hin off hofl]))) fun k hk=>by simp only[AV.aU]at hk
  ·rename_i T cs ti hi
   cases hcond:(Nat.beq Wd 1&&(Nat.beq off 0&& !ti.d.agg))with
   |false=>rw[hcond]at hk;exact hk.elim
   |true=>
    rw[hcond]at hk
    have hk2:cq cs i fun c=>K c []:=hk
    clear hk
    simp only[Bool.and_eq_true,Bool.not_eq_true']at hcond
    obtain⟨hWd,hoff,ha⟩:=hcond
    have hWd:=Nat.eq_of_beq_eq_true hWd
    have hoff:=Nat.eq_of_beq_eq_true hoff
    subst hWd hoff
    cases hk2 with|mk j c hij hc hk=>
    have hij:i=j:=by omega
    subst hij
    obtain⟨q1,q2,q3⟩:=hb
    cases hx with| @c5 _ _ _ _ b hb'=>
    obtain⟨arr,g1,g2,g3,g4⟩:∃arr,(β hd).1=some b/\w.heap[b]?=some (.cells arr T (0,0))/\arr.size=(β hd).2/\∀(i:Nat) c v,cs[i]?=some c->arr[i]?=some v->VR w (aQ E.bM F) β c v:=by
     rcases q3 with q3|⟨b',arr,g1,g2,g3,g4⟩
     ·rw[q3.1]at hb';cases hb'
     ·rw[g1]at hb';cases hb';exact⟨arr,g1,g2,g3,g4⟩
    have hlt:=(List.getElem?_eq_some_iff.1 hc).1
    have hin:i<arr.size:=by omega
    have cell:w.cell? ⟨b,i*1+0,none⟩=some (arr.getD i Go.undef):=by
     simp only[World.cell?,g2];simp[Array.getD,hin]
    have hrun:=dy hΓ hi w b (i*1+0) (fun j=>arr.getD (i+j) Go.undef) (fun j hj=>by rw[ha]at hj;simp at hj;subst hj;simpa using cell)
    rw[hrun,ha]
    simp only[Bool.false_eq_true,if_false,Nat.add_zero]
    exact .mk hk (g4 i c _ hc (by simp[Array.getD,hin])) fun k hk=>hmb k (by rw[hB];exact AV.bm (List.mem_of_getElem? hc) hk)
  ·exact hk.elim
 ·
  rename_i m e
  cases hx with|p hx=>
  cases hx with|eT _ _ b off vals hb hone hv hr=>
  split at hk
  ·rename_i ti hi
   cases ha:ti.d.agg with
   |true=>
    simp only[ha]at hk
    cases e with
    |agg cs=>
     cases hsz:Nat.beq ti.size cs.length with
     |false=>simp only[hsz]at hk;exact hk.elim
     |true=>
      simp only[hsz]at hk
      have hsz:=Nat.eq_of_beq_eq_true hsz
      have hrun:=dy hΓ hi w b off vals (fun j hj=>by rw[ha]at hj;simp at hj;exact hv j _ (List.getElem?_eq_getElem (by show j<cs.length;omega)))
      rw[hrun,ha]
      simp only[if_true]
      refine .mk hk (.p (.agg cs _ hone (by simp[hsz]) fun j c v e1 e2=>?_)) fun k hk=>by simp only[AV.aU]at hk
      obtain⟨hj,rfl⟩:=iM _ _ _ _ e2
      exact hr j c e1
    |_=>exact hk.elim
   |false=>
    have key:∃c,e.cells[0]?=some c/\K (.p c) []:=by
     simp only[ha]at hk
     cases e with
     |agg cs=>exact kX hk
     |_=>exact⟨_,rfl,hk⟩
    obtain⟨c,hc,hk⟩:=key
    have hrun:=dy hΓ hi w b off vals (fun j hj=>by rw[ha]at hj;simp at hj;subst hj;exact hv 0 c hc)
    rw[hrun,ha]
    simp only[Bool.false_eq_true,if_false]
    exact .mk hk (.p (hr 0 c hc)) fun k hk=>by simp only[AV.aU]at hk
  ·exact hk.elim
 ·exact hk.elim
theorem BX (hΓ:fk P Γ) (hW:∀x K,W x K->K (cf s x)) (hL:∀h K,LK h K->K (L h)) (h:b7 E n s L a w F β) {t:TypeId} {x:Operand} (hk:aY Γ P wr W LK L base (.load t x) K):
  Out P E n s L a K ((Instr.loadAt t (a.eval x)).run P w):=by
 have:=xt hΓ hW hL h hk
 generalize(Instr.loadAt t (a.eval x)).run P w=r at this
 cases this with
 |mk hk hv hm=>exact .same h hk hv hm
end
end
section
section
variable {P:Program} {Γ:kU} {E:Env} {n:Nat} {s:Nat->AV} {L:Hd->aC} {a:Act} {w:World} {F:Nat->Prop} {β:Hd->Option Nat×Nat} {K:AV->List (Hd×aC)->Prop}
 {W:Operand->(AV->Prop)->Prop} {LK:Hd->(aC->Prop)->Prop} {wr:FuncId->Bool} {base:Nat}
theorem jr (hΓ:fk P Γ) {t:TypeId} {i:TI} (hi:Γ t=some i) (w:World) (b off:Nat) (T:TypeId) (arr:Array Value) (x:Value) (hb:w.heap[b]?=some (.cells arr T (0,0)))
  (hs:x.cells.size=i.size) (hl:off+i.size<=arr.size) (h1:∀v∈x.cells.toList,v.oneCell'=true):
  (Instr.storeAt t (.pointer (some ⟨b,off,none⟩)) x).run P w= .ok () (w.setRow b (arr.toList.take off++x.cells.toList++arr.toList.drop (off+i.size)).toArray):=by
 have hsz:=cJ hΓ hi w
 have hst:=run_storeCells_at P b off T x.cells.toList 0 arr w hb (by simp[hs];omega) h1
 simp only[Nat.add_zero,Array.length_toList,hs]at hst
 simp[Instr.storeAt,Instr.sureAddr,storeVar,hsz,hs,hst]
theorem l6 (h:b7 E n s L a w F β) {hd:Hd} {b:Nat} {T:TypeId} {arr arr':Array Value} {B:aC} (hk:K .undef [(hd,B)]) (hl:(L hd).live) (hb:(β hd).1=some b) (hh:w.heap[b]?=some (.cells arr T (0,0)))
  (hO:nm (w.setRow b arr') (aQ E.bM F) β hd B) (hlive:B.live) (hmen:∀j,B.aU j->L j≠ .free):Out P E n s L a K (.ok Go.undef (w.setRow b arr')):=
 ⟨.undef,_,F,β,hk,by show b7 E n s (dL L hd B) a _ F β;rw[mP hlive];exact h.write B hd rfl rfl rfl (by simp) hb (fun b' hb'=>setRow_other w b b' arr' hb') hl hO hlive hmen,.undef,fun k hk=>by simp only[AV.aU]at hk⟩
theorem b7.vq (h:b7 E n s L a w F β) {hd:Hd} {b:Nat} (hl:(L hd).live) (hb:(β hd).1=some b) (arr':Array Value) {v:PV} {x:Value} (hv:PR w (aQ E.bM F) v x):PR (w.setRow b arr') (aQ E.bM F) v x:=
 hv.mono (fun _ _=>id) fun m b' hb'=>setRow_other w b b' arr' (by
  have:=h.own hd b hl hb
  intro e;subst e
  cases m
  ·exact this.1 hb'
  ·exact this.2.1 (h.uO _ hb'))
theorem b7.vJ (h:b7 E n s L a w F β) {hd:Hd} {b:Nat} (hl:(L hd).live) (hb:(β hd).1=some b) (arr':Array Value) {v:AV} {x:Value} (hv:VR w (aQ E.bM F) β v x):VR (w.setRow b arr') (aQ E.bM F) β v x:=
 hv.mono (fun _ _=>id) (fun m b' hb'=>setRow_other w b b' arr' (by
  have:=h.own hd b hl hb
  intro e;subst e
  cases m
  ·exact this.1 hb'
  ·exact this.2.1 (h.uO _ hb'))) fun _ _=>rfl
theorem de {α:Type} (cs vs:List α) (o j:Nat) (h:o+vs.length<=cs.length):(cs.take o++vs++cs.drop (o+vs.length))[j]?=if j<o then cs[j]? else if j<o+vs.length then vs[j-o]? else cs[j]?:=by
 split
 ·rw[List.append_assoc,List.getElem?_append_left (by simp;omega),List.getElem?_take_of_lt (by assumption)]
 ·split
  ·rw[List.append_assoc,List.getElem?_append_right (by simp;omega)]
   simp only[List.length_take,Nat.min_eq_left (show o<=cs.length by omega)]
   rw[List.getElem?_append_left (by omega)]
  ·rw[List.getElem?_append_right (by simp;omega)]
   simp only[List.length_append,List.length_take,Nat.min_eq_left (show o<=cs.length by omega),List.getElem?_drop]
   congr 1;omega
theorem oB {e:TypeId} {v:AV} {K:AV->Prop} (h:t8 Γ e v K):∃c,K c/\c.one=true/\(∀w FB β x,VR w FB β v x->VR w FB β c x)/\∀k,c.aU k->v.aU k:=by
 unfold t8 at h
 split at h
 ·exact⟨_,h,rfl,fun _ _ _ _ hx=>hx,fun _ hk=>hk⟩
 ·obtain⟨p,hk,hp⟩:=ig h
  cases ho:p.one with
  |false=>rw[ho]at hk;exact hk.elim
  |true=>rw[ho]at hk;exact⟨_,hk,ho,fun w FB β x hx=>.p (hp w FB β x hx),fun k hk=>by simp only[AV.aU]at hk⟩
theorem nZ (hΓ:fk P Γ) (h:b7 E n s L a w F β) {t T:TypeId} {ti:TI} (hi:Γ t=some ti) (hsz:ti.size=1) {hd:Hd} {b i:Nat} {arr:Array Value} {cs:List AV} {c:AV} {y:Value} (hlv:(L hd).live) (g1:(β hd).1=some b)
  (g2:w.heap[b]?=some (.cells arr T (0,0))) (g3:arr.size=(β hd).2) (h1:∀c∈cs,c.one=true) (h2:cs.length<=(β hd).2) (g4:∀(i:Nat) c v,cs[i]?=some c->arr[i]?=some v->VR w (aQ E.bM F) β c v)
  (hc:VR w (aQ E.bM F) β c y) (hone:c.one=true) (hlt:i<cs.length) (hm:∀k,c.aU k->L k≠ .free) (hmb:∀k,AV.bo cs k->L k≠ .free) (hk:K .undef [(hd,.rows T (cs.set i c))]):
  ∃w',(Instr.storeAt t (.pointer (some ⟨b,i*1+0,none⟩)) y).run P w= .ok () w'/\Out P E n s L a K (.ok Go.undef w'):=by
 have hcell:y.cells= #[y]:=fJ (hc.dW hone)
 have hrun:=jr hΓ hi w b (i*1+0) T arr y g2 (by rw[hcell,hsz];rfl) (by omega) (by rw[hcell];intro v hv;simp at hv;subst hv;exact hc.dW hone)
 have one_set:∀d∈cs.set i c,d.one=true:=fun d hd=>by
  rcases List.mem_or_eq_of_mem_set hd with hd|hd
  ·exact h1 d hd
  ·subst hd;exact hone
 refine⟨_,hrun,l6 h hk hlv g1 g2 ⟨one_set,by simpa using h2,.inr ⟨b,_,g1,setRow_heap w b arr _ T _ g2,?_,fun j d v e1 e2=>?_⟩⟩ trivial fun j hj=>?_⟩
 ·simp[hcell,hsz];omega
 ·refine h.vJ hlv g1 _ ?_
  simp only[List.getElem?_toArray]at e2
  have eg:=de arr.toList y.cells.toList (i*1+0) j (by simp[hcell];omega)
  have hl1:y.cells.toList.length=1:=by rw[hcell];rfl
  rw[hl1]at eg
  rw[hsz,eg]at e2
  by_cases hji:j=i
  ·subst hji
   rw[List.getElem?_set_self hlt]at e1
   cases e1
   rw[if_neg (by omega),if_pos (by omega)]at e2
   rw[hcell]at e2
   have:j-(j*1+0)=0:=by omega
   rw[this]at e2
   cases e2
   exact hc
  ·rw[List.getElem?_set_ne (by omega)]at e1
   by_cases hlt':j<i
   ·rw[if_pos (by omega)]at e2;exact g4 j d v e1 (by simpa using e2)
   ·rw[if_neg (by omega),if_neg (by omega)]at e2;exact g4 j d v e1 (by simpa using e2)
 ·have hj:AV.bo (cs.set i c) j:=hj
  have:∀l:List AV,AV.bo l j->∃c,c∈l/\c.aU j:=by
   intro l
   induction l with
   |nil=>intro h;simp only[AV.bo]at h
   |cons c l ih=>
    intro h
    simp only[AV.bo]at h
    rcases h with h|h
    ·exact⟨c,by simp,h⟩
    ·obtain⟨c',h1,h2⟩:=ih h;exact⟨c',by simp[h1],h2⟩
  obtain⟨d,hd,hdm⟩:=this _ hj
  rcases List.mem_or_eq_of_mem_set hd with hd|hd
  ·exact hmb j (AV.bm hd hdm)
  ·subst hd;exact hm j hdm
theorem yk (hΓ:fk P Γ) (hW:∀x K,W x K->K (cf s x)) (hL:∀h K,LK h K->K (L h)) (h:b7 E n s L a w F β) {t:TypeId} {x y:Operand} (hk:aY Γ P wr W LK L base (.store t x y) K):
  ∃w',(Instr.storeAt t (a.eval x) (a.eval y)).run P w= .ok () w'/\Out P E n s L a K (.ok Go.undef w'):=by
 have hx:=h.ev x
 have hy:=h.ev y
 have hmy:=h.ug y
 have hk:=hW y _ (hW x _ hk)
 generalize cf s x=vx at hk hx
 generalize cf s y=vy at hk hy hmy
 generalize a.eval x=ax at hx
 generalize a.eval y=ay at hy
 split at hk
 ·rename_i hd off
  have hk:=hL hd _ hk
  have hb:=h.df hd
  have hmb:=h.mb hd
  generalize hB:L hd=B at hk hb hmb
  split at hk
  ·rename_i T cs i hi
   obtain⟨h0,b,arr,g1,g2,g3,g4⟩:=hb
   cases hx with| @aF _ _ b' hb'=>
   rw[g1]at hb';cases hb'
   obtain⟨vs,hk,hc,hm⟩:=xX hk
   obtain⟨c1,c0,c2⟩:=hc _ _ _ _ hy
   cases hsz:Nat.beq vs.length i.size with
   |false=>rw[hsz]at hk;exact hk.elim
   |true=>
    rw[hsz]at hk
    have hsz:=Nat.eq_of_beq_eq_true hsz
    obtain⟨hlen,hk⟩:=oV (K:=fun cs'=>K .undef [(hd,.box T cs')]) hk
    have cone:∀v∈ay.cells.toList,v.oneCell'=true:=fun v hv=>by
     obtain⟨j,hj⟩:=List.getElem?_of_mem hv
     have hj':j<vs.length:=by rw[<-c1];simpa using(List.getElem?_eq_some_iff.1 hj).1
     exact(c2 j vs[j] v (List.getElem?_eq_getElem hj') (by simpa using hj)).dW (c0 _ (List.getElem_mem hj'))
    have hrun:=jr hΓ hi w b off T arr ay g2 (by rw[c1,hsz]) (by omega) cone
    have hlv:(L hd).live:=by rw[hB];trivial
    refine⟨_,hrun,l6 h hk hlv g1 g2 ⟨fun c hc=>?_,b,_,g1,setRow_heap w b arr _ T _ g2,?_,fun j c v e1 e2=>?_⟩ trivial fun j hj=>?_⟩
    ·simp only[List.mem_append]at hc
     rcases hc with(hc|hc)|hc
     ·exact h0 c (List.mem_of_mem_take hc)
     ·exact c0 c hc
     ·exact h0 c (List.mem_of_mem_drop hc)
    ·simp[c1];omega
    ·rw[de _ _ _ _ hlen]at e1
     simp only[List.getElem?_toArray]at e2
     have e:=de arr.toList ay.cells.toList off j (by simp[c1];omega)
     simp only[Array.length_toList,c1]at e
     rw[<-hsz,e]at e2
     refine h.vJ hlv g1 _ ?_
     split at e1
     ·rename_i hj;rw[if_pos hj]at e2;exact g4 j c v e1 (by simpa using e2)
     ·rename_i hj
      rw[if_neg hj]at e2
      split at e1
      ·rename_i hj';rw[if_pos hj']at e2;exact c2 (j-off) c v e1 (by simpa using e2)
      ·rename_i hj';rw[if_neg hj']at e2;exact g4 j c v e1 (by simpa using e2)
    ·obtain⟨c,hc,hcm⟩:∃c,c∈cs.take off++vs++cs.drop (off+vs.length)/\c.aU j:=by
      have:∀l:List AV,AV.bo l j->∃c,c∈l/\c.aU j:=by
       intro l
       induction l with
       |nil=>intro h;simp only[AV.bo]at h
       |cons c l ih=>
        intro h
        simp only[AV.bo]at h
        rcases h with h|h
        ·exact⟨c,by simp,h⟩
        ·obtain⟨c',h1,h2⟩:=ih h;exact⟨c',by simp[h1],h2⟩
      exact this _ hj
     simp only[List.mem_append]at hc
     rcases hc with(hc|hc)|hc
     ·exact hmb j (AV.bm (List.mem_of_mem_take hc) hcm)
     ·exact hmy j (hm j (AV.bm hc hcm))
     ·exact hmb j (AV.bm (List.mem_of_mem_drop hc) hcm)
  ·exact hk.elim
 ·rename_i hd Wd i
  have hk:=hL hd _ hk
  have hb:=h.df hd
  have hmb:=h.mb hd
  generalize hB:L hd=B at hk hb hmb
  have hlv:B.live->(L hd).live:=fun h=>by rw[hB];exact h
  split at hk
  ·rename_i T W' es ti hi
   split at hk
   ·rename_i g Wg og lg _
    obtain⟨hb1,hk2⟩:(((Nat.beq Wd 1&&(Nat.beq W' 1&&(Nat.beq ti.size 1&& !ti.d.agg))))=true)/\Ev es (bT i es.length (pT ((es.map .p).set i (.vec g Wg og lg)) fun cs'=>K .undef [(hd,.rows T cs')])):=by
     cases hc:(Nat.beq Wd 1&&(Nat.beq W' 1&&(Nat.beq ti.size 1&& !ti.d.agg)))with
     |false=>rw[hc]at hk;exact hk.elim
     |true=>rw[hc]at hk;exact⟨rfl,hk⟩
    simp only[Bool.and_eq_true]at hb1
    have hW1:=Nat.eq_of_beq_eq_true hb1.1
    have hW2:=Nat.eq_of_beq_eq_true hb1.2.1
    have hW3:=Nat.eq_of_beq_eq_true hb1.2.2.1
    subst hW1;subst hW2
    clear hk
    cases hk2 with|mk eone hk=>
    cases hk with|mk hlt hk=>
    cases hk with|mk cs' hcs hk=>
    subst hcs
    obtain⟨q1,q2,q3⟩:=hb
    cases hx with| @c5 _ _ _ _ b hb'=>
    obtain⟨arr,g1,g2,g3,g4⟩:∃arr,(β hd).1=some b/\w.heap[b]?=some (.cells arr T (0,0))/\arr.size=(β hd).2*1/\∀(i:Nat) e (j:Nat) c v,es[i]?=some e->e.cells[j]?=some c->arr[i*1+j]?=some v->PR w (aQ E.bM F) c v:=by
     rcases q3 with q3|⟨b',arr,g1,g2,g3,g4⟩
     ·rw[q3.1]at hb';cases hb'
     ·rw[g1]at hb';cases hb';exact⟨arr,g1,g2,g3,g4⟩
    refine nZ hΓ h hi hW3 (hlv trivial) g1 g2 (by omega) (fun c hc=>?_) (by simpa using q2) (fun j c v e1 e2=>?_) hy rfl (by simpa using hlt) hmy (fun k hk=>?_) hk
    ·obtain⟨e,he,rfl⟩:=List.mem_map.1 hc
     exact eone e he
    ·rw[List.getElem?_map]at e1
     obtain⟨e,he,rfl⟩:=Option.map_eq_some_iff.1 e1
     exact .p (g4 j e 0 e v he (by rw[PV.dG (eone e (List.mem_of_getElem? he))];rfl) (by simpa using e2))
    ·exact(kQ _ _ hk).elim
   cases hWd:(Nat.beq Wd W'&&Nat.beq ti.size Wd)with
   |false=>rw[hWd]at hk;exact hk.elim
   |true=>
    rw[hWd]at hk
    simp only[Bool.and_eq_true]at hWd
    have hW1:=Nat.eq_of_beq_eq_true hWd.1
    have hW2:=Nat.eq_of_beq_eq_true hWd.2
    subst hW1
    obtain⟨e,hk,he⟩:=ig hk
    have hpe:=he _ _ _ _ hy
    obtain⟨c1,c0,c2⟩:=hpe.cells
    cases hsz:Nat.beq e.cells.length Wd with
    |false=>rw[hsz]at hk;exact hk.elim
    |true=>
     rw[hsz]at hk
     have hsz:=Nat.eq_of_beq_eq_true hsz
     cases hk with|mk hlt hk=>
     cases hk with|mk es' hes hk=>
     subst hes
     obtain⟨q1,q2,q3⟩:=hb
     cases hx with| @c5 _ _ _ _ b hb'=>
     obtain⟨arr,g1,g2,g3,g4⟩:∃arr,(β hd).1=some b/\w.heap[b]?=some (.cells arr T (0,0))/\arr.size=(β hd).2*Wd/\∀(i:Nat) e (j:Nat) c v,es[i]?=some e->e.cells[j]?=some c->arr[i*Wd+j]?=some v->PR w (aQ E.bM F) c v:=by
      rcases q3 with q3|⟨b',arr,g1,g2,g3,g4⟩
      ·rw[q3.1]at hb';cases hb'
      ·rw[g1]at hb';cases hb';exact⟨arr,g1,g2,g3,g4⟩
     have hroom:i*Wd+Wd<=arr.size:=by
      rw[g3]
      have:(i+1)*Wd<=(β hd).2*Wd:=Nat.mul_le_mul_right _ (by omega)
      rw[Nat.add_mul]at this;omega
     have cone:∀v∈ay.cells.toList,v.oneCell'=true:=fun v hv=>by
      obtain⟨j,hj⟩:=List.getElem?_of_mem hv
      have hj':j<e.cells.length:=by rw[<-c1];simpa using(List.getElem?_eq_some_iff.1 hj).1
      exact(c2 j e.cells[j] v (List.getElem?_eq_getElem hj') (by simpa using hj)).dW (c0 _ (List.getElem_mem hj'))
     have hrun:=jr hΓ hi w b (i*Wd) T arr ay g2 (by rw[c1,hsz,hW2]) (by omega) cone
     have hlv:(L hd).live:=hlv trivial
     refine⟨_,hrun,l6 h hk hlv g1 g2 ⟨fun e' he'=>?_,by simpa using q2,.inr ⟨b,_,g1,setRow_heap w b arr _ T _ g2,?_,fun i' e' j c v e1 e2 e3=>?_⟩⟩ trivial fun j hj=>hj.elim⟩
     ·rcases List.mem_or_eq_of_mem_set he' with he'|he'
      ·exact q1 e' he'
      ·subst he';exact⟨hsz,c0⟩
     ·simp[c1,hsz];omega
     ·refine h.vq hlv g1 _ ?_
      simp only[List.getElem?_toArray]at e3
      have eg:=de arr.toList ay.cells.toList (i*Wd) (i'*Wd+j) (by simp[c1,hsz];omega)
      simp only[Array.length_toList,c1,hsz]at eg
      rw[hW2,eg]at e3
      have hjW:j<Wd:=by
       have:=(List.getElem?_eq_some_iff.1 e2).1
       rcases List.mem_or_eq_of_mem_set (List.mem_of_getElem? e1)with he'|he'
       ·rw[(q1 e' he').1]at this;exact this
       ·subst he';omega
      by_cases hii:i'=i
      ·subst hii
       rw[List.getElem?_set_self hlt]at e1
       cases e1
       rw[if_neg (by omega),if_pos (by omega)]at e3
       have:i'*Wd+j-i'*Wd=j:=by omega
       rw[this]at e3
       exact c2 j c v e2 (by simpa using e3)
      ·rw[List.getElem?_set_ne (by omega)]at e1
       have:i'*Wd+j<i*Wd\/i*Wd+Wd<=i'*Wd+j:=by
        rcases Nat.lt_or_gt_of_ne hii with hlt|hgt
        ·left
         have:(i'+1)*Wd<=i*Wd:=Nat.mul_le_mul_right _ (by omega)
         rw[Nat.add_mul]at this;omega
        ·right
         have:(i+1)*Wd<=i'*Wd:=Nat.mul_le_mul_right _ (by omega)
         rw[Nat.add_mul]at this;omega
       rcases this with hlt|hge
       ·rw[if_pos hlt]at e3;exact g4 i' e' j c v e1 e2 (by simpa using e3)
       ·rw[if_neg (by omega),if_neg (by omega)]at e3;exact g4 i' e' j c v e1 e2 (by simpa using e3)
  ·rename_i T cs ti hi
   obtain⟨hb1,hk2⟩:((Nat.beq Wd 1&&(Nat.beq ti.size 1&& !ti.d.agg))=true)/\t8 Γ t vy fun c=>bT i cs.length (pT (cs.set i c) fun cs'=>K .undef [(hd,.rows T cs')]):=by
    cases hc:(Nat.beq Wd 1&&(Nat.beq ti.size 1&& !ti.d.agg))with
    |false=>rw[hc]at hk;exact hk.elim
    |true=>rw[hc]at hk;exact⟨rfl,hk⟩
   simp only[Bool.and_eq_true]at hb1
   have hW1:=Nat.eq_of_beq_eq_true hb1.1
   have hW3:=Nat.eq_of_beq_eq_true hb1.2.1
   subst hW1
   clear hk
   obtain⟨c,hk,hone,hc,hcm⟩:=oB hk2
   cases hk with|mk hlt hk=>
   cases hk with|mk cs' hcs hk=>
   subst hcs
   obtain⟨q1,q2,q3⟩:=hb
   cases hx with| @c5 _ _ _ _ b hb'=>
   obtain⟨arr,g1,g2,g3,g4⟩:∃arr,(β hd).1=some b/\w.heap[b]?=some (.cells arr T (0,0))/\arr.size=(β hd).2/\∀(i:Nat) c v,cs[i]?=some c->arr[i]?=some v->VR w (aQ E.bM F) β c v:=by
    rcases q3 with q3|⟨b',arr,g1,g2,g3,g4⟩
    ·rw[q3.1]at hb';cases hb'
    ·rw[g1]at hb';cases hb';exact⟨arr,g1,g2,g3,g4⟩
   exact nZ hΓ h hi hW3 (hlv trivial) g1 g2 g3 q1 q2 g4 (hc _ _ _ _ hy) hone hlt (fun k hk=>hmy k (hcm k hk)) hmb hk
  ·exact hk.elim
 ·exact hk.elim
end
end
section
section
variable {P:Program} {Γ:kU} {E:Env} {n:Nat} {s:Nat->AV} {L:Hd->aC} {a:Act} {w:World} {F:Nat->Prop} {β:Hd->Option Nat×Nat} {K:AV->List (Hd×aC)->Prop}
 {W:Operand->(AV->Prop)->Prop} {LK:Hd->(aC->Prop)->Prop} {wr:FuncId->Bool} {base:Nat}
theorem rE (off:Nat):∀(vs:List Value) (k:Nat) (cells:Array Value),off+k+vs.length<=cells.size->
  ((vs.zipIdx k).foldl (fun cs x=>cs.setIfInBounds (off+x.2) x.1) cells).toList=cells.toList.take (off+k)++vs++cells.toList.drop (off+k+vs.length):=by
 intro vs
 induction vs with
 |nil=>intro k cells _;simp
 |cons v vs ih=>
  intro k cells h
  simp only[List.length_cons]at h
  simp only[List.zipIdx_cons,List.foldl_cons]
  rw[ih (k+1) _ (by simp;omega)]
  simp only[Array.toList_setIfInBounds]
  have hk:off+k<cells.toList.length:=by simp;omega
  rw[show off+(k+1)=off+k+1 by omega,List.take_succ_eq_append_getElem (by simpa using hk),List.getElem_set_self,List.take_set_of_le (Nat.le_refl _),List.drop_set_of_lt (by omega)]
  simp only[List.append_assoc,List.singleton_append,List.length_cons]
  congr 3
  omega
theorem oU (place:Nat->Option (Nat×Nat)) (cells:Array Value) (i:Nat) (v:Value) (rest:List (Nat×Value)) (off:Nat) (hp:place i=some (off,v.cells.size)) (hl:off+v.cells.size<=cells.size):
  Instr.fill place cells ((i,v)::rest)=Instr.fill place (cells.toList.take off++v.cells.toList++cells.toList.drop (off+v.cells.size)).toArray rest:=by
 have hf:=rE off v.cells.toList 0 cells (by simpa using hl)
 simp only[Nat.add_zero,Array.length_toList]at hf
 have e:v.cells.zipIdx.foldl (fun cs (x:Value×Nat)=>cs.setIfInBounds (off+x.2) x.1) cells=(cells.toList.take off++v.cells.toList++cells.toList.drop (off+v.cells.size)).toArray:=by
  apply Array.ext'
  rw[<-hf,<-Array.foldl_toList]
  simp[Array.toList_zipIdx]
 simp only[Instr.fill,hp]
 rw[if_neg (by simp;omega)]
 exact congrArg (fun c=>Instr.fill place c rest) e
theorem Cw (hΓ:fk P Γ) (hW:∀x K,W x K->K (cf s x)) (h:b7 E n s L a w F β) (place:Nat->Option (Nat×TypeId)) (place':Nat->Option (Nat×Nat))
  (hp:∀i off t ti,place i=some (off,t)->Γ t=some ti->place' i=some (off,ti.size)):∀(parts:List (Nat×Operand)) (cs:List AV) (K':List AV->Prop) (cells:Array Value),e9 Γ W place parts cs K'->
  cells.size=cs.length->(∀c∈cs,c.one=true)->(∀(i:Nat) c v,cs[i]?=some c->cells[i]?=some v->VR w (aQ E.bM F) β c v)->(∀k,AV.bo cs k->L k≠ .free)->
  ∃cells' cs',Instr.fill place' cells (parts.map fun x=>(x.1,a.eval x.2))=some cells'/\K' cs'/\cells'.size=cs'.length/\(∀c∈cs',c.one=true)/\
   (∀(i:Nat) c v,cs'[i]?=some c->cells'[i]?=some v->VR w (aQ E.bM F) β c v)/\(∀k,AV.bo cs' k->L k≠ .free):=by
 intro parts
 induction parts with
 |nil=>intro cs K' cells hk h1 h2 h3 h4;exact⟨cells,cs,rfl,hk,h1,h2,h3,h4⟩
 |cons x parts ih=>
  obtain⟨i,x⟩:=x
  intro cs K' cells hk h1 h2 h3 h4
  simp only[e9]at hk
  split at hk
  ·rename_i off t hpl
   have hk:=hW x _ hk
   obtain⟨vs,hk,hc,hm⟩:=i3 hk
   obtain⟨c1,c0,c2⟩:=hc _ _ _ _ (h.ev x)
   split at hk
   ·rename_i ti hti
    cases hsz:Nat.beq vs.length ti.size with
    |false=>rw[hsz]at hk;exact hk.elim
    |true=>
     rw[hsz]at hk
     have hsz:=Nat.eq_of_beq_eq_true hsz
     obtain⟨hlen,hk⟩:=oV (K:=fun cs'=>e9 Γ W place parts cs' K') hk
     have hone:=oU place' cells i (a.eval x) (parts.map fun x=>(x.1,a.eval x.2)) off (by rw[hp i off t ti hpl hti,c1,hsz]) (by rw[c1,h1];exact hlen)
     rw[List.map_cons,hone]
     refine ih _ K' _ hk (by simp[c1,h1];try omega) (fun c hc=>?_) (fun j c v e1 e2=>?_) (fun k hk=>?_)
     ·simp only[List.mem_append]at hc
      rcases hc with(hc|hc)|hc
      ·exact h2 c (List.mem_of_mem_take hc)
      ·exact c0 c hc
      ·exact h2 c (List.mem_of_mem_drop hc)
     ·rw[de _ _ _ _ hlen]at e1
      simp only[List.getElem?_toArray]at e2
      have e:=de cells.toList (a.eval x).cells.toList off j (by simp[c1,h1];omega)
      simp only[Array.length_toList,c1]at e
      rw[c1,e]at e2
      split at e1
      ·rename_i hj;rw[if_pos hj]at e2;exact h3 j c v e1 (by simpa using e2)
      ·rename_i hj
       rw[if_neg hj]at e2
       split at e1
       ·rename_i hj';rw[if_pos hj']at e2;exact c2 (j-off) c v e1 (by simpa using e2)
       ·rename_i hj';rw[if_neg hj']at e2;exact h3 j c v e1 (by simpa using e2)
     ·have key:∀l:List AV,AV.bo l k->∃c,c∈l/\c.aU k:=by
       intro l
       induction l with
       |nil=>intro h;simp only[AV.bo]at h
       |cons c l ih=>
        intro h
        simp only[AV.bo]at h
        rcases h with h|h
        ·exact⟨c,by simp,h⟩
        ·obtain⟨c',h1,h2⟩:=ih h;exact⟨c',by simp[h1],h2⟩
      obtain⟨c,hc,hcm⟩:=key _ hk
      simp only[List.mem_append]at hc
      rcases hc with(hc|hc)|hc
      ·exact h4 k (AV.bm (List.mem_of_mem_take hc) hcm)
      ·exact h.ug x k (hm k (AV.bm hc hcm))
      ·exact h4 k (AV.bm (List.mem_of_mem_drop hc) hcm)
   ·exact hk.elim
  ·exact hk.elim
theorem yy (hΓ:fk P Γ) (hW:∀x K,W x K->K (cf s x)) (h:b7 E n s L a w F β) {t:TypeId} {parts:Array (Nat×Operand)} (hk:aY Γ P wr W LK L base (.build t parts) K):
  Out P E n s L a K ((Instr.build t (parts.map fun(i,x)=>(i,a.eval x))).run P w):=by
 simp only[aY]at hk
 have hp:(parts.map fun(i,x)=>(i,a.eval x)).toList=parts.toList.map fun x=>(x.1,a.eval x.2):=by simp
 have go:∀(i:TI) (place:Nat->Option (Nat×TypeId)) (place':Nat->Option (Nat×Nat)) (z:Value),Γ t=some i->z.cells.size=i.size->i.zero.length=i.size->
   (∀w FB (j:Nat) c v,i.zero[j]?=some c->z.cells[j]?=some v->PR w FB c v)->
   (∀i off t ti,place i=some (off,t)->Γ t=some ti->place' i=some (off,ti.size))->
   (ov i.zero fun zs=>e9 Γ W place parts.toList zs fun cs=>qH cs fun v=>K v [])->
   (∀cells,Instr.fill place' z.cells (parts.toList.map fun x=>(x.1,a.eval x.2))=some cells->P.built t ((parts.map fun(i,x)=>(i,a.eval x)).toList)=some cells)->
   Out P E n s L a K ((Instr.build t (parts.map fun(i,x)=>(i,a.eval x))).run P w):=by
  intro i place place' z hi z1 z2 z3 hpl hk hb
  have hk:=nL hk
  obtain⟨cells,cs,hf,hk,c1,c2,c3,c4⟩:=Cw hΓ hW h place place' hpl parts.toList _ _ z.cells hk (by rw[z1];simp[z2])
   (fun c hc=>by obtain⟨p,hp,rfl⟩:=List.mem_map.1 hc;exact(hΓ t i hi).plain p hp)
   (fun j c v e1 e2=>by
    rw[List.getElem?_map]at e1
    cases e:i.zero[j]? with
    |none=>rw[e]at e1;cases e1
    |some p=>rw[e]at e1;cases e1;exact .p (z3 w _ j p v e e2)) (fun k hk=>(kQ _ k hk).elim)
  rw[run_build w t _ cells (hb cells hf)]
  obtain⟨r,hk,hr,hrm⟩:=oo hk
  exact .same h hk (hr _ _ _ _ c2 c1 c3) fun k hk=>c4 k (hrm k hk)
 split at hk
 ·rename_i fs sz by_ zero eq hi
  obtain⟨info,z,h1,h2,h3,h4,h5,h6,h7⟩:=(hΓ t _ hi).info
  obtain⟨fields,hu,hfs⟩:=(hΓ t _ hi).desc
  cases hall:(fs.all fun f=>(Γ f.2).isSome)with
  |false=>rw[hall]at hk;exact hk.elim
  |true=>
   rw[hall]at hk
   rw[List.all_eq_true]at hall
   have hplaces:∀(l:List Field),(∀f∈l,(Γ f.type).isSome=true)->∃places,l.mapM (fun f=>(P.info? f.type).map fun i=>(f.offset,i.size))=some places/\
     ∀(i:Nat) off ft ti,(l.map fun f=>(f.offset,f.type))[i]?=some (off,ft)->Γ ft=some ti->places[i]?=some (off,ti.size):=by
    intro l
    induction l with
    |nil=>intro _;exact⟨[],by simp,by simp⟩
    |cons f l ih=>
     intro hf
     obtain⟨places,hm,hpl⟩:=ih fun g hg=>hf g (by simp[hg])
     obtain⟨ti,hti⟩:=Option.isSome_iff_exists.1 (hf f (by simp))
     obtain⟨inf,zz,g1,g2,_⟩:=(hΓ f.type ti hti).info
     refine⟨(f.offset,inf.size)::places,by simp[List.mapM_cons,g1,hm],fun i off ft ti' e1 e2=>?_⟩
     cases i with
     |zero=>simp at e1;obtain⟨rfl,rfl⟩:=e1;rw[hti]at e2;cases e2;simp[g2]
     |succ i=>simpa using hpl i off ft ti' (by simpa using e1) e2
   obtain⟨places,hm,hpl⟩:=hplaces fields.toList (fun f hf=>by
    have:=hall (f.offset,f.type) (by rw[<-hfs];exact List.mem_map.2 ⟨f,hf,rfl⟩)
    exact this)
   refine go _ (fun i=>fs[i]?) (fun i=>places.toArray[i]?) z hi h5 h6 h7 (fun i off ft ti e1 e2=>?_) hk fun cells hf=>?_
   ·rw[<-hfs]at e1
    simpa using hpl i off ft ti e1 e2
   ·simp only[Program.built,h1,hu,h4,hm,hp];exact hf
 ·rename_i m e sz by_ zero eq hi
  obtain⟨info,z,h1,h2,h3,h4,h5,h6,h7⟩:=(hΓ t _ hi).info
  have hu:P.underlying t=some (.array m e):=(hΓ t _ hi).desc
  split at hk
  ·rename_i i hie
   obtain⟨info',z',g1,g2,_⟩:=(hΓ e i hie).info
   refine go _ (fun j=>some (j*i.size,e)) (fun j=>some (j*i.size,i.size)) z hi h5 h6 h7 (fun j off ft ti e1 e2=>?_) hk fun cells hf=>?_
   ·cases e1;rw[hie]at e2;cases e2;rfl
   ·simp only[Program.built,h1,hu,h4,g1,g2,hp];exact hf
  ·exact hk.elim
 ·exact hk.elim
theorem B3 (hΓ:fk P Γ) (hW:∀x K,W x K->K (cf s x)) (h:b7 E n s L a w F β) (e:TypeId) (size N:Nat):∀(parts:List (Nat×Operand)) (k:Nat) (K':List PV->Prop) (cells:Array Value),
  eJ Γ W e size k parts K'->cells.size=N->(k+parts.length)*size<=N->
  ∃cells' es,Instr.fill (fun i=>some (i*size,size)) cells (parts.map fun x=>(x.1,a.eval x.2))=some cells'/\K' es/\es.length=parts.length/\cells'.size=N/\(∀e∈es,e.cells.length=size/\∀c∈e.cells,c.one=true)/\
   (∀j,j<k*size->cells'[j]?=cells[j]?)/\(∀(i:Nat) e (j:Nat) c v,es[i]?=some e->e.cells[j]?=some c->cells'[(k+i)*size+j]?=some v->PR w (aQ E.bM F) c v):=by
 intro parts
 induction parts with
 |nil=>intro k K' cells hk h1 h2;exact⟨cells,[],rfl,hk,rfl,h1,by simp,fun _ _=>rfl,by simp⟩
 |cons x parts ih=>
  obtain⟨i,x⟩:=x
  intro k K' cells hk h1 h2
  simp only[eJ]at hk
  cases hi:Nat.beq i k with
  |false=>rw[hi]at hk;exact hk.elim
  |true=>
   rw[hi]at hk
   have hi:=Nat.eq_of_beq_eq_true hi
   subst hi
   obtain⟨v',hk,hv'⟩:=ig (hW x _ hk)
   have hp:=hv' _ _ _ _ (h.ev x)
   obtain⟨c1,c0,c2⟩:=hp.cells
   cases hsz:Nat.beq v'.cells.length size with
   |false=>rw[hsz]at hk;exact hk.elim
   |true=>
    rw[hsz]at hk
    have hsz:=Nat.eq_of_beq_eq_true hsz
    simp only[cond_true]at hk
    have hroom:i*size+size<=N:=by
     have:(i+1)*size<=(i+(parts.length+1))*size:=Nat.mul_le_mul_right _ (by omega)
     rw[Nat.add_mul i 1,Nat.one_mul]at this
     simp only[List.length_cons]at h2
     omega
    have hone:=oU (fun i=>some (i*size,size)) cells i (a.eval x) (parts.map fun x=>(x.1,a.eval x.2)) (i*size) (by rw[c1,hsz]) (by rw[c1,hsz,h1];exact hroom)
    rw[List.map_cons,hone]
    have hsz':(cells.toList.take (i*size)++(a.eval x).cells.toList++cells.toList.drop (i*size+(a.eval x).cells.size)).toArray.size=N:=by simp[c1,hsz,h1];omega
    obtain⟨cells',es,hf,hk,g1,g2,g3,g4,g5⟩:=ih (i+1) (fun l=>K' (v'::l)) _ hk hsz' (by rw[show i+1+parts.length=i+(parts.length+1) by omega];exact h2)
    have eg:∀j,(cells.toList.take (i*size)++(a.eval x).cells.toList++cells.toList.drop (i*size+(a.eval x).cells.size)).toArray[j]?=if j<i*size then cells.toList[j]? else if j<i*size+size then(a.eval x).cells.toList[j-i*size]? else cells.toList[j]?:=by
     intro j
     have:=de cells.toList (a.eval x).cells.toList (i*size) j (by simp[c1,hsz,h1];exact hroom)
     simp only[Array.length_toList,c1,hsz]at this
     rw[List.getElem?_toArray,c1,hsz,this]
    refine⟨cells',v'::es,hf,hk,by simp[g1],g2,fun e' he'=>?_,fun j hj=>?_,fun i' e' j c v e1 e2 e3=>?_⟩
    ·rcases List.mem_cons.1 he' with rfl|he'
     ·exact⟨hsz,c0⟩
     ·exact g3 e' he'
    ·rw[g4 j (by rw[Nat.add_mul];omega),eg,if_pos hj];simp
    ·cases i' with
     |zero=>
      simp at e1;subst e1
      have hj:j<size:=by rw[<-hsz];exact(List.getElem?_eq_some_iff.1 e2).1
      rw[Nat.add_zero,g4 _ (by rw[Nat.add_mul];omega),eg,if_neg (by omega),if_pos (by omega)]at e3
      have:i*size+j-i*size=j:=by omega
      rw[this]at e3
      exact c2 j c v e2 (by simpa using e3)
     |succ i'=>exact g5 i' e' j c v (by simpa using e1) e2 (by rw[show i+1+i'=i+(i'+1) by omega];exact e3)
theorem Dc (hW:∀x K,W x K->K (cf s x)) (h:b7 E n s L a w F β) (e:TypeId) (N:Nat):∀(parts:List (Nat×Operand)) (k:Nat) (K':List AV->Prop) (cells:Array Value),
  gY Γ W e k parts K'->cells.size=N->k+parts.length<=N->
  ∃cells' cs,Instr.fill (fun i=>some (i*1,1)) cells (parts.map fun x=>(x.1,a.eval x.2))=some cells'/\K' cs/\cs.length=parts.length/\cells'.size=N/\(∀c∈cs,c.one=true)/\(∀k,AV.bo cs k->L k≠ .free)/\
   (∀j,j<k->cells'[j]?=cells[j]?)/\(∀(i:Nat) c v,cs[i]?=some c->cells'[k+i]?=some v->VR w (aQ E.bM F) β c v):=by
 intro parts
 induction parts with
 |nil=>intro k K' cells hk h1 h2;exact⟨cells,[],rfl,hk,rfl,h1,by simp,fun k hk=>by simp only[AV.bo]at hk,fun _ _=>rfl,by simp⟩
 |cons x parts ih=>
  obtain⟨i,x⟩:=x
  intro k K' cells hk h1 h2
  simp only[gY]at hk
  cases hi:Nat.beq i k with
  |false=>rw[hi]at hk;exact hk.elim
  |true=>
   rw[hi]at hk
   have hi:=Nat.eq_of_beq_eq_true hi
   subst hi
   obtain⟨c,hk,ho,hv,hm⟩:=oB (hW x _ hk)
   have hp:=hv _ _ _ _ (h.ev x)
   have hcl:=fJ (hp.dW ho)
   simp only[List.length_cons]at h2
   have hone:=oU (fun i=>some (i*1,1)) cells i (a.eval x) (parts.map fun x=>(x.1,a.eval x.2)) (i*1) (by rw[hcl];rfl) (by rw[hcl,h1];simp;omega)
   rw[List.map_cons,hone]
   have hsz':(cells.toList.take (i*1)++(a.eval x).cells.toList++cells.toList.drop (i*1+(a.eval x).cells.size)).toArray.size=N:=by rw[hcl];simp[h1];omega
   obtain⟨cells',cs,hf,hk,g1,g2,g3,gm,g4,g5⟩:=ih (i+1) (fun l=>K' (c::l)) _ hk hsz' (by omega)
   have eg:∀j,(cells.toList.take (i*1)++(a.eval x).cells.toList++cells.toList.drop (i*1+(a.eval x).cells.size)).toArray[j]?=if j<i*1 then cells.toList[j]? else if j<i*1+1 then(a.eval x).cells.toList[j-i*1]? else cells.toList[j]?:=by
    intro j
    have:=de cells.toList (a.eval x).cells.toList (i*1) j (by rw[hcl];simp[h1];omega)
    simp only[Array.length_toList]at this
    rw[List.getElem?_toArray,this,hcl]
    rfl
   refine⟨cells',c::cs,hf,hk,by simp[g1],g2,fun e' he'=>?_,fun k hk=>?_,fun j hj=>?_,fun i' c' v e1 e3=>?_⟩
   ·rcases List.mem_cons.1 he' with rfl|he'
    ·exact ho
    ·exact g3 e' he'
   ·simp only[AV.bo]at hk
    exact hk.elim (fun hk=>h.ug x k (hm k hk)) (gm k)
   ·rw[g4 j (by omega),eg,if_pos (by omega)];simp
   ·cases i' with
    |zero=>
     simp at e1;subst e1
     rw[Nat.add_zero,g4 _ (by omega),eg,if_neg (by omega),if_pos (by omega),hcl]at e3
     simp at e3
     rw[<-e3];exact hp
    |succ i'=>exact g5 i' c' v (by simpa using e1) (by rw[show i+1+i'=i+(i'+1) by omega];exact e3)
theorem u4 (hW:∀x K,W x K->K (cf s x)):∀(xs:List Operand) (J:List AV->Prop),eK W xs J->∃vs,J vs:=by
 intro xs
 induction xs with
 |nil=>exact fun J h=>⟨_,h⟩
 |cons x xs ih=>exact fun J h=>(ih _ (hW x _ h)).elim fun vs h=>⟨_,h⟩
theorem oD (hΓ:fk P Γ) (hW:∀x K,W x K->K (cf s x)) (h:b7 E n s L a w F β) (hf:∀v ups,K v ups->∀x∈ups,base<=x.1.key->dT L x.1.key) {t:TypeId} {m:Nat} {parts:Array (Nat×Operand)}
  (hk:aY Γ P wr W LK L base (.buildSlice t m parts) K):Out P E n s L a K ((Instr.buildSlice t m (parts.map fun(i,x)=>(i,a.eval x))).run P w):=by
 simp only[aY]at hk
 split at hk
 ·rename_i e _ _ _ _ hi
  have hu:P.underlying t=some (.slice e):=(hΓ t _ hi).desc
  split at hk
  ·rename_i i hie
   have hsz:=cJ hΓ hie
   obtain⟨z,hz,z1,z2,z3⟩:=jA hΓ hie
   have hk':(m=0/\parts.toList=[]/\K .emp [])\/(eJ Γ W e i.size 0 parts.toList fun es=>cond (Nat.beq es.length m&&(Nat.ble (m*i.size) 1000&&Nat.ble 1 (m*i.size))) (K (.vec base i.size 0 m) [(base,.vec e i.size es)]) False)\/
     (i.size=1/\gY Γ W e 0 parts.toList fun cs=>cond (Nat.beq cs.length m&&(Nat.ble m 1000&&Nat.ble 1 m)) (K (.vec base 1 0 m) [(base,.rows e cs)]) False):=by
    split at hk
    ·exact .inl ⟨rfl,by assumption,hk⟩
    ·split at hk
     ·rename_i hrow
      have h1:i.size=1:=by
       unfold TI.qA at hrow
       split at hrow
       ·exact Nat.eq_of_beq_eq_true hrow
       ·cases hrow
      obtain⟨vs,hk⟩:=u4 hW _ _ hk
      split at hk
      ·exact .inr (.inr ⟨h1,hk⟩)
      ·exact .inr (.inl hk)
     ·exact .inr (.inl hk)
   rcases hk' with⟨hm,hp,hk⟩|hk|⟨h1,hk⟩
   ·
    have hp:parts= #[]:=by cases parts;simpa using hp
    subst hp
    subst hm
    have hr:(Instr.buildSlice t 0 (#[].map fun(i,x)=>(i,a.eval x))).run P w= .ok (.slice (some ⟨w.heap.size,0,none⟩) 0 0) (w.alloc (.cells #[] e)):=by
     have e0:(Array.map (fun x=>(default:Value)) (Array.range 0))= #[]:=Array.map_empty
     simp[Instr.buildSlice,run_underlying hu,hsz,Instr.fill,newRow]
     exact congrArg (fun c=>w.alloc (Obj.cells c e)) e0
    rw[hr]
    exact⟨.emp,[],F,β,hk,h.push (.cells #[] e) rfl rfl rfl rfl,.emp _,fun k hk=>by simp only[AV.aU]at hk⟩
   ·have key:∀es:List PV,(bif Nat.beq es.length m&&(Nat.ble (m*i.size) 1000&&Nat.ble 1 (m*i.size))then K (.vec base i.size 0 m) [(base,.vec e i.size es)]else False)->es.length=m/\(m*i.size<=1000/\1<=m*i.size)/\K (.vec base i.size 0 m) [(base,.vec e i.size es)]:=by
     intro es hk
     cases hb:Nat.beq es.length m&&(Nat.ble (m*i.size) 1000&&Nat.ble 1 (m*i.size))with
     |false=>rw[hb]at hk;exact hk.elim
     |true=>
      rw[hb]at hk
      simp only[Bool.and_eq_true]at hb
      exact⟨Nat.eq_of_beq_eq_true hb.1,⟨Nat.le_of_ble_eq_true hb.2.1,Nat.le_of_ble_eq_true hb.2.2⟩,hk⟩
    have hes:∃cells' es,Instr.fill (fun j=>some (j*i.size,i.size)) ((Array.range (m*i.size)).map fun x=>z.cells[x%z.cells.size]!) (parts.toList.map fun x=>(x.1,a.eval x.2))=some cells'/\
      (es.length=m/\(m*i.size<=1000/\1<=m*i.size)/\K (.vec base i.size 0 m) [(base,.vec e i.size es)])/\cells'.size=m*i.size/\(∀e∈es,e.cells.length=i.size/\∀c∈e.cells,c.one=true)/\
      (∀(j:Nat) e (o:Nat) c v,es[j]?=some e->e.cells[o]?=some c->cells'[j*i.size+o]?=some v->PR w (aQ E.bM F) c v):=by
     by_cases hlen:parts.toList.length=m
     ·obtain⟨cells',es,hf,hk,g1,g2,g3,g4,g5⟩:=B3 hΓ hW h e i.size (m*i.size) parts.toList 0 _ ((Array.range (m*i.size)).map fun x=>z.cells[x%z.cells.size]!) hk (by simp) (by rw[Nat.zero_add,hlen];exact Nat.le_refl _)
      exact⟨cells',es,hf,key es hk,g2,g3,fun j e o c v e1 e2 e3=>g5 j e o c v e1 e2 (by rw[Nat.zero_add];exact e3)⟩
     ·
      have:∀(ps:List (Nat×Operand)) (k:Nat) (J:List PV->Prop),eJ Γ W e i.size k ps J->∃es,J es/\es.length=ps.length:=by
       intro ps
       induction ps with
       |nil=>intro k J hj;exact⟨[],hj,rfl⟩
       |cons x ps ih=>
        obtain⟨q,x⟩:=x
        intro k J hj
        simp only[eJ]at hj
        cases hq:Nat.beq q k with
        |false=>rw[hq]at hj;exact hj.elim
        |true=>
         rw[hq]at hj
         obtain⟨v',hj,_⟩:=ig (hW x _ hj)
         cases hs:Nat.beq v'.cells.length i.size with
         |false=>rw[hs]at hj;exact hj.elim
         |true=>
          rw[hs]at hj
          obtain⟨es,h1,h2⟩:=ih _ _ hj
          exact⟨_,h1,by simp[h2]⟩
      obtain⟨es,h1,h2⟩:=this _ _ _ hk
      exact(hlen (h2▸(key es h1).1)).elim
    obtain⟨cells',es,hfl,⟨hl,hle,hk⟩,g2,g3,g5⟩:=hes
    have hm1:¬(m*i.size>2^24):=by omega
    have hr:(Instr.buildSlice t m (parts.map fun(i,x)=>(i,a.eval x))).run P w= .ok (.slice (some ⟨w.heap.size,0,none⟩) m m) (w.alloc (.cells cells' e)):=by
     have h0:¬m*i.size=0:=by omega
     ·simp[Instr.buildSlice,run_underlying hu,hsz,h0,hz,newRow]
      rw[if_neg (by omega)]
      simp[hfl]
    rw[hr]
    have hfree:L base= .free:=(hf _ _ hk (base,.vec e i.size es) (by simp) (Nat.le_refl _)).1
    refine .new h cells' e (.vec e i.size es) base m hk hfree ⟨g3,by rw[aA];omega,.inr ⟨w.heap.size,cells',by rw[aA],dN w _,by rw[aA];exact g2,fun j e' o c v e1 e2 e3=>h.fS _ (g5 j e' o c v e1 e2 e3)⟩⟩ trivial (fun j hj=>hj.elim) ?_ (fun k hk=>.inl hk.symm)
    have:=VR.vec (w:=w.alloc (.cells cells' e)) (FB:=aQ E.bM F) (β:=bz β base (some w.heap.size,m)) (h:=base) (W:=i.size) (off:=0) (len:=m) (b:=w.heap.size) (o:=0) (c:=m) (by rw[aA]) (Nat.le_refl _) (by rw[aA];omega) (fun _=>by simp)
    exact this
   ·
    have hlen:∀(ps:List (Nat×Operand)) (k:Nat) (J:List AV->Prop),gY Γ W e k ps J->∃cs,J cs/\cs.length=ps.length:=by
     intro ps
     induction ps with
     |nil=>intro k J hj;exact⟨[],hj,rfl⟩
     |cons x ps ih=>
      obtain⟨q,x⟩:=x
      intro k J hj
      simp only[gY]at hj
      cases hq:Nat.beq q k with
      |false=>rw[hq]at hj;exact hj.elim
      |true=>
       rw[hq]at hj
       obtain⟨c,hj,_⟩:=oB (hW x _ hj)
       obtain⟨cs,h1,h2⟩:=ih _ _ hj
       exact⟨_,h1,by simp[h2]⟩
    have key:∀cs:List AV,(bif Nat.beq cs.length m&&(Nat.ble m 1000&&Nat.ble 1 m)then K (.vec base 1 0 m) [(base,.rows e cs)]else False)->cs.length=m/\(m<=1000/\1<=m)/\K (.vec base 1 0 m) [(base,.rows e cs)]:=by
     intro cs hk
     cases hb:Nat.beq cs.length m&&(Nat.ble m 1000&&Nat.ble 1 m)with
     |false=>rw[hb]at hk;exact hk.elim
     |true=>
      rw[hb]at hk
      simp only[Bool.and_eq_true]at hb
      exact⟨Nat.eq_of_beq_eq_true hb.1,⟨Nat.le_of_ble_eq_true hb.2.1,Nat.le_of_ble_eq_true hb.2.2⟩,hk⟩
    have hpl:parts.toList.length=m:=by
     obtain⟨cs,h1,h2⟩:=hlen _ _ _ hk
     exact h2▸(key cs h1).1
    obtain⟨cells',cs,hfl,hk,g1,g2,g3,gm,_,g5⟩:=Dc hW h e m parts.toList 0 _ ((Array.range (m*i.size)).map fun x=>z.cells[x%z.cells.size]!) hk (by simp[h1]) (by omega)
    obtain⟨hl,hle,hk⟩:=key cs hk
    have hr:(Instr.buildSlice t m (parts.map fun(i,x)=>(i,a.eval x))).run P w= .ok (.slice (some ⟨w.heap.size,0,none⟩) m m) (w.alloc (.cells cells' e)):=by
     have h0:¬m=0:=by omega
     rw[h1]at hfl
     ·simp[Instr.buildSlice,run_underlying hu,hsz,h1,h0,hz,newRow]
      rw[if_neg (by omega)]
      simp at hfl
      simp[hfl]
    rw[hr]
    have hfree:L base= .free:=(hf _ _ hk (base,.rows e cs) (by simp) (Nat.le_refl _)).1
    refine .new h cells' e (.rows e cs) base m hk hfree ⟨g3,by rw[aA];omega,.inr ⟨w.heap.size,cells',by rw[aA],dN w _,by rw[aA];exact g2,fun j c v e1 e2=>h.lQ _ hfree _ (g5 j c v e1 (by rw[Nat.zero_add];exact e2)) fun k hk=>gm k (AV.bm (List.mem_of_getElem? e1) hk)⟩⟩ trivial (fun j hj=>gm j hj) ?_ (fun k hk=>.inl hk.symm)
    have:=VR.vec (w:=w.alloc (.cells cells' e)) (FB:=aQ E.bM F) (β:=bz β base (some w.heap.size,m)) (h:=base) (W:=1) (off:=0) (len:=m) (b:=w.heap.size) (o:=0) (c:=m) (by rw[aA]) (Nat.le_refl _) (by rw[aA];omega) (fun _=>by simp)
    exact this
  ·exact hk.elim
 ·exact hk.elim
end
end
section
section
variable {P:Program} {Γ:kU} {E:Env} {n:Nat} {s:Nat->AV} {L:Hd->aC} {a:Act} {w:World} {F:Nat->Prop} {β:Hd->Option Nat×Nat} {K:AV->List (Hd×aC)->Prop}
 {W:Operand->(AV->Prop)->Prop} {LK:Hd->(aC->Prop)->Prop} {wr:FuncId->Bool} {base:Nat}
theorem dC (h:b7 E n s L a w F β) {k:IntKind} {e:Int} (hk:ae k e fun z=>K (.p (.int k z)) []):Out P E n s L a K (.ok (.int k (k.wrap e)) w):=by
 cases hk with|mk z hz hk=>rw[hz];exact .int h hk
theorem yg (h:b7 E n s L a w F β) {t:TypeId} {op:BinOp} {k:IntKind} {x y:Int} (hk:wB op k x y K):
  Out P E n s L a K ((binOp op t (.int k x) (.int k y)).run P w):=by
 cases op<;>simp only[wB]at hk
 case add=>simpa[binOp,Op.intArith]using dC h hk
 case sub=>simpa[binOp,Op.intArith]using dC h hk
 case mul=>simpa[binOp,Op.intArith]using dC h hk
 case quo=>cases hk with|mk h0 hk=>simpa[binOp,Op.intDiv,h0]using dC h hk
 case rem=>cases hk with|mk h0 hk=>cases hk with|mk z hz hk=>simpa[binOp,Op.intDiv,h0,hz]using Out.int h hk
 case and=>simpa[binOp,Op.intBits]using dC h hk
 case or=>simpa[binOp,Op.intBits]using dC h hk
 case xor=>simpa[binOp,Op.intBits]using dC h hk
 case andNot=>simpa[binOp,Op.intBits]using dC h hk
 all_goals (simp only[binOp,ne_eq,not_true_eq_false,if_false,Op.intCmp];exact Out.bool h hk)
theorem wh {w FB}:∀{xs ys:List PV} {K':Bool->Prop} {va vb:List Value},dV xs ys K'->va.length=xs.length->vb.length=ys.length->
  (∀(i:Nat) c v,xs[i]?=some c->va[i]?=some v->PR w FB c v)->(∀(i:Nat) c v,ys[i]?=some c->vb[i]?=some v->PR w FB c v)->∃r,K' r/\AE va vb r:=by
 intro xs
 induction xs with
 |nil=>
  intro ys K' va vb hk h1 h2 _ _
  cases ys with
  |nil=>
   have e1:va=[]:=List.length_eq_zero_iff.1 (by simpa using h1)
   have e2:vb=[]:=List.length_eq_zero_iff.1 (by simpa using h2)
   subst e1;subst e2
   exact⟨true,hk,.nil⟩
  |cons y ys=>simp only[dV]at hk
 |cons x xs ih=>
  intro ys K' va vb hk h1 h2 g1 g2
  cases ys with
  |nil=>cases x<;>simp only[dV]at hk
  |cons y ys=>
   cases va with
   |nil=>simp at h1
   |cons a va=>
    cases vb with
    |nil=>simp at h2
    |cons b vb=>
     have ha:=g1 0 x a rfl rfl
     have hb:=g2 0 y b rfl rfl
     have r1:∀(i:Nat) c v,xs[i]?=some c->va[i]?=some v->PR w FB c v:=fun i c v e1 e2=>g1 (i+1) c v (by simpa using e1) (by simpa using e2)
     have r2:∀(i:Nat) c v,ys[i]?=some c->vb[i]?=some v->PR w FB c v:=fun i c v e1 e2=>g2 (i+1) c v (by simpa using e1) (by simpa using e2)
     cases x with
     |int k p=>
      cases y with
      |int k' q=>
       simp only[dV]at hk
       split at hk
       ·subst_vars
        cases ha;cases hb
        obtain⟨r,hr,he⟩:=ih hk (by simpa using h1) (by simpa using h2) r1 r2
        exact⟨_,hr,.int he⟩
       ·exact hk.elim
      |_=>simp only[dV]at hk
     |bool p=>
      cases y with
      |bool q=>
       simp only[dV]at hk
       cases ha;cases hb
       obtain⟨r,hr,he⟩:=ih hk (by simpa using h1) (by simpa using h2) r1 r2
       exact⟨_,hr,.bool he⟩
      |_=>simp only[dV]at hk
     |_=>cases y<;>simp only[dV]at hk
theorem kZ {w FB}:∀{zs xs:List PV} {va:List Value},jE zs xs=true->va.length=xs.length->(∀(i:Nat) c v,xs[i]?=some c->va[i]?=some v->PR w FB c v)->fT zs va:=by
 intro zs
 induction zs with
 |nil=>
  intro xs va h hl hr
  cases xs with
  |nil=>cases va with
   |nil=>exact .nil
   |cons=>simp at hl
  |cons x xs=>cases x<;>cases h
 |cons z zs ih=>
  intro xs va h hl hr
  cases xs with
  |nil=>cases z<;>cases h
  |cons x xs=>
   cases va with
   |nil=>simp at hl
   |cons v va=>
    have h0:=hr 0 x v rfl rfl
    have hr':∀(i:Nat) c v,xs[i]?=some c->va[i]?=some v->PR w FB c v:=fun i c v' e1 e2=>hr (i+1) c v' (by simpa using e1) (by simpa using e2)
    have hl':va.length=xs.length:=by simpa using hl
    cases z with
    |int k n=>
     cases x with
     |int k' n'=>
      simp only[jE,Bool.and_eq_true,decide_eq_true_eq]at h
      obtain⟨rfl,h⟩:=h
      cases h0
      exact .int (ih h hl' hr')
     |_=>cases h
    |bool b=>
     cases x with
     |bool b'=>
      cases h0
      exact .bool (ih h hl' hr')
     |_=>cases h
    |_=>cases x<;>cases h
theorem yd {op:BinOp} {t:TypeId} {x y:Operand} {k k':IntKind} {a b:Int}:(eqGuard op t x y (.int k a) (.int k' b)).run P w= .ok () w:=by
 unfold eqGuard;cases op<;>simp
theorem uS {op:BinOp} {t:TypeId} {x y:Operand} {a b:Bool}:(eqGuard op t x y (.bool a) (.bool b)).run P w= .ok () w:=by
 unfold eqGuard;cases op<;>simp
theorem mU {t:TypeId} (hu:P.underlying t=some .bool) (x y:Bool) (w:World):(Op.equal t (.bool x) (.bool y)).run P w= .ok (x==y) w:=by
 have key:∀d,(Op.equalIn (d+1) t (.bool x) (.bool y)).run P w= .ok (x==y) w:=fun d=>by simp[Op.equalIn,run_underlying hu]
 exact key 9999
theorem Sem.run_seq {α β:Type} (x:Sem α) (f:α->Sem β) (P:Program) (w w':World) (v:α) (h:x.run P w= .ok v w'):(x>>=f).run P w=(f v).run P w':=by
 simp[h]
theorem vV (h:b7 E n s L a w F β) {op:BinOp} {t:TypeId} {x y:Operand} {k k':IntKind} {p q:Int} (hk:Bv op k p k' q K):
  Out P E n s L a K ((do eqGuard op t x y (.int k p) (.int k' q);binOp op t (.int k p) (.int k' q):Sem Value).run P w):=by
 rw[Sem.run_seq _ _ _ _ _ _ yd]
 have other:(if k=k' then wB op k p q K else False)->Out P E n s L a K ((binOp op t (.int k p) (.int k' q)).run P w):=by
  intro hk
  split at hk
  ·subst_vars;exact yg h hk
  ·exact hk.elim
 cases op
 case shl=>obtain⟨h0,hk⟩:=hk;simpa[binOp,Op.shift,Int.not_lt.2 h0]using dC h hk
 case shr=>obtain⟨h0,⟨z,hz,hk⟩⟩:=hk;simpa[binOp,Op.shift,Int.not_lt.2 h0,hz]using Out.int h hk
 all_goals exact other hk
theorem vC (hΓ:fk P Γ) (h:b7 E n s L a w F β) {op:BinOp} {t:TypeId} {x y:Operand} {i:TI} (hi:Γ t=some i) {xs ys:List PV} {ax ay:Value} (hx:PR w (aQ E.bM F) (.agg xs) ax)
  (hy:PR w (aQ E.bM F) (.agg ys) ay) (hk:vF i op xs ys K):Out P E n s L a K ((do eqGuard op t x y ax ay;binOp op t ax ay:Sem Value).run P w):=by
 cases hx with|agg _ va ho hl hr=>
 cases hy with|agg _ vb ho' hl' hr'=>
 unfold vF at hk
 split at hk
 ·rename_i he
  cases hsz:jE i.zero xs with
  |false=>rw[hsz]at hk;exact hk.elim
  |true=>
   rw[hsz]at hk
   have hsz:fT i.zero va.toList:=kZ hsz (by simpa using hl) (fun i c v e1 e2=>hr i c v e1 (by simpa using e2))
   have go:∀(K':Bool->Prop),dV xs ys K'->∃r,K' r/\AE va.toList vb.toList r:=fun K' hk=>
    wh hk (by simpa using hl) (by simpa using hl') (fun i c v e1 e2=>hr i c v e1 (by simpa using e2)) (fun i c v e1 e2=>hr' i c v e1 (by simpa using e2))
   obtain⟨g1,g2⟩:=(hΓ t _ hi).eqs he
   cases op<;>first|exact hk.elim|skip
   case eql=>
    obtain⟨r,hk,he⟩:=go _ hk
    have hq:=g2 w va.toList vb.toList r he hsz
    have hg:(eqGuard .eql t x y (.agg va) (.agg vb)).run P w= .ok () w:=by simp[eqGuard,g1]
    rw[Sem.run_seq _ _ _ _ _ _ hg]
    simp only[Array.toArray_toList]at hq
    simp[binOp,hq]
    exact Out.bool h hk
   case neq=>
    obtain⟨r,hk,he⟩:=go _ hk
    have hq:=g2 w va.toList vb.toList r he hsz
    have hg:(eqGuard .neq t x y (.agg va) (.agg vb)).run P w= .ok () w:=by simp[eqGuard,g1]
    rw[Sem.run_seq _ _ _ _ _ _ hg]
    simp only[Array.toArray_toList]at hq
    simp[binOp,hq]
    exact Out.bool h hk
 ·exact hk.elim
theorem mR (hΓ:fk P Γ) (h:b7 E n s L a w F β) {op:BinOp} {t:TypeId} {x y:Operand} {i:TI} (hi:Γ t=some i) {p q:Bool} (hk:nB i op p q K):
  Out P E n s L a K ((do eqGuard op t x y (.bool p) (.bool q);binOp op t (.bool p) (.bool q):Sem Value).run P w):=by
 unfold nB at hk
 split at hk
 ·rename_i hd
  have hu:P.underlying t=some .bool:=by have:=(hΓ t _ hi).desc;rw[hd]at this;exact this
  rw[Sem.run_seq _ _ _ _ _ _ uS]
  cases op<;>first|exact hk.elim|skip
  ·simp[binOp,mU hu];exact Out.bool h hk
  ·simp[binOp,mU hu];exact Out.bool h hk
 ·exact hk.elim
theorem xI (op:BinOp) (t:TypeId) (x y:Operand) (a b:ByteArray):(eqGuard op t x y (.string a) (.string b)).run P w= .ok () w:=by
 cases op<;>simp[eqGuard]
theorem CX (hΓ:fk P Γ) (hW:∀x K,W x K->K (cf s x)) (h:b7 E n s L a w F β) {op:BinOp} {t:TypeId} {x y:Operand} (hk:W x fun a=>W y fun b=>Ft Γ op t a b K):
  Out P E n s L a K ((do eqGuard op t x y (a.eval x) (a.eval y);binOp op t (a.eval x) (a.eval y):Sem Value).run P w):=by
 have hx:=h.ev x
 have hy:=h.ev y
 have hk:=hW y _ (hW x _ hk)
 generalize cf s x=vx at hk hx
 generalize cf s y=vy at hk hy
 generalize a.eval x=ax at hx
 generalize a.eval y=ay at hy
 unfold Ft at hk
 split at hk
 ·split at hk
  ·cases hx with|p hx=>cases hx with|int k p=>
   cases hy with|p hy=>cases hy with|int k' q=>
   exact vV h hk
  ·exact hk.elim
 ·split at hk
  ·split at hk
   ·rename_i hi
    exact vC hΓ h hi hx.xe hy.xe hk
   ·exact hk.elim
  ·exact hk.elim
 ·split at hk
  ·rename_i hi
   obtain⟨b,e,hk⟩:=hy.kD hk
   subst e
   cases hx with|p hx=>cases hx with|bool p=>
   exact mR hΓ h hi hk
  ·exact hk.elim
 ·split at hk
  ·rename_i hi
   obtain⟨b,e,hk⟩:=hy.kD hk
   subst e
   cases hx with|tf p=>
   exact mR hΓ h hi hk
  ·exact hk.elim
 ·split at hk
  ·cases hx with|p hx=>cases hx with|raw _ _=>
   cases hy with|p hy=>cases hy with|raw _ _=>
   unfold zH at hk
   rw[Sem.run_seq _ _ _ _ _ _ (xI _ _ _ _ _ _)]
   cases op<;>first|exact hk.elim|skip
   ·simp[binOp,Op.stringOp];exact Out.bool h hk
   ·simp[binOp,Op.stringOp];exact Out.bool h hk
  ·exact hk.elim
 ·exact hk.elim
theorem wa (h:b7 E n s L a w F β) {b:Bool} (hk:K (.tf b) []):Out P E n s L a K (.ok (.bool b) w):=.same h hk (.tf b) fun k hk=>by simp only[AV.aU]at hk
theorem oK {t e:TypeId} (hu:P.underlying t=some (.slice e)) (b:Option Addr) (l c:Nat) (w:World):(Op.equal t (.slice b l c) (.slice none 0 0)).run P w= .ok b.isNone w:=by
 have key:∀d,(Op.equalIn (d+1) t (.slice b l c) (.slice none 0 0)).run P w= .ok b.isNone w:=fun d=>by cases b<;>simp[Op.equalIn,run_underlying hu]
 exact key 9999
theorem mY {op:BinOp} {t:TypeId} {x y:Operand} {a b:Option Addr} {k l m n:Nat}:(eqGuard op t x y (.slice a k l) (.slice b m n)).run P w= .ok () w:=by
 unfold eqGuard;cases op<;>simp
theorem x4 {w FB β} {v:AV} {x:Value} (hv:VR w FB β v x):(∀m W es,v= .p (.sl m W es)->∃b c,x= .slice b es.length c/\(es.length≠0->b.isNone=false))/\(v= .emp->∃b c,x= .slice b 0 c)/\
  (∀h W o l,v= .vec h W o l->∃b c,x= .slice b l c/\(l≠0->b.isNone=false)):=by
 refine⟨fun m W es e=>?_,fun e=>?_,fun h W o l e=>?_⟩
 ·subst e
  cases hv with|p hv=>
  cases hv with
  |nil _ _ ad=>exact⟨ad,0,rfl,fun h=>absurd rfl h⟩
  |sl _ _ _ b off cap=>exact⟨some ⟨b,off,none⟩,cap,rfl,fun _=>rfl⟩
 ·subst e
  cases hv with
  |jh=>exact⟨none,0,rfl⟩
  |emp ad=>exact⟨_,0,rfl⟩
 ·subst e
  cases hv with
  |vec hb hc hm ho=>exact⟨_,_,rfl,fun _=>rfl⟩
  |ij a hb=>exact⟨a,0,rfl,fun h=>absurd rfl h⟩
theorem CS (hΓ:fk P Γ) (hW:∀x K,W x K->K (cf s x)) (h:b7 E n s L a w F β) {op:BinOp} {t:TypeId} {x:Operand} (hk:W x fun a=>Fg Γ op t a K):
  Out P E n s L a K ((do eqGuard op t x (.const (.slice none 0 0)) (a.eval x) (.slice none 0 0);binOp op t (a.eval x) (.slice none 0 0):Sem Value).run P w):=by
 have hx:=h.ev x
 have hk:=hW x _ hk
 generalize cf s x=vx at hk hx
 generalize a.eval x=ax at hx
 obtain⟨n1,n2,n3⟩:=x4 hx
 have go:∀(b:Option Addr) (l c:Nat) (K':Bool->Prop),(l≠0->b.isNone=false)->m9 l K'->K' b.isNone:=by
  intro b l c K' hb hk
  obtain⟨h1,h2⟩:=hk
  by_cases e:l=0
  ·obtain⟨g1,g2⟩:=h2 e
   cases b<;>assumption
  ·rw[hb e];exact h1 e
 have key:∀K',w5 vx K'->∃b l c,ax= .slice b l c/\K' b.isNone:=by
  intro K' hk
  unfold w5 at hk
  split at hk
  ·obtain⟨b,c,rfl,hb⟩:=n1 _ _ _ rfl;exact⟨b,_,c,rfl,go b _ c _ hb hk⟩
  ·obtain⟨b,c,rfl⟩:=n2 rfl;exact⟨b,_,c,rfl,go b _ c _ (fun h=>absurd rfl h) hk⟩
  ·obtain⟨b,c,rfl,hb⟩:=n3 _ _ _ _ rfl;exact⟨b,_,c,rfl,go b _ c _ hb hk⟩
  ·exact hk.elim
 unfold Fg at hk
 split at hk
 ·rename_i i hi
  split at hk
  ·rename_i e hd
   have hu:P.underlying t=some (.slice e):=by have:=(hΓ t _ hi).desc;rw[hd]at this;exact this
   cases op<;>first|exact hk.elim|skip
   ·obtain⟨b,l,c,rfl,hk⟩:=key _ hk
    rw[Sem.run_seq _ _ _ _ _ _ mY]
    simp[binOp,oK hu]
    exact wa h hk
   ·obtain⟨b,l,c,rfl,hk⟩:=key _ hk
    rw[Sem.run_seq _ _ _ _ _ _ mY]
    simp[binOp,oK hu]
    exact wa h (by cases b<;>exact hk)
  ·exact hk.elim
 ·exact hk.elim
theorem EB (hW:∀x K,W x K->K (cf s x)) (h:b7 E n s L a w F β) {op:UnOp} {t:TypeId} {x:Operand} (hk:aY Γ P wr W LK L base (.unOp op t x) K):
  Out P E n s L a K ((Op.unary op (a.eval x)).run P w):=by
 simp only[aY]at hk
 have hx:=h.ev x
 have hk:=hW x _ hk
 generalize cf s x=vx at hk hx
 generalize a.eval x=ax at hx
 split at hk
 ·cases hx with|p hx=>cases hx with|int k p=>simpa[Op.unary,Op.intArith]using dC h hk
 ·cases hx with|p hx=>cases hx with|int k p=>simpa[Op.unary,Op.intBits]using dC h hk
 ·cases hx with|p hx=>cases hx with|bool b=>simpa[Op.unary]using Out.bool h hk
 ·cases hx with|tf b=>simpa[Op.unary]using wa h hk
 ·exact hk.elim
theorem tV (hΓ:fk P Γ) (hW:∀x K,W x K->K (cf s x)) (h:b7 E n s L a w F β) {src dst:TypeId} {x:Operand} (hk:aY Γ P wr W LK L base (.convert src dst x) K):
  Out P E n s L a K ((convert src dst (a.eval x)).run P w):=by
 simp only[aY]at hk
 have hx:=h.ev x
 have hk:=hW x _ hk
 generalize cf s x=vx at hk hx
 generalize a.eval x=ax at hx
 unfold D5 at hk
 split at hk
 ·rename_i m W es
  split at hk
  ·rename_i i hi
   split at hk
   ·rename_i hd
    have hu:P.underlying dst=some .string:=by have:=(hΓ dst _ hi).desc;rw[hd]at this;exact this
    unfold eP at hk
    split at hk
    ·rename_i i' hi'
     split at hk
     ·rename_i e he
      split at hk
      ·rename_i j hj
       split at hk
       ·rename_i hjd
        have hs:P.underlying src=some (.slice e):=by have:=(hΓ src _ hi').desc;rw[he]at this;exact this
        have hej:P.underlying e=some (.int .u8):=by have:=(hΓ e _ hj).desc;rw[hjd]at this;exact this
        cases hW1:Nat.beq W 1 with
        |false=>rw[hW1]at hk;exact hk.elim
        |true=>
         rw[hW1]at hk
         obtain rfl:W=1:=Nat.eq_of_beq_eq_true hW1
         obtain⟨hall,hk⟩:=hk
         have hrun:∀(ad:Option Addr) (l c:Nat),ax= .slice ad l c->(Conv.bytesToString (.slice ad l c)).run P w= .ok (.string (strOf es)) w:=by
          intro ad l c e1
          subst e1
          cases hx with|p hx=>
          cases hx with
          |nil _ _ ad=>
           cases ad with
           |none=>rfl
           |some ad=>exact run_bytesToString w ad 0 0 [] (run_loadCells_list w ad [] (fun j v h=>by simp at h))
          |sl _ _ _ b off cap vals hc hb hWd hone hv hr=>
           have hlen:es.length=((es.map intOf).map (Value.int .u8)).length:=by simp
           refine run_bytesToString w _ es.length c (es.map intOf) ?_
           rw[hlen]
           refine run_loadCells_list w _ _ fun j v hjv=>?_
           rw[List.getElem?_map,List.getElem?_map]at hjv
           cases hes:es[j]? with
           |none=>rw[hes]at hjv;simp at hjv
           |some x=>
            rw[hes]at hjv
            have hx:=List.all_eq_true.1 hall x (List.mem_of_getElem? hes)
            cases x<;>first|exact Bool.noConfusion hx|skip
            rename_i k z
            cases k<;>first|exact Bool.noConfusion hx|skip
            have h1:=hv j _ 0 _ hes (show(PV.int .u8 z).cells[0]?=some (.int .u8 z)from rfl)
            have h2:=hr j _ 0 _ hes (show(PV.int .u8 z).cells[0]?=some (.int .u8 z)from rfl)
            generalize vals j 0=q at h1 h2
            cases h2
            obtain rfl:Value.int .u8 z=v:=by simpa[intOf]using hjv
            rw[Addr.add_lit]
            simpa using h1
         have hsl:∃ad l c,ax= .slice ad l c:=by
          cases hx with|p hx=>
          cases hx with
          |nil _ _ ad=>exact⟨_,_,_,rfl⟩
          |sl _ _ _ b off cap vals hc hb hWd hone hv hr=>exact⟨_,_,_,rfl⟩
         obtain⟨ad,l,c,e1⟩:=hsl
         have hr:=hrun ad l c e1
         subst e1
         rw[run_convert_bytes_string w src dst e ad l c hs hej hu,hr]
         exact .same h hk (.p (.raw _ rfl)) fun k hk=>by simp only[AV.aU]at hk
       ·exact hk.elim
      ·exact hk.elim
     ·exact hk.elim
    ·exact hk.elim
   ·exact hk.elim
  ·exact hk.elim
 ·split at hk
  ·rename_i i hi
   split at hk
   ·rename_i j hj
    split at hk
    ·rename_i k hd
     cases hx with|p hx=>cases hx with|int k' p=>
     have hu:P.underlying dst=some (.int k):=by have:=(hΓ dst _ hi).desc;rw[hd]at this;exact this
     have hs:∃d,P.underlying src=some d:=by
      have:=(hΓ src _ hj).desc
      cases hd':j.d with
      |struct fs=>rw[hd']at this;obtain⟨f,h1,_⟩:=this;exact⟨_,h1⟩
      |other=>rw[hd']at this;obtain⟨d,h1,_⟩:=this;exact⟨_,h1⟩
      |_=>rw[hd']at this;exact⟨_,this⟩
     obtain⟨d,hs⟩:=hs
     simp[convert,run_underlying hu,run_underlying hs,Conv.intToInt]
     exact dC h hk
    ·exact hk.elim
   ·exact hk.elim
  ·exact hk.elim
 ·exact hk.elim
theorem rC (hW:∀x K,W x K->K (cf s x)) (h:b7 E n s L a w F β) {f:FuncId} {fs cs:Array Operand} (hk:aY Γ P wr W LK L base (.makeFunc (.func f) fs cs) K):
  Out P E n s L a K ((Instr.makeFunc (.func f) (fs.map a.eval) (cs.map a.eval)).run P w):=by
 simp only[aY]at hk
 have ev:∀(xs:List Operand) (K':List AV->Prop),eK W xs K'->K' (xs.map (cf s)):=by
  intro xs
  induction xs with
  |nil=>intro K' h;exact h
  |cons x xs ih=>intro K' h;exact ih _ (hW x _ h)
 have hk:=ev _ _ (ev _ _ hk)
 have rel:∀(xs:Array Operand) (i:Nat) c v,(xs.toList.map (cf s))[i]?=some c->(xs.map a.eval)[i]?=some v->VR w (aQ E.bM F) β c v:=by
  intro xs i c v e1 e2
  simp only[List.getElem?_map,Array.getElem?_toList,Array.getElem?_map]at e1 e2
  cases e:xs[i]? with
  |none=>rw[e]at e1;cases e1
  |some x=>rw[e]at e1 e2;cases e1;cases e2;exact h.ev x
 have aU:∀(xs:Array Operand) (k:Hd),AV.bo (xs.toList.map (cf s)) k->L k≠ .free:=by
  intro xs k
  generalize xs.toList=l
  induction l with
  |nil=>simp[AV.bo]
  |cons x l ih=>
   simp only[List.map_cons,AV.bo]
   rintro(h'|h')
   ·exact h.ug x k h'
   ·exact ih h'
 refine .same h hk (.fn f _ _ _ _ (by simp) (rel fs) (by simp) (rel cs)) fun k hk=>?_
 simp only[AV.aU]at hk
 rcases hk with hk|hk
 ·exact aU fs k hk
 ·exact aU cs k hk
theorem t6 (hW:∀x K,W x K->K (cf s x)) (h:b7 E n s L a w F β) {x:Operand} {i:Nat} (hk:aY Γ P wr W LK L base (.extract x i) K):
  Out P E n s L a K ((Instr.extract (a.eval x) i).run P w):=by
 simp only[aY]at hk
 have hx:=h.ev x
 have hm:=h.ug x
 have hk:=hW x _ hk
 generalize cf s x=vx at hk hx hm
 generalize a.eval x=ax at hx
 split at hk
 ·rename_i cs
  cases hx with|bq _ vs hl hr=>
  obtain⟨c,hc,hk⟩:=rz hk
  have hi:i<vs.size:=by rw[hl];exact(List.getElem?_eq_some_iff.1 hc).1
  simp[Instr.extract,hi]
  exact .same h hk (hr i c _ hc (by simp[hi])) fun k hk=>hm k (by simp only[AV.aU];exact AV.bm (List.mem_of_getElem? hc) hk)
 ·exact hk.elim
end
end
section
section
variable {P:Program} {Γ:kU} {E:Env} {n:Nat} {s:Nat->AV} {L:Hd->aC} {a:Act} {w:World} {F:Nat->Prop} {β:Hd->Option Nat×Nat} {K:AV->List (Hd×aC)->Prop}
 {W:Operand->(AV->Prop)->Prop} {LK:Hd->(aC->Prop)->Prop} {wr:FuncId->Bool} {base:Nat}
theorem VR.intOf {w FB β} {k:IntKind} {z:Int} {x:Value} (h:VR w FB β (.p (.int k z)) x):x= .int k z:=by
 cases h with|p h=>cases h;rfl
theorem dA (hΓ:fk P Γ) {t:TypeId} {K:TypeId->TI->Prop} (h:eP Γ t K):∃e j,P.underlying t=some (.slice e)/\Γ e=some j/\K e j:=by
 unfold eP at h
 split at h
 ·rename_i i hi
  split at h
  ·rename_i e hd
   have hu:=(hΓ t _ hi).desc
   rw[hd]at hu
   split at h
   ·rename_i j hj;exact⟨e,j,hu,hj,h⟩
   ·exact h.elim
  ·exact h.elim
 ·exact h.elim
theorem oh (hΓ:fk P Γ) {t:TypeId} {f:Nat} {K:Nat->TI->Prop} (h:nw Γ t f K):∃(fields:Array Field) (fl:Field) (j:TI),P.underlying t=some (.struct fields)/\fields[f]?=some fl/\Γ fl.type=some j/\K fl.offset j:=by
 unfold nw at h
 split at h
 ·rename_i i hi
  split at h
  ·rename_i fs hd
   have hu:=(hΓ t _ hi).desc
   rw[hd]at hu
   obtain⟨fields,hu,hfs⟩:=hu
   split at h
   ·rename_i x hx
    split at h
    ·rename_i j hj
     rw[<-hfs,List.getElem?_map]at hx
     cases e:fields.toList[f]? with
     |none=>rw[e]at hx;cases hx
     |some fl=>rw[e]at hx;cases hx;exact⟨fields,fl,j,hu,by simpa using e,hj,h⟩
    ·exact h.elim
   ·exact h.elim
  ·exact h.elim
 ·exact h.elim
theorem dp {a b:Nat} {A:Prop} (h:cond (Nat.beq a b) A False):a=b/\A:=by
 cases e:Nat.beq a b with
 |false=>rw[e]at h;exact h.elim
 |true=>rw[e]at h;exact⟨Nat.eq_of_beq_eq_true e,h⟩
theorem tX (hΓ:fk P Γ) {e:TypeId} {i:TI} (hi:Γ e=some i) {K:PV->Prop} (h:oR i K):∃z,K z/\z.cells=i.zero:=by
 unfold oR at h
 split at h
 ·exact⟨_,h,rfl⟩
 ·split at h
  ·rename_i z hz
   exact⟨z,h,by rw[hz,PV.dG ((hΓ e i hi).plain z (by rw[hz];simp))]⟩
  ·exact h.elim
theorem jO {b W len cap:Nat} {w':World} {FB} (h:len<=cap):VR w' FB (bz β base (some b,cap)) (.vec base W 0 len) (.slice (some ⟨b,0,none⟩) len cap):=by
 have:=VR.vec (w:=w') (FB:=FB) (β:=bz β base (some b,cap)) (h:=base) (W:=W) (off:=0) (len:=len) (b:=b) (o:=0) (c:=cap) (by rw[aA]) (by omega) (by rw[aA];omega) (fun _=>by simp)
 exact this
theorem AG (hΓ:fk P Γ) (hW:∀x K,W x K->K (cf s x)) (h:b7 E n s L a w F β) (hf:∀v ups,K v ups->∀x∈ups,base<=x.1.key->dT L x.1.key) {t:TypeId} {l c:Operand}
  (hk:aY Γ P wr W LK L base (.makeSlice t l c) K):Out P E n s L a K ((Instr.makeSlice t (a.eval l) (a.eval c)).run P w):=by
 simp only[aY]at hk
 cases hz0:nF l with
 |true=>
  rw[hz0]at hk
  have hle:∃k,a.eval l= .int k 0:=by
   unfold nF at hz0
   split at hz0
   ·exact⟨_,rfl⟩
   ·cases hz0
  obtain⟨k0,hle⟩:=hle
  have hc:=h.ev c
  have hk:=hW c _ hk
  generalize cf s c=vc at hk hc
  generalize a.eval c=ac at hc
  rw[hle]
  unfold BI at hk
  split at hk
  ·obtain⟨e,i,hu,hi,hk⟩:=dA hΓ hk
   obtain⟨j,hj,hb,hb2,hK⟩:=hk
   obtain rfl:=hc.intOf
   subst hj
   obtain⟨info,zv,g1,g2,g3,g4,g5⟩:=lE hΓ hi
   have hb':((info.bytes:Int)*(j:Int))<=281474976710656:=by
    rw[g3,Int.mul_comm]
    have:((j*i.bytes:Nat):Int)<=140737488355328:=Int.ofNat_le.2 hb
    rw[Int.natCast_mul]at this
    omega
   have hr:=fun k1 k2=>run_make (P:=P) w t e info zv hu g1 g4 k1 k2 (0:Int) (j:Int) (Int.le_refl _) (by omega) hb' (by omega)
   rw[hr]
   simp only[Int.toNat_natCast,Int.toNat_zero]
   have hfree:L base= .free:=(hf _ _ hK (base,.vec e i.size []) (by simp) (Nat.le_refl _)).1
   exact .new h _ e (.vec e i.size []) base j hK hfree ⟨fun e' he'=>absurd he' List.not_mem_nil,by simp[aA],.inr ⟨w.heap.size,_,by rw[aA],dN w _,by rw[aA,size_madeCells,g2],fun i' e' o c v e1 e2 e3=>by simp at e1⟩⟩ trivial (fun j hj=>hj.elim) (jO (Nat.zero_le _)) (fun k hk=>.inl hk.symm)
  ·exact hk.elim
 |false=>
 rw[hz0]at hk
 have hl:=h.ev l
 have hc:=h.ev c
 have hk:=hW c _ (hW l _ hk)
 generalize cf s l=vl at hk hl
 generalize cf s c=vc at hk hc
 generalize a.eval l=al at hl
 generalize a.eval c=ac at hc
 unfold Ea at hk
 split at hk
 ·split at hk
  ·obtain⟨e,i,hu,hi,hk⟩:=dA hΓ hk
   obtain⟨z,hk,hz⟩:=tX hΓ hi hk
   obtain⟨m',hm',hlt,j,hj,hb,hb2,hK⟩:=hk
   obtain rfl:=hl.intOf
   obtain rfl:=hc.intOf
   subst hm'
   subst hj
   obtain rfl:_=((j:Nat):Int):=Int.sub_eq_zero.1 (Int.natAbs_eq_zero.1 (Nat.lt_one_iff.1 hlt))
   obtain⟨info,zv,g1,g2,g3,g4,g5⟩:=lE hΓ hi
   obtain⟨zv',h1,h2,h3,h4⟩:=jA hΓ hi
   have hzz:zv'=zv:=by
    have:=h1 w
    simp[zeroValue,typeInfo,g1,g4]at this
    exact this.symm
   subst hzz
   have hb':((info.bytes:Int)*(j:Int))<=281474976710656:=by
    rw[g3,Int.mul_comm]
    have:((j*i.bytes:Nat):Int)<=140737488355328:=Int.ofNat_le.2 hb
    rw[Int.natCast_mul]at this
    omega
   have hr:=fun k1 k2=>run_make (P:=P) w t e info zv' hu g1 g4 k1 k2 (j:Int) (j:Int) (by omega) (Int.le_refl _) hb' (by omega)
   rw[hr]
   simp only[Int.toNat_natCast]
   have vecs:K (.vec base i.size 0 j) [(base,.vec e i.size (List.replicate j z))]->Out P E n s L a K (.ok (.slice (some ⟨w.heap.size,0,none⟩) j j) (w.alloc (.cells (madeCells zv'.cells (j*info.size)) e))):=by
    intro hK'
    have hfree:L base= .free:=(hf _ _ hK' (base,.vec e i.size (List.replicate j z)) (by simp) (Nat.le_refl _)).1
    have hzl:z.cells.length=i.size:=by rw[hz];exact(hΓ e i hi).info.choose_spec.choose_spec.2.2.2.2.2.1
    refine .new h _ e (.vec e i.size (List.replicate j z)) base j hK' hfree ⟨fun e' he'=>?_,by simp[aA],.inr ⟨w.heap.size,_,by rw[aA],dN w _,by rw[aA,size_madeCells,g2],fun i' e' o c v e1 e2 e3=>h.fS _ ?_⟩⟩ trivial (fun j hj=>hj.elim) (jO (Nat.le_refl _)) (fun k hk=>.inl hk.symm)
    ·rw[List.eq_of_mem_replicate he'];exact⟨hzl,fun c hc=>(hΓ e i hi).plain c (by rw[<-hz];exact hc)⟩
    ·have he':e'=z:=List.eq_of_mem_replicate (List.mem_of_getElem? e1)
     subst he'
     have ho:o<i.size:=by rw[<-hzl];exact(List.getElem?_eq_some_iff.1 e2).1
     have hi':i'<j:=by simpa using(List.getElem?_eq_some_iff.1 e1).1
     have hlt:i'*i.size+o<j*info.size:=by
      rw[g2]
      have:(i'+1)*i.size<=j*i.size:=Nat.mul_le_mul_right _ (by omega)
      rw[Nat.add_mul]at this;omega
     have hmod:(i'*i.size+o)%i.size=o:=by rw[Nat.mul_comm,Nat.mul_add_mod,Nat.mod_eq_of_lt ho]
     have e4:v=zv'.cells[o]! :=by
      simp only[madeCells,Array.getElem?_map,Array.getElem?_range,hlt,if_true,Option.map_some,Option.some.injEq]at e3
      rw[<-e3,h2,hmod]
     rw[hz]at e2
     exact h4 w _ o c v e2 (by rw[e4];simp[h2,ho])
   revert hK
   cases hrow:i.qA with
   |false=>exact fun hK=>vecs hK
   |true=>
    intro hK
    cases hK with
    |vec hK=>exact vecs hK
    |rows hK=>
     have hfree:L base= .free:=(hf _ _ hK (base,.rows e (List.replicate j .emp)) (by simp) (Nat.le_refl _)).1
     have hsz1:i.size=1:=by
      unfold TI.qA at hrow
      split at hrow
      ·exact Nat.eq_of_beq_eq_true hrow
      ·cases hrow
     have hzv:zv'= .slice none 0 0:=by
      unfold TI.qA at hrow
      split at hrow
      ·rename_i e' hd;exact(hΓ e i hi).Fc info zv' e' g1 g4 hd
      ·cases hrow
     refine .new h _ e (.rows e (List.replicate j .emp)) base j hK hfree ⟨fun c hc=>by rw[List.eq_of_mem_replicate hc];rfl,by simp[aA],.inr ⟨w.heap.size,_,by rw[aA],dN w _,by rw[aA,size_madeCells,g2,hsz1,Nat.mul_one],fun q c v e1 e2=>?_⟩⟩ trivial (fun q hq=>?_) (jO (Nat.le_refl _)) (fun k hk=>.inl hk.symm)
     ·have hc:c= .emp:=List.eq_of_mem_replicate (List.mem_of_getElem? e1)
      subst hc
      have hlt:q<j*info.size:=by rw[g2,hsz1,Nat.mul_one];simpa using(List.getElem?_eq_some_iff.1 e1).1
      simp only[madeCells,Array.getElem?_map,Array.getElem?_range,hlt,if_true,Option.map_some,Option.some.injEq]at e2
      rw[<-e2,hzv]
      show VR _ _ _ .emp ((#[Value.slice none 0 0])[q%1]!)
      rw[Nat.mod_one]
      exact .jh
     ·exfalso
      have:∀m,AV.bo (List.replicate m AV.emp) q->False:=by
       intro m
       induction m with
       |zero=>intro h;simp only[List.replicate,AV.bo]at h
       |succ m ih=>intro h;simp only[List.replicate,AV.bo,AV.aU,false_or]at h;exact ih h
      exact this j hq
  ·exact hk.elim
 ·exact hk.elim
theorem PR.take {w FB} {m:Bool} {W:Nat} {es:List PV} {b off cap:Nat} {l h:Nat} (hp:PR w FB (.sl m W es) (.slice (some ⟨b,off,none⟩) es.length cap)) (h1:l<=h) (h2:h<=es.length) (off' cap':Nat)
  (ho:l<h->off'=off+l*W) (hc:h-l<=cap'):PR w FB (.sl m W ((es.take h).drop l)) (.slice (some ⟨b,off',none⟩) (h-l) cap'):=by
 have hlen:((es.take h).drop l).length=h-l:=by simp;omega
 cases hp with
 |nil=>
  have h2:h<=0:=h2
  have e1:h=0:=by omega
  have e2:l=0:=by omega
  subst e1;subst e2
  exact PR.sl m W [] b off' cap' (fun _ _=>Go.undef) (Nat.zero_le _) (fun h=>absurd rfl h) (by simp) (by simp) (by simp) (by simp)
 |sl _ _ _ _ _ _ vals hcap hb hW hone hv hr=>
  have:=PR.sl m W ((es.take h).drop l) b off' cap' (fun i j=>vals (l+i) j) (w:=w) (FB:=FB) (by rw[hlen];exact hc) (fun hne=>hb (by intro e;rw[e]at hne;simp at hne))
   (fun e he=>hW e (List.mem_of_mem_take (List.mem_of_mem_drop he))) (fun e he=>hone e (List.mem_of_mem_take (List.mem_of_mem_drop he))) (fun i e j c e1 e2=>?_) (fun i e j c e1 e2=>?_)
  ·rw[hlen]at this;exact this
  ·have hi:i<h-l:=by rw[<-hlen];exact(List.getElem?_eq_some_iff.1 e1).1
   rw[List.getElem?_drop,List.getElem?_take_of_lt (by omega)]at e1
   rw[ho (by omega),show off+l*W+i*W+j=off+(l+i)*W+j by rw[Nat.add_mul];omega]
   exact hv (l+i) e j c e1 e2
  ·have hi:i<h-l:=by rw[<-hlen];exact(List.getElem?_eq_some_iff.1 e1).1
   rw[List.getElem?_drop,List.getElem?_take_of_lt (by omega)]at e1
   exact hr (l+i) e j c e1 e2
theorem c8 (hW:∀x K,W x K->K (cf s x)) (h:b7 E n s L a w F β) {x:Option Operand} {d:Int} {K:Int->Prop} (hk:fZ W x d K):
  (x=none/\K d)\/∃y k i,x=some y/\a.eval y= .int k i/\K i:=by
 unfold fZ at hk
 split at hk
 ·exact .inl ⟨rfl,hk⟩
 ·rename_i y
  have hy:=h.ev y
  have hk:=hW y _ hk
  generalize cf s y=vy at hk hy
  split at hk
  ·cases hy with|p hy=>
   generalize hay:a.eval y=ay at hy
   cases hy
   exact .inr ⟨y,_,_,rfl,hay,hk⟩
  ·exact hk.elim
theorem fD (low high mx:Option Value) (len cap l h:Nat) (hl:low=none/\l=0\/∃k,low=some (.int k (l:Int))) (hh:high=none/\h=len\/∃k,high=some (.int k (h:Int)))
  (hm:mx=none\/(∃k,mx=some (.int k (h:Int)))/\high.isSome) (h1:l<=h) (h2:h<=len) (h3:len<=cap):
  (Instr.sliceBounds true len cap low high mx).run P w= .ok (l,h,if mx.isSome then h else cap) w:=by
 have b:∀(k:IntKind) (i y:Nat) c,i<=y->(Instr.sliceBound (.int k (i:Int)) y c).run P w= .ok i w:=by
  intro k i y c hi
  simp[Instr.sliceBound,asIntOf,hi]
 rcases hm with rfl|⟨⟨k,rfl⟩,hs⟩
 ·rcases hh with⟨rfl,rfl⟩|⟨k',rfl⟩<;>rcases hl with⟨rfl,rfl⟩|⟨k'',rfl⟩
  ·simp[Instr.sliceBounds]
  ·simp[Instr.sliceBounds,b _ _ _ _ h1]
  ·simp[Instr.sliceBounds,b _ _ _ _ (Nat.le_trans h2 h3)]
  ·simp[Instr.sliceBounds,b _ _ _ _ (Nat.le_trans h2 h3),b _ _ _ _ h1]
 ·rcases hh with⟨rfl,rfl⟩|⟨k',rfl⟩
  ·cases hs
  ·rcases hl with⟨rfl,rfl⟩|⟨k'',rfl⟩
   ·simp[Instr.sliceBounds,b _ _ _ _ (Nat.le_trans h2 h3),b _ _ _ _ (Nat.le_refl h)]
   ·simp[Instr.sliceBounds,b _ _ _ _ (Nat.le_trans h2 h3),b _ _ _ _ (Nat.le_refl h),b _ _ _ _ h1]
end
end
section
section
variable {P:Program} {Γ:kU} {E:Env} {n:Nat} {s:Nat->AV} {L:Hd->aC} {a:Act} {w:World} {F:Nat->Prop} {β:Hd->Option Nat×Nat} {K:AV->List (Hd×aC)->Prop}
 {W:Operand->(AV->Prop)->Prop} {LK:Hd->(aC->Prop)->Prop} {wr:FuncId->Bool} {base:Nat}
theorem ke (h:b7 E n s L a w F β) {v:PV} {x:Value} (hk:K (.p v) []) (hv:PR w (aQ E.bM F) v x):Out P E n s L a K (.ok x w):=.same h hk (.p hv) fun k hk=>by simp only[AV.aU]at hk
theorem eO {t e:TypeId} (hu:P.underlying t=some (.slice e)) {sz:Nat} (hs:(sizeOf e).run P w= .ok sz w) (b:Option Addr) (len cap l h m:Nat) (lo hi mx:Option Value)
  (hb:(Instr.sliceBounds true len cap lo hi mx).run P w= .ok (l,h,m) w):
  (Instr.sliceAt t (.slice b len cap) lo hi mx).run P w= .ok (.slice (if m=l then b else b.map (·.add (l*sz))) (h-l) (m-l)) w:=by
 simp[Instr.sliceAt,run_underlying hu,Instr.slice,hb,hs]
theorem yY (hΓ:fk P Γ) (hW:∀x K,W x K->K (cf s x)) (h:b7 E n s L a w F β) {t:TypeId} {x:Operand} {lo hi mx:Option Operand} (hk:aY Γ P wr W LK L base (.slice t x lo hi mx) K):
  Out P E n s L a K ((Instr.sliceAt t (a.eval x) (lo.map a.eval) (hi.map a.eval) (mx.map a.eval)).run P w):=by
 simp only[aY]at hk
 have hx:=h.ev x
 have hxm:=h.ug x
 have hk:=hW x _ hk
 generalize cf s x=vx at hk hx hxm
 generalize a.eval x=ax at hx
 unfold ob at hk
 split at hk
 ·rename_i m Wd es
  have hmh:(mx.isNone||hi.isSome)=true/\eP Γ t fun _ i=>cond (Nat.beq i.size Wd) (fZ W lo 0 fun l=>fZ W hi es.length fun h=>fZ W mx h fun mm=>SZ mm fun mm'=>bT (mm'-h).natAbs 1 (fp l h es.length fun l h=>
   EI mx l h (cH ((es.take h).drop l) fun es'=>K (.p (.sl m Wd es')) []) (K .emp []) (cH ((es.take h).drop l) fun es'=>K (.m6 m Wd es') []))) False:=by
   cases e:(mx.isNone||hi.isSome)with
   |false=>rw[e]at hk;exact hk.elim
   |true=>rw[e]at hk;exact⟨rfl,hk⟩
  obtain⟨hmh,hk⟩:=hmh
  obtain⟨e,i,hu,hie,hk⟩:=dA hΓ hk
  obtain⟨hWd,hk⟩:=dp hk
  subst hWd
  have hsz:=cJ hΓ hie w
  have key:∃l hh:Nat,(lo.map a.eval=none/\l=0\/∃k,lo.map a.eval=some (.int k (l:Int)))/\(hi.map a.eval=none/\hh=es.length\/∃k,hi.map a.eval=some (.int k (hh:Int)))/\
    (mx.map a.eval=none\/(∃k,mx.map a.eval=some (.int k (hh:Int))))/\l<=hh/\hh<=es.length/\(K (.p (.sl m i.size ((es.take hh).drop l))) []\/mx.isSome=true/\(l=hh/\K .emp []\/K (.m6 m i.size ((es.take hh).drop l)) [])):=by
   have fin:∀(zl zh zm:Int),(SZ zm fun mm'=>bT (mm'-zh).natAbs 1 (fp zl zh es.length fun l h=>EI mx l h (cH ((es.take h).drop l) fun es'=>K (.p (.sl m i.size es')) []) (K .emp []) (cH ((es.take h).drop l) fun es'=>K (.m6 m i.size es') [])))->
     ∃l hh:Nat,zl=l/\zh=hh/\zm=hh/\l<=hh/\hh<=es.length/\(K (.p (.sl m i.size ((es.take hh).drop l))) []\/mx.isSome=true/\(l=hh/\K .emp []\/K (.m6 m i.size ((es.take hh).drop l)) [])):=by
    intro zl zh zm hk
    obtain⟨mm',hmm,hlt,l,hh,hl,hhh,h1,h2,hk⟩:=hk
    refine⟨l,hh,hl,hhh,by omega,h1,h2,?_⟩
    cases mx with
    |none=>obtain⟨es',hes,hk⟩:=hk;subst hes;exact .inl hk
    |some q=>
     rcases hk with⟨es',hes,hk⟩|⟨e,hk⟩|⟨es',hes,hk⟩
     ·subst hes;exact .inl hk
     ·exact .inr ⟨rfl,.inl ⟨e,hk⟩⟩
     ·subst hes;exact .inr ⟨rfl,.inr hk⟩
   rcases c8 hW h hk with⟨elo,hk⟩|⟨y,k,z,elo,eva,hk⟩
   ·rcases c8 hW h hk with⟨ehi,hk⟩|⟨y',k',z',ehi,eva',hk⟩
    ·rcases c8 hW h hk with⟨emx,hk⟩|⟨y'',k'',z'',emx,eva'',hk⟩
     ·obtain⟨l,hh,q1,q2,q3,q4,q5,hk⟩:=fin _ _ _ hk
      exact⟨l,hh,.inl ⟨by rw[elo];rfl,by omega⟩,.inl ⟨by rw[ehi];rfl,by omega⟩,.inl (by rw[emx];rfl),q4,q5,hk⟩
     ·obtain⟨l,hh,q1,q2,q3,q4,q5,hk⟩:=fin _ _ _ hk
      exact⟨l,hh,.inl ⟨by rw[elo];rfl,by omega⟩,.inl ⟨by rw[ehi];rfl,by omega⟩,.inr ⟨k'',by rw[emx,<-q3,<-eva''];rfl⟩,q4,q5,hk⟩
    ·rcases c8 hW h hk with⟨emx,hk⟩|⟨y'',k'',z'',emx,eva'',hk⟩
     ·obtain⟨l,hh,q1,q2,q3,q4,q5,hk⟩:=fin _ _ _ hk
      exact⟨l,hh,.inl ⟨by rw[elo];rfl,by omega⟩,.inr ⟨k',by rw[ehi,<-q2,<-eva'];rfl⟩,.inl (by rw[emx];rfl),q4,q5,hk⟩
     ·obtain⟨l,hh,q1,q2,q3,q4,q5,hk⟩:=fin _ _ _ hk
      exact⟨l,hh,.inl ⟨by rw[elo];rfl,by omega⟩,.inr ⟨k',by rw[ehi,<-q2,<-eva'];rfl⟩,.inr ⟨k'',by rw[emx,<-q3,<-eva''];rfl⟩,q4,q5,hk⟩
   ·rcases c8 hW h hk with⟨ehi,hk⟩|⟨y',k',z',ehi,eva',hk⟩
    ·rcases c8 hW h hk with⟨emx,hk⟩|⟨y'',k'',z'',emx,eva'',hk⟩
     ·obtain⟨l,hh,q1,q2,q3,q4,q5,hk⟩:=fin _ _ _ hk
      exact⟨l,hh,.inr ⟨k,by rw[elo,<-q1,<-eva];rfl⟩,.inl ⟨by rw[ehi];rfl,by omega⟩,.inl (by rw[emx];rfl),q4,q5,hk⟩
     ·obtain⟨l,hh,q1,q2,q3,q4,q5,hk⟩:=fin _ _ _ hk
      exact⟨l,hh,.inr ⟨k,by rw[elo,<-q1,<-eva];rfl⟩,.inl ⟨by rw[ehi];rfl,by omega⟩,.inr ⟨k'',by rw[emx,<-q3,<-eva''];rfl⟩,q4,q5,hk⟩
    ·rcases c8 hW h hk with⟨emx,hk⟩|⟨y'',k'',z'',emx,eva'',hk⟩
     ·obtain⟨l,hh,q1,q2,q3,q4,q5,hk⟩:=fin _ _ _ hk
      exact⟨l,hh,.inr ⟨k,by rw[elo,<-q1,<-eva];rfl⟩,.inr ⟨k',by rw[ehi,<-q2,<-eva'];rfl⟩,.inl (by rw[emx];rfl),q4,q5,hk⟩
     ·obtain⟨l,hh,q1,q2,q3,q4,q5,hk⟩:=fin _ _ _ hk
      exact⟨l,hh,.inr ⟨k,by rw[elo,<-q1,<-eva];rfl⟩,.inr ⟨k',by rw[ehi,<-q2,<-eva'];rfl⟩,.inr ⟨k'',by rw[emx,<-q3,<-eva''];rfl⟩,q4,q5,hk⟩
  obtain⟨l,hh,b1,b2,b3,b4,b5,hk⟩:=key
  have hmx:mx.map a.eval=none\/(∃k,mx.map a.eval=some (.int k (hh:Int)))/\(hi.map a.eval).isSome:=by
   rcases b3 with b3|b3
   ·exact .inl b3
   ·rcases b2 with⟨b2,_⟩|⟨k,b2⟩
    ·obtain⟨k,b3⟩:=b3
     cases mx with
     |none=>exact .inl rfl
     |some q=>cases hi with
      |none=>simp at hmh
      |some q'=>simp at b2
    ·exact .inr ⟨b3,by rw[b2];rfl⟩
  cases hx with|p hx=>
  cases hx with
  |nil _ _ ad=>
   simp only[List.length_nil]at b5 b2
   have h0:hh=0:=by omega
   have l0:l=0:=by omega
   subst h0;subst l0
   have hb:=fD (P:=P) (w:=w) _ _ _ 0 0 0 0 b1 b2 hmx (Nat.le_refl _) (Nat.le_refl _) (Nat.le_refl _)
   rw[eO hu hsz _ _ _ _ _ _ _ _ _ hb]
   have e:(if(mx.map a.eval).isSome=true then 0 else 0)=0:=by split<;>rfl
   rw[e]
   simp only[if_true,Nat.sub_self]
   rcases hk with hk|⟨_,⟨_,hk⟩|hk⟩
   ·exact ke h hk (.nil _ _ _)
   rotate_left
   ·exact .same h hk (.m6 (.nil _ _ _)) fun k hk=>by simp only[AV.aU]at hk
   ·exact .same h hk (by cases ad with|none=>exact .jh|some q=>exact .emp q) fun k hk=>by simp only[AV.aU]at hk
  |sl _ _ _ b off cap vals hc hb hW' hone hv hr=>
   have hbs:=fD (P:=P) (w:=w) _ _ _ es.length cap l hh b1 b2 hmx b4 b5 hc
   rw[eO hu hsz _ _ _ _ _ _ _ _ _ hbs]
   generalize hM:(if(mx.map a.eval).isSome=true then hh else cap)=M
   have hM':hh<=M:=by rw[<-hM];split<;>omega
   have hk:K (.p (.sl m i.size ((es.take hh).drop l))) []\/M=hh/\(l=hh/\K .emp []\/K (.m6 m i.size ((es.take hh).drop l)) []):=hk.imp id fun⟨q1,q2⟩=>⟨by rw[<-hM,if_pos (by rw[Option.isSome_map];exact q1)],q2⟩
   have hp:=PR.sl m i.size es b off cap vals hc hb hW' hone hv hr
   rcases hk.symm with⟨eM,⟨el,hk⟩|hk⟩|hk
   ·rw[if_pos (by omega),eM,<-el]
    simp only[Nat.sub_self]
    exact .same h hk (.emp _) fun k hk=>by simp only[AV.aU]at hk
   ·have hln:((es.take hh).drop l).length=hh-l:=by simp;omega
    by_cases e:M=l
    ·rw[if_pos e,eM]
     have:=VR.m6 (β:=β) (by rw[hln];exact hp.take b4 b5 off (hh-l) (fun h=>by omega) (by omega))
     rw[hln]at this
     exact .same h hk this fun k hk=>by simp only[AV.aU]at hk
    ·rw[if_neg e,eM]
     simp only[Option.map_some,Addr.add_lit]
     have:=VR.m6 (β:=β) (by rw[hln];exact hp.take b4 b5 (off+l*i.size) (hh-l) (fun _=>rfl) (by omega))
     rw[hln]at this
     exact .same h hk this fun k hk=>by simp only[AV.aU]at hk
   by_cases e:M=l
   ·rw[if_pos e]
    exact ke h hk (hp.take b4 b5 off (M-l) (fun h=>by omega) (by omega))
   ·rw[if_neg e]
    simp only[Option.map_some,Addr.add_lit]
    exact ke h hk (hp.take b4 b5 (off+l*i.size) (M-l) (fun _=>rfl) (by omega))
 ·rename_i hd Wd off len
  split at hk
  ·obtain⟨e,i,hu,hie,hk⟩:=dA hΓ hk
   obtain⟨hWd,hk⟩:=dp hk
   subst hWd
   have hsz:=cJ hΓ hie w
   have key:∃l hh:Nat,(lo.map a.eval=none/\l=0\/∃k,lo.map a.eval=some (.int k (l:Int)))/\(hi.map a.eval=none/\hh=len\/∃k,hi.map a.eval=some (.int k (hh:Int)))/\
     l<=hh/\hh<=len/\K (.vec hd i.size (off+l) (hh-l)) []:=by
    have fin:∀(zl zh:Int),(fp zl zh len fun l h=>K (.vec hd i.size (off+l) (h-l)) [])->∃l hh:Nat,zl=l/\zh=hh/\l<=hh/\hh<=len/\K (.vec hd i.size (off+l) (hh-l)) []:=by
     intro zl zh hk
     obtain⟨l,hh,hl,hhh,h1,h2,hk⟩:=hk
     exact⟨l,hh,hl,hhh,h1,h2,hk⟩
    rcases c8 hW h hk with⟨elo,hk⟩|⟨y,k,z,elo,eva,hk⟩
    ·rcases c8 hW h hk with⟨ehi,hk⟩|⟨y',k',z',ehi,eva',hk⟩
     ·obtain⟨l,hh,q1,q2,q4,q5,hk⟩:=fin _ _ hk
      exact⟨l,hh,.inl ⟨by rw[elo];rfl,by omega⟩,.inl ⟨by rw[ehi];rfl,by omega⟩,q4,q5,hk⟩
     ·obtain⟨l,hh,q1,q2,q4,q5,hk⟩:=fin _ _ hk
      exact⟨l,hh,.inl ⟨by rw[elo];rfl,by omega⟩,.inr ⟨k',by rw[ehi,<-q2,<-eva'];rfl⟩,q4,q5,hk⟩
    ·rcases c8 hW h hk with⟨ehi,hk⟩|⟨y',k',z',ehi,eva',hk⟩
     ·obtain⟨l,hh,q1,q2,q4,q5,hk⟩:=fin _ _ hk
      exact⟨l,hh,.inr ⟨k,by rw[elo,<-q1,<-eva];rfl⟩,.inl ⟨by rw[ehi];rfl,by omega⟩,q4,q5,hk⟩
     ·obtain⟨l,hh,q1,q2,q4,q5,hk⟩:=fin _ _ hk
      exact⟨l,hh,.inr ⟨k,by rw[elo,<-q1,<-eva];rfl⟩,.inr ⟨k',by rw[ehi,<-q2,<-eva'];rfl⟩,q4,q5,hk⟩
   obtain⟨l,hh,b1,b2,b4,b5,hk⟩:=key
   cases hx with
   | @vec _ _ _ _ b o cc hb hc hm ho=>
    have hbs:=fD (P:=P) (w:=w) (lo.map a.eval) (hi.map a.eval) none len cc l hh b1 b2 (.inl rfl) b4 b5 (by omega)
    show Out P E n s L a K ((Instr.sliceAt t _ (lo.map a.eval) (hi.map a.eval) none).run P w)
    rw[eO hu hsz _ _ _ _ _ _ _ _ _ hbs]
    have:(if(none:Option Value).isSome=true then hh else cc)=cc:=rfl
    rw[this]
    by_cases e:cc=l
    ·rw[if_pos e]
     exact .same h hk (.vec hb (by omega) (by omega) (fun h=>by omega)) fun k hk=>hxm k hk
    ·rw[if_neg e]
     simp only[Option.map_some,Addr.add_lit]
     exact .same h hk (.vec hb (by omega) (by omega) (fun _=>by rw[ho (by omega),Nat.add_mul])) fun k hk=>hxm k hk
   |ij ad hb=>
    have h0:hh=0:=by omega
    have l0:l=0:=by omega
    subst h0;subst l0
    have hbs:=fD (P:=P) (w:=w) (lo.map a.eval) (hi.map a.eval) none 0 0 0 0 b1 b2 (.inl rfl) b4 b5 (Nat.le_refl _)
    show Out P E n s L a K ((Instr.sliceAt t _ (lo.map a.eval) (hi.map a.eval) none).run P w)
    rw[eO hu hsz _ _ _ _ _ _ _ _ _ hbs]
    simp
    exact .same h hk (.ij ad hb) fun k hk=>hxm k hk
  ·rename_i mo _
   have hmh:hi.isSome=true/\eP Γ t fun _ i=>cond (Nat.beq i.size Wd) (fZ W lo 0 fun l=>fZ W hi len fun h=>fZ W (some mo) h fun mm=>SZ mm fun mm'=>bT (mm'-h).natAbs 1 (fp l h len fun l h=>K (.vec hd Wd (off+l) (h-l)) [])) False:=by
    cases e:hi.isSome with
    |false=>rw[e]at hk;exact hk.elim
    |true=>rw[e]at hk;exact⟨rfl,hk⟩
   obtain⟨hmh,hk⟩:=hmh
   obtain⟨e,i,hu,hie,hk⟩:=dA hΓ hk
   obtain⟨hWd,hk⟩:=dp hk
   subst hWd
   have hsz:=cJ hΓ hie w
   have key:∃l hh:Nat,(lo.map a.eval=none/\l=0\/∃k,lo.map a.eval=some (.int k (l:Int)))/\(hi.map a.eval=none/\hh=len\/∃k,hi.map a.eval=some (.int k (hh:Int)))/\
     ((some mo).map a.eval=none\/(∃k,(some mo).map a.eval=some (.int k (hh:Int))))/\l<=hh/\hh<=len/\K (.vec hd i.size (off+l) (hh-l)) []:=by
    have fin:∀(zl zh zm:Int),(SZ zm fun mm'=>bT (mm'-zh).natAbs 1 (fp zl zh len fun l h=>K (.vec hd i.size (off+l) (h-l)) []))->
      ∃l hh:Nat,zl=l/\zh=hh/\zm=hh/\l<=hh/\hh<=len/\K (.vec hd i.size (off+l) (hh-l)) []:=by
     intro zl zh zm hk
     obtain⟨mm',hmm,hlt,l,hh,hl,hhh,h1,h2,hk⟩:=hk
     exact⟨l,hh,hl,hhh,by omega,h1,h2,hk⟩
    rcases c8 hW h hk with⟨elo,hk⟩|⟨y,k,z,elo,eva,hk⟩
    ·rcases c8 hW h hk with⟨ehi,hk⟩|⟨y',k',z',ehi,eva',hk⟩
     ·rcases c8 hW h hk with⟨emx,hk⟩|⟨y'',k'',z'',emx,eva'',hk⟩
      ·obtain⟨l,hh,q1,q2,q3,q4,q5,hk⟩:=fin _ _ _ hk
       exact⟨l,hh,.inl ⟨by rw[elo];rfl,by omega⟩,.inl ⟨by rw[ehi];rfl,by omega⟩,.inl (by rw[emx];rfl),q4,q5,hk⟩
      ·obtain⟨l,hh,q1,q2,q3,q4,q5,hk⟩:=fin _ _ _ hk
       exact⟨l,hh,.inl ⟨by rw[elo];rfl,by omega⟩,.inl ⟨by rw[ehi];rfl,by omega⟩,.inr ⟨k'',by rw[emx,<-q3,<-eva''];rfl⟩,q4,q5,hk⟩
     ·rcases c8 hW h hk with⟨emx,hk⟩|⟨y'',k'',z'',emx,eva'',hk⟩
      ·obtain⟨l,hh,q1,q2,q3,q4,q5,hk⟩:=fin _ _ _ hk
       exact⟨l,hh,.inl ⟨by rw[elo];rfl,by omega⟩,.inr ⟨k',by rw[ehi,<-q2,<-eva'];rfl⟩,.inl (by rw[emx];rfl),q4,q5,hk⟩
      ·obtain⟨l,hh,q1,q2,q3,q4,q5,hk⟩:=fin _ _ _ hk
       exact⟨l,hh,.inl ⟨by rw[elo];rfl,by omega⟩,.inr ⟨k',by rw[ehi,<-q2,<-eva'];rfl⟩,.inr ⟨k'',by rw[emx,<-q3,<-eva''];rfl⟩,q4,q5,hk⟩
    ·rcases c8 hW h hk with⟨ehi,hk⟩|⟨y',k',z',ehi,eva',hk⟩
     ·rcases c8 hW h hk with⟨emx,hk⟩|⟨y'',k'',z'',emx,eva'',hk⟩
      ·obtain⟨l,hh,q1,q2,q3,q4,q5,hk⟩:=fin _ _ _ hk
       exact⟨l,hh,.inr ⟨k,by rw[elo,<-q1,<-eva];rfl⟩,.inl ⟨by rw[ehi];rfl,by omega⟩,.inl (by rw[emx];rfl),q4,q5,hk⟩
      ·obtain⟨l,hh,q1,q2,q3,q4,q5,hk⟩:=fin _ _ _ hk
       exact⟨l,hh,.inr ⟨k,by rw[elo,<-q1,<-eva];rfl⟩,.inl ⟨by rw[ehi];rfl,by omega⟩,.inr ⟨k'',by rw[emx,<-q3,<-eva''];rfl⟩,q4,q5,hk⟩
     ·rcases c8 hW h hk with⟨emx,hk⟩|⟨y'',k'',z'',emx,eva'',hk⟩
      ·obtain⟨l,hh,q1,q2,q3,q4,q5,hk⟩:=fin _ _ _ hk
       exact⟨l,hh,.inr ⟨k,by rw[elo,<-q1,<-eva];rfl⟩,.inr ⟨k',by rw[ehi,<-q2,<-eva'];rfl⟩,.inl (by rw[emx];rfl),q4,q5,hk⟩
      ·obtain⟨l,hh,q1,q2,q3,q4,q5,hk⟩:=fin _ _ _ hk
       exact⟨l,hh,.inr ⟨k,by rw[elo,<-q1,<-eva];rfl⟩,.inr ⟨k',by rw[ehi,<-q2,<-eva'];rfl⟩,.inr ⟨k'',by rw[emx,<-q3,<-eva''];rfl⟩,q4,q5,hk⟩
   obtain⟨l,hh,b1,b2,b3,b4,b5,hk⟩:=key
   have b3:∃k,(some mo).map a.eval=some (.int k (hh:Int)):=by
    rcases b3 with b3|b3
    ·simp at b3
    ·exact b3
   have b2s:(hi.map a.eval).isSome:=by cases hi with
    |none=>simp at hmh
    |some q=>rfl
   show Out P E n s L a K ((Instr.sliceAt t _ (lo.map a.eval) (hi.map a.eval) ((some mo).map a.eval)).run P w)
   cases hx with
   | @vec _ _ _ _ b o cc hb hc hm ho=>
    have hbs:=fD (P:=P) (w:=w) (lo.map a.eval) (hi.map a.eval) ((some mo).map a.eval) len cc l hh b1 b2 (.inr ⟨b3,b2s⟩) b4 b5 (by omega)
    rw[eO hu hsz _ _ _ _ _ _ _ _ _ hbs]
    have:(if((some mo).map a.eval).isSome=true then hh else cc)=hh:=rfl
    rw[this]
    by_cases e:hh=l
    ·rw[if_pos e]
     exact .same h hk (.vec hb (by omega) (by omega) (fun h=>by omega)) fun k hk=>hxm k hk
    ·rw[if_neg e]
     simp only[Option.map_some,Addr.add_lit]
     exact .same h hk (.vec hb (by omega) (by omega) (fun _=>by rw[ho (by omega),Nat.add_mul])) fun k hk=>hxm k hk
   |ij ad hb=>
    have h0:hh=0:=by omega
    have l0:l=0:=by omega
    subst h0;subst l0
    have hbs:=fD (P:=P) (w:=w) (lo.map a.eval) (hi.map a.eval) ((some mo).map a.eval) 0 0 0 0 b1 b2 (.inr ⟨b3,b2s⟩) b4 b5 (Nat.le_refl _)
    rw[eO hu hsz _ _ _ _ _ _ _ _ _ hbs]
    simp
    exact .same h hk (.ij ad hb) fun k hk=>hxm k hk
 ·exact hk.elim
theorem lF {a:Nat} {A:Prop} (h:cond (Nat.ble 1 a) A False):a≠0/\A:=by
 cases e:Nat.ble 1 a with
 |false=>rw[e]at h;exact h.elim
 |true=>rw[e]at h;exact⟨by have:=Nat.le_of_ble_eq_true e;omega,h⟩
theorem tq {t:TypeId} {fields:Array Field} {f:Nat} {fl:Field} (hu:P.underlying t=some (.struct fields)) (hf:fields[f]?=some fl) {sz:Nat} (hs:∀w,(sizeOf fl.type).run P w= .ok sz w) (h0:sz≠0) (b off:Nat) (w:World):
  (Instr.fieldAt t (.pointer (some ⟨b,off,none⟩)) f).run P w= .ok (.pointer (some ⟨b,off+fl.offset,none⟩)) w:=by
 simp[Instr.fieldAt,run_underlying hu,hf,Instr.sureAddr,fieldPlace,Addr.add_lit,hs,h0]
theorem pK (hΓ:fk P Γ) (hW:∀x K,W x K->K (cf s x)) (h:b7 E n s L a w F β) {t:TypeId} {x:Operand} {f:Nat} (hk:aY Γ P wr W LK L base (.fieldAddr t x f) K):
  Out P E n s L a K ((Instr.fieldAt t (a.eval x) f).run P w):=by
 simp only[aY]at hk
 have hx:=h.ev x
 have hxm:=h.ug x
 have hk:=hW x _ hk
 generalize cf s x=vx at hk hx hxm
 generalize a.eval x=ax at hx
 obtain⟨fields,fl,j,hu,hfl,hj,hk⟩:=oh hΓ hk
 obtain⟨h0,hk⟩:=lF hk
 have hrf:=fun b off=>tq hu hfl (cJ hΓ hj) h0 b off w
 split at hk
 ·cases hx with|aF hb=>
  rw[hrf]
  exact .same h hk (.aF hb) fun k hk=>hxm k hk
 ·cases hx with|c5 hb=>
  rw[hrf]
  exact .same h hk (by rw[Nat.add_assoc];exact .c5 hb) fun k hk=>hxm k hk
 ·cases hx with|p hx=>cases hx with|eT _ _ b off vals hb hone hv hr=>
  rw[hrf]
  split at hk
  ·obtain⟨hle,hk⟩:=jH hk
   refine ke h hk (.eT _ _ b (off+fl.offset) (fun j=>vals (fl.offset+j)) hb (fun c hc=>hone c (List.mem_of_mem_drop (List.mem_of_mem_take hc))) (fun q c hc=>?_) fun q c hc=>?_)
   ·have hq:q<j.size:=by have:=(List.getElem?_eq_some_iff.1 hc).1;simp[PV.cells]at this;omega
    simp only[PV.cells]at hc
    rw[List.getElem?_take_of_lt hq,List.getElem?_drop]at hc
    rw[Nat.add_assoc];exact hv _ c hc
   ·have hq:q<j.size:=by have:=(List.getElem?_eq_some_iff.1 hc).1;simp[PV.cells]at this;omega
    simp only[PV.cells]at hc
    rw[List.getElem?_take_of_lt hq,List.getElem?_drop]at hc
    exact hr _ c hc
  ·obtain⟨c,hc,hk⟩:=kX hk
   cases ho:c.one with
   |false=>rw[ho]at hk;exact hk.elim
   |true=>
    rw[ho]at hk
    refine ke h hk (.eT _ c b (off+fl.offset) (fun j=>vals (fl.offset+j)) hb (fun c' hc'=>?_) (fun q c' hc'=>?_) fun q c' hc'=>?_)
    ·rw[PV.dG ho]at hc';rw[List.mem_singleton.1 hc'];exact ho
    ·rw[PV.dG ho]at hc'
     cases q with
     |zero=>simp at hc';subst hc';exact hv _ c hc
     |succ q=>simp at hc'
    ·rw[PV.dG ho]at hc'
     cases q with
     |zero=>simp at hc';subst hc';exact hr _ c hc
     |succ q=>simp at hc'
 ·exact hk.elim
theorem iJ {t:TypeId} (hΓ:fk P Γ) {i:TI} (hi:Γ t=some i) (cs:Array Value) (off:Nat) (w:World) (hl:off+(if i.d.agg then i.size else 1)<=cs.size):
  (part t cs off).run P w= .ok (if i.d.agg then .agg (cs.extract off (off+i.size))else cs.getD off Go.undef) w:=by
 have ha:=wJ hΓ hi w
 have hs:=cJ hΓ hi w
 cases e:i.d.agg with
 |true=>rw[e]at ha;simp[part,ha,hs]
 |false=>
  rw[e]at ha hl
  have:off<cs.size:=by simp at hl;omega
  simp[part,ha,this,Array.getD]
theorem yv (hΓ:fk P Γ) (hW:∀x K,W x K->K (cf s x)) (h:b7 E n s L a w F β) {t:TypeId} {x:Operand} {f:Nat} (hk:aY Γ P wr W LK L base (.field t x f) K):
  Out P E n s L a K ((Instr.field t (a.eval x) f).run P w):=by
 simp only[aY]at hk
 have hx:=h.ev x
 have hxm:=h.ug x
 have hk:=hW x _ hk
 generalize cf s x=vx at hk hx hxm
 generalize a.eval x=ax at hx
 obtain⟨fields,fl,j,hu,hfl,hj,hk⟩:=oh hΓ hk
 have ex:∀(vs:Array Value) (o sz q:Nat),o+sz<=vs.size->q<sz->(vs.extract o (o+sz))[q]?=vs[o+q]?:=by
  intro vs o sz q h1 h2
  rw[Array.getElem?_extract,if_pos (by omega)]
 split at hk
 ·rename_i cs
  cases hx with|p hx=>cases hx with|agg _ vs hone hl hr=>
  split at hk
  ·rename_i ha
   obtain⟨hle,hk⟩:=jH hk
   have hp:=iJ hΓ hj vs fl.offset w (by rw[ha];simp;omega)
   have hrun:(Instr.field t (.agg vs) f).run P w= .ok (.agg (vs.extract fl.offset (fl.offset+j.size))) w:=by
    simp[Instr.field,run_underlying hu,hfl,asAgg,hp,ha]
   rw[hrun]
   refine ke h hk (.agg _ _ (fun c hc=>hone c (List.mem_of_mem_drop (List.mem_of_mem_take hc))) (by simp;omega) fun q c v e1 e2=>?_)
   have hq:q<j.size:=by have:=(List.getElem?_eq_some_iff.1 e1).1;simp at this;omega
   rw[List.getElem?_take_of_lt hq,List.getElem?_drop]at e1
   rw[ex vs _ _ _ (by omega) hq]at e2
   exact hr _ c v e1 e2
  ·rename_i ha
   obtain⟨c,hc,hk⟩:=kX hk
   have hlt:fl.offset<vs.size:=by rw[hl];exact(List.getElem?_eq_some_iff.1 hc).1
   have hp:=iJ hΓ hj vs fl.offset w (by rw[ha];simp;omega)
   have hrun:(Instr.field t (.agg vs) f).run P w= .ok (vs.getD fl.offset Go.undef) w:=by
    simp[Instr.field,run_underlying hu,hfl,asAgg,hp,ha]
   rw[hrun]
   exact ke h hk (hr _ c _ hc (by simp[Array.getD,hlt]))
 ·rename_i cs
  cases hx with|agg _ vs hone hl hr=>
  split at hk
  ·rename_i ha
   have hle:=nU hk
   have hk:=p7 hk (.inl hle)
   obtain⟨r,hk,hrr,hrm⟩:=oo hk
   have hp:=iJ hΓ hj vs fl.offset w (by rw[ha];simp;omega)
   have hrun:(Instr.field t (.agg vs) f).run P w= .ok (.agg (vs.extract fl.offset (fl.offset+j.size))) w:=by
    simp[Instr.field,run_underlying hu,hfl,asAgg,hp,ha]
   rw[hrun]
   refine .same h hk (hrr _ _ _ _ (fun c hc=>hone c (List.mem_of_mem_drop (List.mem_of_mem_take hc))) (by simp;omega) fun q c v e1 e2=>?_) fun k hk=>hxm k (by simp only[AV.aU];exact tI (fun c hc=>List.mem_of_mem_drop (List.mem_of_mem_take hc)) (hrm k hk))
   have hq:q<j.size:=by have:=(List.getElem?_eq_some_iff.1 e1).1;simp at this;omega
   rw[List.getElem?_take_of_lt hq,List.getElem?_drop]at e1
   rw[ex vs _ _ _ (by omega) hq]at e2
   exact hr _ c v e1 e2
  ·rename_i ha
   obtain⟨c,hc,hk⟩:=rz hk
   have hlt:fl.offset<vs.size:=by rw[hl];exact(List.getElem?_eq_some_iff.1 hc).1
   have hp:=iJ hΓ hj vs fl.offset w (by rw[ha];simp;omega)
   have hrun:(Instr.field t (.agg vs) f).run P w= .ok (vs.getD fl.offset Go.undef) w:=by
    simp[Instr.field,run_underlying hu,hfl,asAgg,hp,ha]
   rw[hrun]
   exact .same h hk (hr _ c _ hc (by simp[Array.getD,hlt])) fun k hk=>hxm k (by simp only[AV.aU];exact AV.bm (List.mem_of_getElem? hc) hk)
 ·exact hk.elim
theorem m7 {t e:TypeId} (hu:P.underlying t=some (.slice e)) {sz:Nat} {w:World} (hs:(sizeOf e).run P w= .ok sz w) (b off len cap:Nat) (k:IntKind) (i:Nat) (hi:i<len):
  (Instr.indexAt t (.slice (some ⟨b,off,none⟩) len cap) (.int k i)).run P w= .ok (.pointer (some ⟨b,off+i*sz,none⟩)) w:=by
 simp[Instr.indexAt,run_underlying hu,hs,asIntOf,hi,Addr.add_lit]
theorem lM {t e:TypeId} {len:Nat} (hu:P.underlying t=some (.array len e)) {sz:Nat} {w:World} (hs:(sizeOf e).run P w= .ok sz w) (b off:Nat) (k:IntKind) (i:Nat) (hi:i<len):
  (Instr.indexAt t (.pointer (some ⟨b,off,none⟩)) (.int k i)).run P w= .ok (.pointer (some ⟨b,off+i*sz,none⟩)) w:=by
 simp[Instr.indexAt,run_underlying hu,hs,asIntOf,hi,Addr.add_lit,Instr.sureAddr]
theorem xr (hΓ:fk P Γ) {t:TypeId} {K:Nat->TI->Prop} (h:CN Γ t K):∃len e i,P.underlying t=some (.array len e)/\Γ e=some i/\K len i:=by
 unfold CN at h
 split at h
 ·rename_i i hi
  split at h
  ·rename_i len e he
   split at h
   ·rename_i j hj
    have hd:=(hΓ t i hi).desc
    rw[he]at hd
    exact⟨len,e,j,hd,hj,h⟩
   ·exact h.elim
  ·exact h.elim
 ·exact h.elim
theorem pQ (hΓ:fk P Γ) (hW:∀x K,W x K->K (cf s x)) (h:b7 E n s L a w F β) {t:TypeId} {x y:Operand} (hk:aY Γ P wr W LK L base (.indexAddr t x y) K):
  Out P E n s L a K ((Instr.indexAt t (a.eval x) (a.eval y)).run P w):=by
 simp only[aY]at hk
 have hx:=h.ev x
 have hxm:=h.ug x
 have hy:=h.ev y
 have hk:=hW y _ (hW x _ hk)
 generalize cf s x=vx at hk hx hxm
 generalize cf s y=vy at hk hy
 generalize a.eval x=ax at hx
 generalize a.eval y=ay at hy
 unfold om at hk
 split at hk
 ·obtain rfl:=hy.intOf
  split at hk
  ·rename_i m Wd es
   obtain⟨e,i,hu,hie,hk⟩:=dA hΓ hk
   obtain⟨hWd,hK⟩:=dp hk
   subst hWd
   obtain⟨j,e',hj,he,hK⟩:=hK
   subst hj
   have hlt:=(List.getElem?_eq_some_iff.1 he).1
   cases hx with|p hx=>
   cases hx with
   |nil=>simp at hlt
   |sl _ _ _ b off cap vals hc hb hW' hone hv hr=>
    rw[m7 hu (cJ hΓ hie w) _ _ _ _ _ _ hlt]
    exact ke h hK (.eT m e' b _ (fun q=>vals j q) (hb (by intro e;rw[e]at hlt;simp at hlt)) (hone e' (List.mem_of_getElem? he)) (fun q c hc=>hv j e' q c he hc) fun q c hc=>hr j e' q c he hc)
  ·obtain⟨e,i,hu,hie,hk⟩:=dA hΓ hk
   obtain⟨hWd,hK⟩:=dp hk
   subst hWd
   obtain⟨j,hj,hlt,hK⟩:=hK
   subst hj
   cases hx with
   |vec hb hc hm ho=>
    rw[m7 hu (cJ hΓ hie w) _ _ _ _ _ _ hlt]
    exact .same h hK (by rw[ho (by omega),<-Nat.add_mul,Nat.add_comm];exact .c5 (off:=0) hb) fun k hk=>hxm k hk
   |ij=>omega
  ·obtain⟨len,e,i,hu,hie,hk⟩:=xr hΓ hk
   obtain⟨h0,hk⟩:=lF hk
   obtain⟨j,hj,hlt,hK⟩:=hk
   subst hj
   cases hx with
   |aF hb=>
    rw[lM hu (cJ hΓ hie w) _ _ _ _ hlt]
    exact .same h hK (.aF hb) fun k hk=>hxm k hk
  ·obtain⟨len,e,i,hu,hie,hk⟩:=xr hΓ hk
   obtain⟨h0,hk⟩:=lF hk
   obtain⟨j,hj,hlt,hK⟩:=hk
   subst hj
   cases hx with
   |c5 hb=>
    rw[lM hu (cJ hΓ hie w) _ _ _ _ hlt,Nat.add_assoc]
    exact .same h hK (.c5 hb) fun k hk=>hxm k hk
  ·exact hk.elim
 ·exact hk.elim
theorem yj (hΓ:fk P Γ) (hW:∀x K,W x K->K (cf s x)) (h:b7 E n s L a w F β) {t:TypeId} {x y:Operand} (hk:aY Γ P wr W LK L base (.index t x y) K):
  Out P E n s L a K ((Instr.index t (a.eval x) (a.eval y)).run P w):=by
 simp only[aY]at hk
 have hx:=h.ev x
 have hy:=h.ev y
 have hk:=hW y _ (hW x _ hk)
 generalize cf s x=vx at hk hx
 generalize cf s y=vy at hk hy
 generalize a.eval x=ax at hx
 generalize a.eval y=ay at hy
 unfold Ao at hk
 split at hk
 ·obtain rfl:=hy.intOf
  split at hk
  ·rename_i cs
   split at hk
   ·rename_i i hi
    split at hk
    ·rename_i len e hd
     have hu:P.underlying t=some (.array len e):=by have:=(hΓ t _ hi).desc;rw[hd]at this;exact this
     split at hk
     ·rename_i j hj
      cases hb:(Nat.beq j.size 1&&(Nat.beq len cs.length&& !j.d.agg))with
      |false=>rw[hb]at hk;exact hk.elim
      |true=>
       rw[hb]at hk
       simp only[Bool.and_eq_true,Bool.not_eq_true']at hb
       have h1:=Nat.eq_of_beq_eq_true hb.1
       have h2:=Nat.eq_of_beq_eq_true hb.2.1
       have h3:=hb.2.2
       obtain⟨q,c,hq,hc,hk⟩:=hk
       subst hq
       have hlt:=(List.getElem?_eq_some_iff.1 hc).1
       cases hx with|p hx=>cases hx with|agg _ vs hone hl hr=>
       have hp:=iJ hΓ hj vs (q*j.size) w (by rw[h3,h1];simp;omega)
       have hrun:∀k,(Instr.index t (.agg vs) (.int k (q:Int))).run P w= .ok (vs.getD q Go.undef) w:=by
        intro k
        have hqv:q<len:=by omega
        have hsz:=cJ hΓ hj w
        rw[h3,h1,Nat.mul_one]at hp
        simp[Instr.index,run_underlying hu,asIntOf,hqv,hsz,h1,hp]
       rw[hrun]
       exact ke h hk (hr _ c _ hc (by simp[Array.getD,hl,hlt]))
     ·exact hk.elim
    ·exact hk.elim
   ·exact hk.elim
  ·rename_i b
   split at hk
   ·rename_i i hi
    split at hk
    ·rename_i hd
     have hu:P.underlying t=some .string:=by have:=(hΓ t _ hi).desc;rw[hd]at this;exact this
     obtain⟨q,hq,hlt,z,hz,hk⟩:=hk
     subst hq
     cases hx with|p hx=>cases hx with|raw _ _=>
     have hrun:∀k,(Instr.index t (.string b) (.int k (q:Int))).run P w= .ok (.int .u8 z) w:=by
      intro k
      have hg:b[q]?=some (b.data.getD q 0):=by
       rw[getElem?_pos b q hlt]
       have:q<b.data.size:=hlt
       rw[show b.data.getD q 0=b.data[q] by simp only[Array.getD,this,dite_true];rfl]
       rfl
      simp[Instr.index,run_underlying hu,asIntOf,hg,<-hz]
     rw[hrun]
     exact ke h hk (.int _ _)
    ·exact hk.elim
   ·exact hk.elim
  ·exact hk.elim
 ·exact hk.elim
end
end
end Go.Proofs.YtnilcfiemgmfdaaGreat
