/- FTCert: what its proof needs, part 2. -/
import Derived.Test.YtiakeknbdclaoaaGreatMTCert1
set_option linter.unusedVariables false
set_option linter.unusedSimpArgs false
namespace Go.Proofs.YtiakeknbdclaoaaGreat
open Go
set_option maxRecDepth 10000
section
section
variable {P:Program} {Γ:oy} {E:Env} {n:Nat} {s:Nat->AV} {L:Hd->aA} {a:Act} {w:World} {F:Nat->Prop} {β:Hd->Option Nat×Nat} {K:AV->List (Hd×aA)->Prop}
 {W:Operand->(AV->Prop)->Prop} {LK:Hd->(aA->Prop)->Prop} {wr:FuncId->Bool} {base:Nat}
theorem cC.zero (h:cC E n s L a w F β) (nh:Hd) (e:TypeId) (Wd:Nat) (hfree:L nh= .free):cC E n s (a8 L nh (.vec e Wd [])) a w F (a8 β nh (none,0)):=by
 have ne:∀k,L k≠ .free->k≠nh:=fun k hk e=>hk (e▸hfree)
 refine h.step rfl rfl rfl (Nat.le_refl _) (fun _=>id) h.nA h.fold (fun _ _=>rfl) (fun _ _=>rfl) (fun k hk=>aj _ _ (ne k hk)) (fun k hk=>by rw[aj _ _ (ne k hk)];exact hk) (fun k=>?_) (fun k b h1 h2=>?_) (fun k k' b h1 h2 h3 h4=>?_)
 ·by_cases e:k=nh
  ·subst e;rw[ah];exact .inr ⟨⟨qS,qS,.inl (by rw[ah];exact⟨rfl,rfl⟩)⟩,fun j hj=>hj.elim⟩
  ·rw[aj _ _ e];exact .inl ⟨rfl,fun _ _ _=>rfl⟩
 ·by_cases e:k=nh
  ·subst e;rw[ah]at h2;cases h2
  ·rw[aj _ _ e]at h1 h2;exact h.own k b h1 h2
 ·by_cases e:k=nh
  ·subst e;rw[ah]at h3;cases h3
  ·by_cases e':k'=nh
   ·subst e';rw[ah]at h4;cases h4
   ·rw[aj _ _ e]at h1 h3;rw[aj _ _ e']at h2 h4;exact h.nG k k' b h1 h2 h3 h4
theorem cC.Ag (h:cC E n s L a w F β) (hd nh:Hd) (e:TypeId) (Wd:Nat) (es:List PV) (hfree:L nh= .free) (hL:L hd= .vec e Wd es):
  cC E n s (a8 (a8 L hd .dead) nh (.vec e Wd es)) a w F (a8 β nh (β hd)):=by
 have hne:hd≠nh:=by intro e;rw[e,hfree]at hL;cases hL
 have ne:∀k,L k≠ .free->k≠nh:=fun k hk e=>hk (e▸hfree)
 have hlv:(L hd).live:=by rw[hL];trivial
 have back:∀k,(a8 (a8 L hd .dead) nh (.vec e Wd es) k).live->(k=nh/\True)\/(k≠nh/\k≠hd/\(L k).live):=by
  intro k hk
  by_cases e1:k=nh
  ·exact .inl ⟨e1,trivial⟩
  ·rw[aj _ _ e1]at hk
   by_cases e2:k=hd
   ·subst e2;rw[ah]at hk;exact hk.elim
   ·rw[aj _ _ e2]at hk;exact .inr ⟨e1,e2,hk⟩
 refine h.step rfl rfl rfl (Nat.le_refl _) (fun _=>id) h.nA h.fold (fun _ _=>rfl) (fun _ _=>rfl) (fun k hk=>aj _ _ (ne k hk)) (fun k hk=>?_) (fun k=>?_) (fun k b h1 h2=>?_) (fun k k' b h1 h2 h3 h4=>?_)
 ·rw[aj _ _ (ne k hk)]
  by_cases e2:k=hd
  ·subst e2;rw[ah];exact fun e=>by cases e
  ·rw[aj _ _ e2];exact hk
 ·by_cases e1:k=nh
  ·subst e1;rw[ah]
   refine .inr ⟨?_,fun j hj=>hj.elim⟩
   have:=h.d4 hd
   rw[hL]at this
   simpa only[rK,ah]using this
  ·rw[aj _ _ e1]
   by_cases e2:k=hd
   ·subst e2;rw[ah];exact .inr ⟨trivial,fun j hj=>hj.elim⟩
   ·rw[aj _ _ e2];exact .inl ⟨rfl,fun _ _ _=>rfl⟩
 ·rcases back k h1 with⟨e1,_⟩|⟨e1,e2,h1⟩
  ·subst e1;rw[ah]at h2;exact h.own hd b hlv h2
  ·rw[aj _ _ e1]at h2;exact h.own k b h1 h2
 ·rcases back k h1 with⟨e1,_⟩|⟨e1,e2,h1⟩<;>rcases back k' h2 with⟨e1',_⟩|⟨e1',e2',h2⟩
  ·rw[e1,e1']
  ·subst e1;rw[ah]at h3;rw[aj _ _ e1']at h4;exact(e2' (h.nG k' hd b (by assumption) hlv h4 h3)).elim
  ·subst e1';rw[ah]at h4;rw[aj _ _ e1]at h3;exact(e2 (h.nG k hd b (by assumption) hlv h3 h4)).elim
  ·rw[aj _ _ e1]at h3;rw[aj _ _ e1']at h4;exact h.nG k k' b h1 h2 h3 h4
structure Src (w:World) (FB:Bool->Nat->Prop) (Wd:Nat) (xs:List PV) (ax:Value):Prop where
 val:∃ad c,ax= .slice ad xs.length c/\(xs≠[]->∃(b off:Nat) (news:List Value),ad=some ⟨b,off,none⟩/\news.length=xs.length*Wd/\(∀j u,news[j]?=some u->w.cell? ⟨b,off+j,none⟩=some u)/\(∀u∈news,u.oneCell'=true)/\
  ∀(i:Nat) e (j:Nat) c v,xs[i]?=some e->e.cells[j]?=some c->news[i*Wd+j]?=some v->PR w FB c v)
 PA:∀e∈xs,e.cells.length=Wd/\∀c∈e.cells,c.one=true
theorem wX {w:World} {FB:Bool->Nat->Prop} {Wd:Nat} {xs:List PV} (hel:∀e∈xs,e.cells.length=Wd/\∀c∈e.cells,c.one=true) (b off:Nat) (vals:Nat->Nat->Value)
  (hv:∀(i:Nat) e (j:Nat) c,xs[i]?=some e->e.cells[j]?=some c->w.cell? ⟨b,off+i*Wd+j,none⟩=some (vals i j)) (hr:∀(i:Nat) e (j:Nat) c,xs[i]?=some e->e.cells[j]?=some c->PR w FB c (vals i j)):
  ∃news:List Value,news.length=xs.length*Wd/\(∀j u,news[j]?=some u->w.cell? ⟨b,off+j,none⟩=some u)/\(∀u∈news,u.oneCell'=true)/\
   ∀(i:Nat) e (j:Nat) c v,xs[i]?=some e->e.cells[j]?=some c->news[i*Wd+j]?=some v->PR w FB c v:=by
 refine⟨(List.range (xs.length*Wd)).map fun k=>vals (k/Wd) (k%Wd),qS,fun j u hj=>?_,fun u hu=>?_,fun i e j c v e1 e2 e3=>?_⟩
 ·have hlt:j<xs.length*Wd:=by have:=(List.getElem?_eq_some_iff.1 hj).1;simpa using this
  rw[List.getElem?_map,List.getElem?_range hlt]at hj
  cases hj
  have h0:0<Wd:=by
   rcases Nat.eq_zero_or_pos Wd with e|e;·rw[e]at hlt;simp at hlt
   ·exact e
  have hq:j/Wd<xs.length:=by rw[Nat.div_lt_iff_lt_mul h0];exact hlt
  have hm:j%Wd<Wd:=Nat.mod_lt _ h0
  have he:=(hel xs[j/Wd] (List.getElem_mem hq)).1
  have:=hv (j/Wd) xs[j/Wd] (j%Wd) _ (List.getElem?_eq_getElem hq) (List.getElem?_eq_getElem (by rw[he];exact hm))
  rw[show off+j/Wd*Wd+j%Wd=off+j by have:=Nat.div_add_mod j Wd;rw[Nat.mul_comm]at this;omega]at this
  exact this
 ·obtain⟨k,hk,rfl⟩:=List.mem_map.1 hu
  have hlt:k<xs.length*Wd:=by simpa using hk
  have h0:0<Wd:=by
   rcases Nat.eq_zero_or_pos Wd with e|e;·rw[e]at hlt;simp at hlt
   ·exact e
  have hq:k/Wd<xs.length:=by rw[Nat.div_lt_iff_lt_mul h0];exact hlt
  have hm:k%Wd<Wd:=Nat.mod_lt _ h0
  have he:=hel xs[k/Wd] (List.getElem_mem hq)
  have hl:k%Wd<(xs[k/Wd]).cells.length:=by rw[he.1];exact hm
  exact(hr (k/Wd) _ (k%Wd) _ (List.getElem?_eq_getElem hq) (List.getElem?_eq_getElem hl)).gG (he.2 _ (List.getElem_mem hl))
 ·have he:=(hel e (List.mem_of_getElem? e1)).1
  have hj:j<Wd:=by rw[<-he];exact(List.getElem?_eq_some_iff.1 e2).1
  have hi:=(List.getElem?_eq_some_iff.1 e1).1
  have hlt:i*Wd+j<xs.length*Wd:=by
   have:(i+1)*Wd<=xs.length*Wd:=Nat.mul_le_mul_right _ qO
   rw[Nat.add_mul]at this;omega
  rw[List.getElem?_map,List.getElem?_range hlt]at e3
  cases e3
  have h1:(i*Wd+j)/Wd=i:=by rw[Nat.mul_comm,Nat.mul_add_div qO];simp[Nat.div_eq_of_lt hj]
  have h2:(i*Wd+j)%Wd=j:=by rw[Nat.mul_comm,Nat.mul_add_mod,Nat.mod_eq_of_lt hj]
  show PR w FB c (vals ((i*Wd+j)/Wd) ((i*Wd+j)%Wd))
  rw[h1,h2];exact hr i e j c e1 e2
theorem Fh (hL:∀h K,LK h K->K (L h)) (h:cC E n s L a w F β) {x:AV} {ax:Value} (hx:VR w (aM E.bW F) β x ax) {K':Nat->List PV->Prop} (hk:qT LK x K'):
  ∃Wd xs,K' Wd xs/\(x≠ .emp->Src w (aM E.bW F) Wd xs ax)/\(x= .emp->xs=[]/\∃ad,ax= .slice ad 0 0):=by
 unfold qT at hk
 split at hk
 ·refine⟨0,[],hk,fun h=>absurd rfl h,fun _=>⟨rfl,?_⟩⟩
  cases hx with
  |lu=>exact⟨_,rfl⟩
  |emp ad=>exact⟨_,rfl⟩
 ·rename_i m Wd es
  refine⟨Wd,es,hk,fun _=>?_,fun e=>by cases e⟩
  cases hx with|p hx=>
  cases hx with
  |nil _ _ ad=>exact⟨⟨ad,0,rfl,fun h=>absurd rfl h⟩,qS⟩
  |sl _ _ _ b off cap vals hc hb hW hone hv hr=>
   have hel:∀e∈es,e.cells.length=Wd/\∀c∈e.cells,c.one=true:=fun e he=>⟨hW e he,hone e he⟩
   obtain⟨news,n1,n2,n3,n4⟩:=wX hel b off vals hv hr
   exact⟨⟨_,cap,rfl,fun _=>⟨b,off,news,rfl,n1,n2,n3,n4⟩⟩,hel⟩
 ·rename_i hd Wd off len
  have hk:=hL hd _ hk
  have hb:=h.d4 hd
  generalize hB:L hd=B at hk hb
  split at hk
  ·rename_i T W' es
   obtain⟨hWd,hK⟩:=d9 hk
   subst hWd
   obtain⟨es',hes,hlen,hK⟩:=hK
   subst hes
   refine⟨Wd,_,hK,fun _=>?_,fun e=>by cases e⟩
   obtain⟨q1,q2,q3⟩:=hb
   have hll:((es.drop off).take len).length=len:=by simp;omega
   have hel:∀e∈(es.drop off).take len,e.cells.length=Wd/\∀c∈e.cells,c.one=true:=fun e he=>q1 e (List.mem_of_mem_drop (List.mem_of_mem_take he))
   cases hx with
   |jZ ad hb=>
    refine⟨⟨ad,0,qS,fun h=>absurd qS h⟩,hel⟩
   | @vec _ _ _ _ b o cc hb' hcl hcm ho=>
    have hc:off+len<=(β hd).2:=qO
    refine⟨⟨_,_,by rw[hll],fun hne=>?_⟩,hel⟩
    have hpos:0<len:=by
     rcases Nat.eq_zero_or_pos len with e|e;·rw[e]at hne;simp at hne
     ·exact e
    obtain⟨arr,g1,g2,g3,g4⟩:∃arr,(β hd).1=some b/\w.heap[b]?=some (.cells arr T (0,0))/\arr.size=(β hd).2*Wd/\∀(i:Nat) e (j:Nat) c v,es[i]?=some e->e.cells[j]?=some c->arr[i*Wd+j]?=some v->PR w (aM E.bW F) c v:=by
     rcases q3 with q3|⟨b',arr,g1,g2,g3,g4⟩
     ·rw[q3.1]at hb';cases hb'
     ·rw[g1]at hb';cases hb';exact⟨arr,g1,g2,g3,g4⟩
    have hin:∀i j,i<es.length->j<Wd->i*Wd+j<arr.size:=fun i j hi hj=>by
     rw[g3]
     have:(i+1)*Wd<=(β hd).2*Wd:=Nat.mul_le_mul_right _ qO
     rw[Nat.add_mul]at this;omega
    have get:∀(i:Nat) e,((es.drop off).take len)[i]?=some e->i<len/\es[off+i]?=some e:=fun i e he=>by
     have hi:i<len:=by have:=(List.getElem?_eq_some_iff.1 he).1;rw[hll]at this;exact this
     rw[List.getElem?_take_of_lt hi,List.getElem?_drop]at he
     exact⟨hi,he⟩
    have ho:=ho qO
    subst ho
    obtain⟨news,n1,n2,n3,n4⟩:=wX (w:=w) (FB:=aM E.bW F) hel b (off*Wd) (fun i j=>arr.getD ((off+i)*Wd+j) Go.undef) (fun i e j c e1 e2=>by
      obtain⟨hi,he⟩:=get i e e1
      have hj:j<Wd:=by rw[<-(q1 e (List.mem_of_getElem? he)).1];exact(List.getElem?_eq_some_iff.1 e2).1
      have:=hin (off+i) j qO hj
      rw[show off*Wd+i*Wd+j=(off+i)*Wd+j by rw[Nat.add_mul]]
      simp only[World.cell?,g2];simp[Array.getD,this]) (fun i e j c e1 e2=>by
      obtain⟨hi,he⟩:=get i e e1
      have hj:j<Wd:=by rw[<-(q1 e (List.mem_of_getElem? he)).1];exact(List.getElem?_eq_some_iff.1 e2).1
      have:=hin (off+i) j qO hj
      exact g4 (off+i) e j c _ he e2 (by simp[Array.getD,this]))
    exact⟨b,off*Wd,news,rfl,n1,n2,n3,n4⟩
  ·exact hk.elim
 ·exact hk.elim
theorem m6 (hL:∀h K,LK h K->K (L h)) (h:cC E n s L a w F β) {x:AV} {ax:Value} {size:Nat} (hx:VR w (aM E.bW F) β x ax) {K':List PV->Prop} (hk:lM LK size x K'):
  ∃xs,K' xs/\((xs=[]/\∃ad c,ax= .slice ad 0 c)\/Src w (aM E.bW F) size xs ax):=by
 obtain⟨Wd,xs,hk,h1,h2⟩:=Fh hL h hx hk
 split at hk
 ·obtain⟨_,ad,e⟩:=h2 rfl
  exact⟨[],hk,.inl ⟨rfl,ad,0,e⟩⟩
 ·rename_i hne
  obtain⟨hWd,hK⟩:=d9 hk
  subst hWd
  exact⟨xs,hK,.inr (h1 (by intro e;exact hne e))⟩
theorem Ap {t e:TypeId} (hu:P.underlying t=some (.slice e)) {sz:Nat} {w:World} (hs:(sizeOf e).run P w= .ok sz w) (ty:TypeId) (b:Option Addr) (l c:Nat) (hlc:l<=c) (ad:Option Addr) (c':Nat):
  (Builtin.append_ #[t,t] ty #[.slice b l c,.slice ad 0 c']).run P w= .ok (.slice b l c) w:=by
 have h1:∀ad,(Builtin.firstCells sz 0 (.slice ad 0 c')).run P w= .ok #[] w:=by
  intro ad
  cases ad with
  |none=>simp[Builtin.firstCells]
  |some a=>simp[Builtin.firstCells,loadCells,loadCellsFrom]
 cases b with
 |none=>simp[Builtin.append_,run_underlying hu,hs,Builtin.lenOf,hlc,h1]
 |some b=>simp[Builtin.append_,run_underlying hu,hs,Builtin.lenOf,hlc,h1,storeCells]
theorem PR.drew {w:World} {FB:Bool->Nat->Prop} {p:PV} {v:Value} (h:PR w FB p v):PR w.drew FB p v:=PR.mono (w:=w) (w':=w.drew) (fun _ _ h=>h) (fun _ _ _=>rfl) h
theorem VR.iV {w:World} {FB:Bool->Nat->Prop} {β:Hd->Option Nat×Nat} {h:Hd} {Wd off len:Nat} {v:Value} (hv:VR w FB β (.vec h Wd off len) v):
  (∃b o c,(β h).1=some b/\len<=c/\off+c<=(β h).2/\(c≠0->o=off*Wd)/\v= .slice (some ⟨b,o,none⟩) len c)\/
  (∃ad,(β h).1=none/\off=0/\len=0/\v= .slice ad 0 0):=by
 cases hv with
 | @vec _ _ _ _ b o c hb hc hm ho=>exact .inl ⟨b,o,c,hb,hc,hm,ho,rfl⟩
 |jZ ad hb=>exact .inr ⟨ad,hb,rfl,rfl,rfl⟩
theorem vz (w:World) (FB:Bool->Nat->Prop) {e:TypeId} {Wd cap base:Nat} {es xs:List PV} {cT news:List Value} {z:Array Value}
  (hes:∀e∈es,e.cells.length=Wd/\∀c∈e.cells,c.one=true) (hxs:∀e∈xs,e.cells.length=Wd/\∀c∈e.cells,c.one=true) (hz:z.size=Wd) (hlo:cT.length=es.length*Wd) (hln:news.length=xs.length*Wd)
  (hcap:es.length+xs.length<=cap) (r1:∀(i:Nat) e (j:Nat) c v,es[i]?=some e->e.cells[j]?=some c->cT[i*Wd+j]?=some v->PR w FB c v)
  (r2:∀(i:Nat) e (j:Nat) c v,xs[i]?=some e->e.cells[j]?=some c->news[i*Wd+j]?=some v->PR w FB c v) (b:Nat) (arr:Array Value)
  (harr:arr.toList=cT++news++(Builtin.zeroCells z (cap-(es.length+xs.length))).toList) (hh:w.heap[b]?=some (.cells arr e (0,0))):
  rK w FB (a8 β base (some b,cap)) base (.vec e Wd (es++xs)):=by
 refine⟨fun e he=>(List.mem_append.1 he).elim (hes e) (hxs e),by rw[ah];simpa using hcap,.inr ⟨b,arr,by rw[ah],hh,?_,fun i e j c v e1 e2 e3=>?_⟩⟩
 ·rw[ah,<-Array.length_toList,harr]
  simp only[List.length_append,hlo,hln,Array.length_toList,size_zeroCells,hz]
  rw[<-Nat.add_mul,<-Nat.add_mul];congr 1;omega
 ·have hj:j<Wd:=by rw[<-((List.mem_append.1 (List.mem_of_getElem? e1)).elim (hes e) (hxs e)).1];exact(List.getElem?_eq_some_iff.1 e2).1
  rw[<-Array.getElem?_toList,harr]at e3
  by_cases hi:i<es.length
  ·rw[List.getElem?_append_left hi]at e1
   have:i*Wd+j<cT.length:=by
    rw[hlo]
    have:(i+1)*Wd<=es.length*Wd:=Nat.mul_le_mul_right _ qO
    rw[Nat.add_mul]at this;omega
   rw[List.append_assoc,List.getElem?_append_left this]at e3
   exact r1 i e j c v e1 e2 e3
  ·rw[List.getElem?_append_right qO]at e1
   have hi2:=(List.getElem?_eq_some_iff.1 e1).1
   have h1:es.length*Wd<=i*Wd:=Nat.mul_le_mul_right _ qO
   have h2:i*Wd-es.length*Wd=(i-es.length)*Wd:=(Nat.sub_mul ..).symm
   have h3:(i-es.length+1)*Wd<=xs.length*Wd:=Nat.mul_le_mul_right _ qO
   rw[Nat.add_mul]at h3
   rw[List.append_assoc,List.getElem?_append_right (by rw[hlo];omega),hlo,List.getElem?_append_left (by rw[hln];omega)]at e3
   exact r2 (i-es.length) e j c v e1 e2 (by rw[<-e3];congr 1;omega)
theorem lW {a b:Nat} {c:Bool} {A:Prop} (h:cond (Nat.beq a b&&c) A False):a=b/\c=true/\A:=by
 cases e:(Nat.beq a b&&c)with
 |false=>rw[e]at h;exact h.elim
 |true=>
  rw[e]at h
  simp only[Bool.and_eq_true]at e
  exact⟨Nat.eq_of_beq_eq_true e.1,e.2,h⟩
theorem wu {a b c d:Nat} {A:Prop} (h:cond (Nat.beq a b&&Nat.beq c d) A False):a=b/\c=d/\A:=by
 obtain⟨h1,h2,h3⟩:=lW h
 exact⟨h1,Nat.eq_of_beq_eq_true h2,h3⟩
theorem VR.vh {w FB β} {v:AV} {x:Value} (h:VR w FB β v x):VR w FB β (vh v) x:=by
 unfold Go.Proofs.YtiakeknbdclaoaaGreat.vh
 split
 ·cases h with|p h=>cases h;exact .lu
 ·exact h
theorem AV.I9 {v:AV} {k:Hd} (h:(vh v).aT k):v.aT k:=by
 unfold Go.Proofs.YtiakeknbdclaoaaGreat.vh at h
 split at h
 ·simp only[AV.aT]at h
 ·exact h
structure App (P:Program) (w:World) (FB:Bool->Nat->Prop) (t t2 ty e:TypeId) (i:TI) (z:Value) (xs:List PV) (ax:Value):Prop where
 r0:xs=[]->∀b l c,l<=c->(Builtin.append_ #[t,t2] ty #[.slice b l c,ax]).run P w= .ok (.slice b l c) w
 PA:∀x∈xs,x.cells.length=i.size/\∀c∈x.cells,c.one=true
 ne:xs≠[]->∃news:List Value,news.length=xs.length*i.size/\(∀u∈news,u.oneCell'=true)/\(∀(q:Nat) e (j:Nat) c v,xs[q]?=some e->e.cells[j]?=some c->news[q*i.size+j]?=some v->PR w FB c v)/\
  (xs.length*i.bytes<=281474976710656->(xs.length:Int)<=9223372036854775807->(Builtin.append_ #[t,t2] ty #[.slice none 0 0,ax]).run P w= .ok (.slice (some ⟨w.heap.size,0,none⟩) xs.length (grownCap w xs.length 0 e)) (w.drew.alloc (.cells (news.toArray++Builtin.zeroCells z.cells (grownCap w xs.length 0 e-xs.length)) e)))/\
  (∀(x:Addr) (sLen sCap:Nat) (cT:List Value),cT.length=sLen*i.size->(∀j v,cT[j]?=some v->w.cell? (x.add j)=some v)->sCap<sLen+xs.length->((sLen+xs.length:Nat):Int)<=9223372036854775807->Builtin.nextslicecap (sLen+xs.length) sCap*i.bytes<=281474976710656->
   (Builtin.append_ #[t,t2] ty #[.slice (some x) sLen sCap,ax]).run P w= .ok (.slice (some ⟨w.heap.size,0,none⟩) (sLen+xs.length) (grownCap w (sLen+xs.length) sCap e)) (w.drew.alloc (.cells (cT.toArray++news.toArray++Builtin.zeroCells z.cells (grownCap w (sLen+xs.length) sCap e-(sLen+xs.length))) e)))/\
  (∀(g sLen sCap:Nat) (cur:Array Value),w.heap[g]?=some (.cells cur e (0,0))->sLen+xs.length<=sCap->sLen*i.size+news.length<=cur.size->
   (Builtin.append_ #[t,t2] ty #[.slice (some ⟨g,0,none⟩) sLen sCap,ax]).run P w= .ok (.slice (some ⟨g,0,none⟩) (sLen+xs.length) sCap) (w.setRow g (cur.toList.take (sLen*i.size)++news++cur.toList.drop (sLen*i.size+news.length)).toArray))
theorem Ds {FB:Bool->Nat->Prop} {t ty e:TypeId} {i:TI} {info:TypeInfo} {z:Value} (hu:P.underlying t=some (.slice e)) (hsz:(sizeOf e).run P w= .ok i.size w) (g1:P.info? e=some info) (g2:info.size=i.size) (g3:info.bytes=i.bytes) (g4:info.zero=some z)
  {xs:List PV} {ax:Value} (hsrc:(xs=[]/\∃ad c,ax= .slice ad 0 c)\/Src w FB i.size xs ax):App P w FB t t ty e i z xs ax:=by
 refine⟨fun hxs b l c hlc=>?_,?_,fun hxs=>?_⟩
 ·subst hxs
  have hax:∃ad c,ax= .slice ad 0 c:=by
   rcases hsrc with⟨_,h⟩|⟨⟨ad,c,h,_⟩,_⟩
   ·exact h
   ·exact⟨ad,c,h⟩
  obtain⟨ad',c',rfl⟩:=hax
  exact Ap hu hsz ty _ _ _ hlc _ _
 ·rcases hsrc with⟨h,_⟩|h
  ·rw[h];simp
  ·exact h.PA
 ·rcases hsrc with⟨h,_⟩|⟨⟨ad',c',rfl,hsrc⟩,hel⟩
  ·exact(hxs h).elim
  ·obtain⟨b',off',news,rfl,n1,n2,n3,n4⟩:=hsrc hxs
   have hpos:0<xs.length:=List.length_pos_iff.2 hxs
   have n2':∀j u,news[j]?=some u->w.cell? ((⟨b',off',none⟩:Addr).add j)=some u:=fun j u hj=>by rw[Addr.add_lit];exact n2 j u hj
   refine⟨news,n1,n3,n4,fun e1 e2=>?_,fun x sLen sCap cT e1 e2 e3 e4 e5=>?_,fun g sLen sCap cur e1 e2 e3=>?_⟩
   ·exact run_append_nil (P:=P) w t ty e info z hu g1 g4 ⟨b',off',none⟩ xs.length c' news (by rw[n1,g2]) n2' hpos e2 (by rw[g3];exact e1)
   ·exact run_append_grow (P:=P) w t ty e info z hu g1 g4 x sLen sCap cT (by rw[e1,g2]) e2 ⟨b',off',none⟩ xs.length c' news (by rw[n1,g2]) n2' e3 e4 (by rw[g3];exact e5)
   ·have:=run_append_room (P:=P) w t ty e info hu g1 g sLen sCap cur e1 ⟨b',off',none⟩ xs.length c' news (by rw[n1,g2]) n2' n3 e2 (by rw[g2];exact e3)
    rw[g2]at this
    exact this
theorem GS (hΓ:gW P Γ) (h:cC E n s L a w F β) (hf:∀v ups,K v ups->∀x∈ups,base<=x.1.key->fZ L x.1.key) {t t2 ty T:TypeId} {i:TI} {z:Value} (hsz:(sizeOf T).run P w= .ok i.size w) (g5:z.cells.size=i.size) {av ax:Value} {hd:Hd} {es xs:List PV}
  (hs:VR w (aM E.bW F) β (.vec hd i.size 0 es.length) av) (hB:L hd= .vec T i.size es) (A:App P w (aM E.bW F) t t2 ty T i z xs ax) (h0:1<=i.size) (hr1:(es.length+xs.length)*i.bytes<=140737488355328) (hr2:es.length+xs.length<=140737488355328)
  (hk:K (.vec base i.size 0 (es.length+xs.length)) [(hd,.dead),(base,.vec T i.size (es++xs))]):Out P E n s L a K ((Builtin.append_ #[t,t2] ty #[av,ax]).run P w):=by
 have hb:=h.d4 hd
 rw[hB]at hb
 have fresh:∀(es xs:List PV) (cT news:List Value) (cap0:Nat) (L':Hd->aA) (hst:cC E n s L' a w.drew F β) (hfree:L' base= .free),
   (∀e∈es,e.cells.length=i.size/\∀c∈e.cells,c.one=true)->(∀e∈xs,e.cells.length=i.size/\∀c∈e.cells,c.one=true)->cT.length=es.length*i.size->news.length=xs.length*i.size->
   (∀(q:Nat) e (j:Nat) c v,es[q]?=some e->e.cells[j]?=some c->cT[q*i.size+j]?=some v->PR w (aM E.bW F) c v)->
   (∀(q:Nat) e (j:Nat) c v,xs[q]?=some e->e.cells[j]?=some c->news[q*i.size+j]?=some v->PR w (aM E.bW F) c v)->∀arr:Array Value,
   arr.toList=cT++news++(Builtin.zeroCells z.cells (grownCap w (es.length+xs.length) cap0 T-(es.length+xs.length))).toList->
   cC E n s (a8 L' base (.vec T i.size (es++xs))) a (w.drew.alloc (.cells arr T)) F (a8 β base (some w.heap.size,grownCap w (es.length+xs.length) cap0 T))/\
    VR (w.drew.alloc (.cells arr T)) (aM E.bW F) (a8 β base (some w.heap.size,grownCap w (es.length+xs.length) cap0 T)) (.vec base i.size 0 (es.length+xs.length)) (.slice (some ⟨w.heap.size,0,none⟩) (es.length+xs.length) (grownCap w (es.length+xs.length) cap0 T)):=by
  intro es xs cT news cap0 L' hst hfree q1 q2 q3 q4 q5 q6 arr harr
  have hge:=grownCap_ge w (es.length+xs.length) cap0 T
  refine⟨hst.alloc (.cells arr T) (.vec T i.size (es++xs)) base _ rfl rfl rfl rfl hfree ?_ trivial (fun j hj=>hj.elim),mP hge⟩
  refine vz (w.drew.alloc (.cells arr T)) (aM E.bW F) q1 q2 g5 q3 q4 hge (fun q e j c v e1 e2 e3=>?_) (fun q e j c v e1 e2 e3=>?_) w.heap.size arr harr (fp w.drew _)
  ·exact hst.iG _ (q5 q e j c v e1 e2 e3).drew
  ·exact hst.iG _ (q6 q e j c v e1 e2 e3).drew
 have hdrew:cC E n s L a w.drew F β:=h.still rfl rfl rfl rfl
 have hkeep:=hk
 obtain⟨q1,q2,q3⟩:=hb
 have hfree:L base= .free:=(hf _ _ hk (base,.vec T i.size (es++xs)) qS (Nat.le_refl _)).1
 have hne:hd≠base:=by intro e;rw[e,hfree]at hB;cases hB
 have hlv:(L hd).live:=by rw[hB];trivial
 have hups:a6 L [(hd,.dead),(base,.vec T i.size (es++xs))]=a8 (a8 L hd .dead) base (.vec T i.size (es++xs)):=rfl
 have hmen:∀k:Hd,(base:Hd)=k->a6 L [(hd,.dead),(base,.vec T i.size (es++xs))] k≠ .free:=by
  intro k e;subst e;rw[hups,ah];exact fun e=>by cases e
 have hkfree:a8 L hd .dead base= .free:=by rw[aj _ _ (Ne.symm hne)];exact hfree
 by_cases hxs:xs=[]
 ·
  subst hxs
  have htr:=h.Ag hd base T i.size es hfree hB
  simp only[List.append_nil,List.length_nil,Nat.add_zero]at hk
  rcases hs.iV with⟨b,o,cc,hb',hcl,hcm,ho,rfl⟩|⟨ad,hb',_,hz,rfl,ha⟩
  ·rw[A.r0 rfl _ _ _ qO]
   refine⟨_,_,F,_,hk,htr,?_,fun k hk=>?_⟩
   ·have:=VR.vec (w:=w) (FB:=aM E.bW F) (β:=a8 β base (β hd)) (h:=base) (W:=i.size) (off:=0) (len:=es.length) (b:=b) (o:=o) (c:=cc) (by rw[ah];exact hb') hcl (by rw[ah];exact hcm) ho
    exact this
   ·obtain rfl:base=k:=hk
    show a8 (a8 L hd .dead) base _ base≠_
    rw[ah];exact fun e=>by cases e
  ·rw[A.r0 rfl _ _ _ (Nat.le_refl _)]
   refine⟨_,_,F,_,hk,htr,by rw[hz];exact .jZ ad (by rw[ah];exact hb'),fun k hk=>?_⟩
   obtain rfl:base=k:=hk
   show a8 (a8 L hd .dead) base _ base≠_
   rw[ah];exact fun e=>by cases e
 ··obtain⟨news,n1,n3,n4,Rn,Rg,Rr⟩:=A.ne hxs
   have hel:=A.PA
   have hpos:0<xs.length:=List.length_pos_iff.2 hxs
   have hkill:cC E n s (a8 L hd .dead) a w.drew F β:=hdrew.kill hd
   have grow:∀(ad:Option Addr) (cap:Nat) (cT:List Value),av= .slice ad es.length cap->cT.length=es.length*i.size->(∀j u,cT[j]?=some u->∃x,ad=some x/\w.cell? (x.add j)=some u)->cap<es.length+xs.length->(ad=none->es.length=0/\cap=0)->
     (∀(q:Nat) e (j:Nat) c v,es[q]?=some e->e.cells[j]?=some c->cT[q*i.size+j]?=some v->PR w (aM E.bW F) c v)->Out P E n s L a K ((Builtin.append_ #[t,t2] ty #[av,ax]).run P w):=by
    intro ad cap cT e1 e2 e3 e4 e5 e6
    subst e1
    have hr:∃arr:Array Value,arr.toList=cT++news++(Builtin.zeroCells z.cells (grownCap w (es.length+xs.length) cap T-(es.length+xs.length))).toList/\
      (Builtin.append_ #[t,t2] ty #[.slice ad es.length cap,ax]).run P w= .ok (.slice (some ⟨w.heap.size,0,none⟩) (es.length+xs.length) (grownCap w (es.length+xs.length) cap T)) (w.drew.alloc (.cells arr T)):=by
     cases ad with
     |none=>
      obtain⟨z1,z2⟩:=e5 rfl
      subst z2
      have ho:cT=[]:=by rw[z1]at e2;exact List.length_eq_zero_iff.1 qO
      have:=Rn (by rw[Nat.add_mul]at hr1;omega) qO
      rw[z1]
      simp only[Nat.zero_add]
      exact⟨_,by simp[ho],this⟩
     |some x=>
      have:=Rg x es.length cap cT e2 (fun j v hj=>by obtain⟨x',h1,h2⟩:=e3 j v hj;cases h1;exact h2) e4 qO
       (growslice_fits e4 hr1)
      exact⟨_,qS,this⟩
    obtain⟨arr,harr,hr⟩:=hr
    rw[hr]
    obtain⟨f1,f2⟩:=fresh es xs cT news cap (a8 L hd .dead) hkill hkfree q1 hel e2 n1 e6 n4 arr harr
    exact⟨_,_,F,_,hk,f1,f2,fun k hk=>hmen k hk⟩
   rcases hs.iV with⟨b,o,cc,hb',hcl,hcm,ho,rfl⟩|⟨ad,hb',_,hz,rfl,ha⟩
   rotate_left
   ·have he:es=[]:=List.length_eq_zero_iff.1 hz
    exact grow ad 0 [] (by rw[hz]) (by simp[he]) qS qO (fun _=>⟨hz,rfl⟩) (by simp[he])
   ·obtain⟨arr,p1,p2,p3,p4⟩:∃arr,(β hd).1=some b/\w.heap[b]?=some (.cells arr T (0,0))/\arr.size=(β hd).2*i.size/\∀(q:Nat) e (j:Nat) c v,es[q]?=some e->e.cells[j]?=some c->arr[q*i.size+j]?=some v->PR w (aM E.bW F) c v:=by
     rcases q3 with q3|⟨b',arr,g1,g2,g3,g4⟩
     ·rw[q3.1]at hb';cases hb'
     ·rw[g1]at hb';cases hb';exact⟨arr,g1,g2,g3,g4⟩
    have hle:es.length*i.size<=arr.size:=by rw[p3];exact Nat.mul_le_mul_right _ q2
    by_cases hroomc:es.length+xs.length<=cc
    ·have hroom:es.length+xs.length<=(β hd).2:=qO
     have ho:=ho qO
     simp only[Nat.zero_mul]at ho
     subst ho
     have hle2:es.length*i.size+news.length<=arr.size:=by rw[n1,p3,<-Nat.add_mul];exact Nat.mul_le_mul_right _ hroom
     have hr:=Rr b es.length cc arr p2 qO hle2
     rw[hr]
     have hw:=h.write (w':=w.setRow b (arr.toList.take (es.length*i.size)++news++arr.toList.drop (es.length*i.size+news.length)).toArray) (.vec T i.size (es++xs)) hd rfl rfl rfl qS p1 (fun b' hb'=>setRow_other w b b' _ hb') hlv
      ⟨fun e he=>(List.mem_append.1 he).elim (q1 e) (hel e),by simpa using hroom,.inr ⟨b,_,p1,setRow_heap w b arr _ T _ p2,by simp;omega,fun q e j c v e1 e2 e3=>h.Cc hlv p1 _ (by
       have hj:j<i.size:=by rw[<-((List.mem_append.1 (List.mem_of_getElem? e1)).elim (q1 e) (hel e)).1];exact(List.getElem?_eq_some_iff.1 e2).1
       simp only[List.getElem?_toArray]at e3
       rw[dW _ _ _ _ (by simpa using hle2)]at e3
       by_cases hq:q<es.length
       ·rw[List.getElem?_append_left hq]at e1
        have:(q+1)*i.size<=es.length*i.size:=Nat.mul_le_mul_right _ qO
        rw[Nat.add_mul]at this
        rw[if_pos qO]at e3
        exact p4 q e j c v e1 e2 (by simpa using e3)
       ·rw[List.getElem?_append_right qO]at e1
        have hq2:=(List.getElem?_eq_some_iff.1 e1).1
        have h1:es.length*i.size<=q*i.size:=Nat.mul_le_mul_right _ qO
        have h2:q*i.size-es.length*i.size=(q-es.length)*i.size:=(Nat.sub_mul ..).symm
        have h3:(q-es.length+1)*i.size<=xs.length*i.size:=Nat.mul_le_mul_right _ qO
        rw[Nat.add_mul]at h3
        rw[if_neg qO,if_pos (by rw[n1];omega)]at e3
        exact n4 (q-es.length) e j c v e1 e2 (by rw[<-e3];congr 1;omega))⟩⟩ trivial (fun j hj=>hj.elim)
     have htr:=hw.Ag hd base T i.size (es++xs) (by rw[aj _ _ (Ne.symm hne)];exact hfree) (ah _ _ _)
     have hLe:a8 (a8 (a8 L hd (.vec T i.size (es++xs))) hd .dead) base (.vec T i.size (es++xs))=a8 (a8 L hd .dead) base (.vec T i.size (es++xs)):=by
      funext k
      simp only[a8]
      split
      ·rfl
      ·split<;>rfl
     rw[hLe]at htr
     refine⟨_,_,F,_,hk,htr,?_,fun k hk=>hmen k hk⟩
     have:=VR.vec (w:=w.setRow b (arr.toList.take (es.length*i.size)++news++arr.toList.drop (es.length*i.size+news.length)).toArray) (FB:=aM E.bW F) (β:=a8 β base (β hd)) (h:=base) (W:=i.size) (off:=0) (len:=es.length+xs.length) (b:=b) (o:=0) (c:=cc) (by rw[ah];exact hb') hroomc (by rw[ah];exact hcm) (by intro _;simp)
     exact this
    ·refine grow _ _ (arr.toList.take (es.length*i.size)) rfl (by simp;omega) (fun j u hj=>⟨_,rfl,?_⟩) qO (fun e=>by cases e) (fun q e j c v e1 e2 e3=>?_)
     ·have hjl:=(List.getElem?_eq_some_iff.1 hj).1
      simp only[List.length_take,Array.length_toList]at hjl
      have hjl:j<es.length*i.size:=qO
      have hpos':0<cc:=by
       rcases Nat.eq_zero_or_pos cc with e|e
       ·have:es.length=0:=qO
        rw[this]at hjl;simp at hjl
       ·exact e
      have ho:=ho qO
      simp only[Nat.zero_mul]at ho
      subst ho
      rw[List.getElem?_take_of_lt hjl]at hj
      rw[Addr.add_lit]
      simp only[World.cell?,p2,Nat.zero_add]
      simpa using hj
     ·have hj:j<i.size:=by rw[<-(q1 e (List.mem_of_getElem? e1)).1];exact(List.getElem?_eq_some_iff.1 e2).1
      have hq:=(List.getElem?_eq_some_iff.1 e1).1
      have:(q+1)*i.size<=es.length*i.size:=Nat.mul_le_mul_right _ qO
      rw[Nat.add_mul]at this
      rw[List.getElem?_take_of_lt qO]at e3
      exact p4 q e j c v e1 e2 (by simpa using e3)
theorem PR.cT {w:World} {FB:Bool->Nat->Prop} {m:Bool} {Wd:Nat} {es:List PV} {ad:Option Addr} {l c:Nat} (hp:PR w FB (.sl m Wd es) (.slice ad l c)):
  ∃cT:List Value,cT.length=es.length*Wd/\(∀j u,cT[j]?=some u->∃x,ad=some x/\w.cell? (x.add j)=some u)/\(∀(i:Nat) e (j:Nat) c v,es[i]?=some e->e.cells[j]?=some c->cT[i*Wd+j]?=some v->PR w FB c v)/\
   (∀e∈es,e.cells.length=Wd/\∀c∈e.cells,c.one=true)/\(ad=none->es.length=0):=by
 cases hp with
 |nil _ _ _=>exact⟨[],qS,qS,qS,qS,fun _=>rfl⟩
 |sl _ _ _ b off cap vals hc hb hW hone hv hr=>
  obtain⟨news,n1,n2,_,n4⟩:=wX (fun e he=>⟨hW e he,hone e he⟩) b off vals hv hr
  exact⟨news,n1,fun j u hj=>⟨_,rfl,by rw[Addr.add_lit];exact n2 j u hj⟩,n4,fun e he=>⟨hW e he,hone e he⟩,fun e=>by cases e⟩
theorem AT (hΓ:gW P Γ) (hL:∀h K,LK h K->K (L h)) (h:cC E n s L a w F β) (hf:∀v ups,K v ups->∀x∈ups,base<=x.1.key->fZ L x.1.key) {t ty e:TypeId} {i:TI}
  (hu:P.underlying t=some (.slice e)) (hi:Γ e=some i) {vs vx:AV} {av ax:Value} (hs:VR w (aM E.bW F) β vs av) (hx:VR w (aM E.bW F) β vx ax)
  (hk:m8 LK base e i vs vx K):Out P E n s L a K ((Builtin.append_ #[t,t] ty #[av,ax]).run P w):=by
 obtain⟨info,z,g1,g2,g3,g4,g5⟩:=sa hΓ hi
 have hsz:=dG hΓ hi w
 unfold m8 at hk
 obtain⟨h0,hk⟩:=oD hk
 have fresh:∀(es xs:List PV) (cT news:List Value) (cap0:Nat) (L':Hd->aA) (hst:cC E n s L' a w.drew F β) (hfree:L' base= .free),
   (∀e∈es,e.cells.length=i.size/\∀c∈e.cells,c.one=true)->(∀e∈xs,e.cells.length=i.size/\∀c∈e.cells,c.one=true)->cT.length=es.length*i.size->news.length=xs.length*i.size->
   (∀(q:Nat) e (j:Nat) c v,es[q]?=some e->e.cells[j]?=some c->cT[q*i.size+j]?=some v->PR w (aM E.bW F) c v)->
   (∀(q:Nat) e (j:Nat) c v,xs[q]?=some e->e.cells[j]?=some c->news[q*i.size+j]?=some v->PR w (aM E.bW F) c v)->∀arr:Array Value,
   arr.toList=cT++news++(Builtin.zeroCells z.cells (grownCap w (es.length+xs.length) cap0 e-(es.length+xs.length))).toList->
   cC E n s (a8 L' base (.vec e i.size (es++xs))) a (w.drew.alloc (.cells arr e)) F (a8 β base (some w.heap.size,grownCap w (es.length+xs.length) cap0 e))/\
    VR (w.drew.alloc (.cells arr e)) (aM E.bW F) (a8 β base (some w.heap.size,grownCap w (es.length+xs.length) cap0 e)) (.vec base i.size 0 (es.length+xs.length)) (.slice (some ⟨w.heap.size,0,none⟩) (es.length+xs.length) (grownCap w (es.length+xs.length) cap0 e)):=by
  intro es xs cT news cap0 L' hst hfree q1 q2 q3 q4 q5 q6 arr harr
  have hge:=grownCap_ge w (es.length+xs.length) cap0 e
  refine⟨hst.alloc (.cells arr e) (.vec e i.size (es++xs)) base _ rfl rfl rfl rfl hfree ?_ trivial (fun j hj=>hj.elim),mP hge⟩
  refine vz (w.drew.alloc (.cells arr e)) (aM E.bW F) q1 q2 g5 q3 q4 hge (fun q e j c v e1 e2 e3=>?_) (fun q e j c v e1 e2 e3=>?_) w.heap.size arr harr (fp w.drew _)
  ·exact hst.iG _ (q5 q e j c v e1 e2 e3).drew
  ·exact hst.iG _ (q6 q e j c v e1 e2 e3).drew
 have hdrew:cC E n s L a w.drew F β:=h.still rfl rfl rfl rfl
 split at hk
 ·
  obtain⟨xs,hk,hsrc⟩:=m6 hL h hx hk
  obtain⟨hr1,hr2,hk⟩:=hk
  have hfree:L base= .free:=(hf _ _ hk (base,.vec e i.size xs) qS (Nat.le_refl _)).1
  have hemp:∃ad,av= .slice ad 0 0:=by
   cases hs with
   |lu=>exact⟨none,rfl⟩
   |emp ad=>exact⟨_,rfl⟩
  obtain⟨ad,rfl⟩:=hemp
  by_cases hxs:xs=[]
  ·subst hxs
   have hax:∃ad c,ax= .slice ad 0 c:=by
    rcases hsrc with⟨_,h⟩|⟨⟨ad,c,h,_⟩,_⟩
    ·exact h
    ·exact⟨ad,c,h⟩
   obtain⟨ad',c',rfl⟩:=hax
   rw[Ap hu hsz ty _ _ _ (Nat.le_refl _)]
   refine⟨_,_,F,_,hk,h.zero base e i.size hfree,.jZ ad (by rw[ah]),fun k hk=>?_⟩
   obtain rfl:base=k:=hk
   show a8 L base _ base≠_
   rw[ah];exact fun e=>by cases e
  ·rcases hsrc with⟨h,_⟩|⟨⟨ad',c',rfl,hsrc⟩,hel⟩
   ·exact(hxs h).elim
   ·obtain⟨b,off,news,rfl,n1,n2,n3,n4⟩:=hsrc hxs
    have hpos:0<xs.length:=List.length_pos_iff.2 hxs
    have hr:∃arr:Array Value,arr.toList=[]++news++(Builtin.zeroCells z.cells (grownCap w (0+xs.length) 0 e-(0+xs.length))).toList/\
      (Builtin.append_ #[t,t] ty #[.slice ad 0 0,.slice (some ⟨b,off,none⟩) xs.length c']).run P w= .ok (.slice (some ⟨w.heap.size,0,none⟩) (0+xs.length) (grownCap w (0+xs.length) 0 e)) (w.drew.alloc (.cells arr e)):=by
     cases ad with
     |none=>
      have:=run_append_nil (P:=P) w t ty e info z hu g1 g4 ⟨b,off,none⟩ xs.length c' news (by rw[n1,g2]) (fun j u hj=>by rw[Addr.add_lit];exact n2 j u hj) hpos qO (by rw[g3];omega)
      simp only[Nat.zero_add]
      exact⟨_,qS,this⟩
     |some x=>
      have:=run_append_grow (P:=P) w t ty e info z hu g1 g4 x 0 0 [] qS qS ⟨b,off,none⟩ xs.length c' news (by rw[n1,g2]) (fun j u hj=>by rw[Addr.add_lit];exact n2 j u hj) qO qO
       (growslice_fits qO (by rw[g3,Nat.zero_add];exact hr1))
      exact⟨_,qS,this⟩
    obtain⟨arr,harr,hr⟩:=hr
    rw[hr]
    obtain⟨f1,f2⟩:=fresh [] xs [] news 0 L hdrew hfree qS hel qS n1 qS n4 arr harr
    simp only[List.nil_append,List.length_nil,Nat.zero_add]at f1 f2⊢
    refine⟨_,_,F,_,hk,f1,f2,fun k hk=>?_⟩
    obtain rfl:base=k:=hk
    show a8 L base _ base≠_
    rw[ah];exact fun e=>by cases e
 ·
  rename_i hd Wd len _
  obtain⟨hWd,hnv,hk⟩:Wd=i.size/\xe hd vx=true/\_:=lW hk
  subst hWd
  have hk:=hL hd _ hk
  have hb:=h.d4 hd
  generalize hB:L hd=B at hk hb
  split at hk
  ·rename_i T W' es
   obtain⟨hW',hT,hK⟩:=wu hk
   subst hW'
   subst hT
   obtain⟨hlen,hK⟩:=hK
   subst hlen
   obtain⟨xs,hK,hsrc⟩:=m6 hL h hx hK
   obtain⟨hr1,hr2,es',hes,m,hm,hK⟩:=hK
   subst hes
   subst hm
   clear hk
   have hk:=hK
   obtain hr:=Ds (ty:=ty) hu hsz g1 g2 g3 g4 hsrc
   exact GS hΓ h hf hsz g5 hs hB hr qO hr1 hr2 hK
  ·exact hk.elim
 ·
  rename_i m W es _
  obtain⟨hWd,hk2⟩:=d9 hk
  subst hWd
  obtain⟨xs,hK,hsrc⟩:=m6 hL h hx hk2
  obtain⟨hpos,hr1,hr2,es',hes,mm,hm,hK⟩:=hK
  subst hes
  subst hm
  have hfree:L base= .free:=(hf _ _ hK (base,.vec e i.size (es++xs)) qS (Nat.le_refl _)).1
  have hxs:xs≠[]:=by intro e;subst e;simp at hpos
  have A:=Ds (ty:=ty) hu hsz g1 g2 g3 g4 hsrc
  obtain⟨news,n1,n3,n4,Rn,Rg,Rr⟩:=A.ne hxs
  have hel:=A.PA
  cases hs with| @rB _ _ _ ad hp=>
  obtain⟨cT,o1,o2,o3,o4,o5⟩:=hp.cT
  have hr:∃arr:Array Value,arr.toList=cT++news++(Builtin.zeroCells z.cells (grownCap w (es.length+xs.length) es.length e-(es.length+xs.length))).toList/\
    (Builtin.append_ #[t,t] ty #[.slice ad es.length es.length,ax]).run P w= .ok (.slice (some ⟨w.heap.size,0,none⟩) (es.length+xs.length) (grownCap w (es.length+xs.length) es.length e)) (w.drew.alloc (.cells arr e)):=by
   cases ad with
   |none=>
    have z1:=o5 rfl
    have ho:cT=[]:=by rw[z1]at o1;exact List.length_eq_zero_iff.1 qO
    have:=Rn (by rw[Nat.add_mul]at hr1;omega) qO
    rw[z1]
    simp only[Nat.zero_add]
    exact⟨_,by simp[ho],this⟩
   |some x=>
    have:=Rg x es.length es.length cT o1 (fun j v hj=>by obtain⟨x',h1,h2⟩:=o2 j v hj;cases h1;exact h2) qO qO
     (growslice_fits qO hr1)
    exact⟨_,qS,this⟩
  obtain⟨arr,harr,hr⟩:=hr
  rw[hr]
  obtain⟨f1,f2⟩:=fresh es xs cT news es.length L hdrew hfree o4 hel o1 n1 o3 n4 arr harr
  refine⟨_,_,F,_,hK,f1,f2,fun k hk=>?_⟩
  obtain rfl:base=k:=hk
  show a8 L base _ base≠_
  rw[ah];exact fun e=>by cases e
 ·exact hk.elim
theorem EZ {c:Bool} {A B:Prop} (h:cond c A B):c=true/\A\/c=false/\B:=by
 cases c with
 |false=>exact .inr ⟨rfl,h⟩
 |true=>exact .inl ⟨rfl,h⟩
theorem cC.Et (h:cC E n s L a w F β) (hd nh:Hd) (e:TypeId) (es:List AV) (hfree:L nh= .free) (hL:L hd= .rows e es):
  cC E n s (a8 (a8 L hd .dead) nh (.rows e es)) a w F (a8 β nh (β hd)):=by
 have hne:hd≠nh:=by intro e;rw[e,hfree]at hL;cases hL
 have ne:∀k,L k≠ .free->k≠nh:=fun k hk e=>hk (e▸hfree)
 have hlv:(L hd).live:=by rw[hL];trivial
 have back:∀k,(a8 (a8 L hd .dead) nh (.rows e es) k).live->(k=nh/\True)\/(k≠nh/\k≠hd/\(L k).live):=by
  intro k hk
  by_cases e1:k=nh
  ·exact .inl ⟨e1,trivial⟩
  ·rw[aj _ _ e1]at hk
   by_cases e2:k=hd
   ·subst e2;rw[ah]at hk;exact hk.elim
   ·rw[aj _ _ e2]at hk;exact .inr ⟨e1,e2,hk⟩
 refine h.step rfl rfl rfl (Nat.le_refl _) (fun _=>id) h.nA h.fold (fun _ _=>rfl) (fun _ _=>rfl) (fun k hk=>aj _ _ (ne k hk)) (fun k hk=>?_) (fun k=>?_) (fun k b h1 h2=>?_) (fun k k' b h1 h2 h3 h4=>?_)
 ·rw[aj _ _ (ne k hk)]
  by_cases e2:k=hd
  ·subst e2;rw[ah];exact fun e=>by cases e
  ·rw[aj _ _ e2];exact hk
 ·by_cases e1:k=nh
  ·subst e1;rw[ah]
   have hb:=h.d4 hd
   have hm:=h.mb hd
   rw[hL]at hb hm
   obtain⟨q1,q2,q3⟩:=hb
   refine .inr ⟨⟨q1,by rw[ah];exact q2,?_⟩,fun j hj=>?_⟩
   ·rcases q3 with q3|⟨b,arr,g1,g2,g3,g4⟩
    ·exact .inl (by rw[ah];exact q3)
    ·exact .inr ⟨b,arr,by rw[ah];exact g1,g2,by rw[ah];exact g3,fun i c v e1 e2=>(g4 i c v e1 e2).mono (fun _ _=>id) (fun _ _ _=>rfl) fun j hj=>aj _ _ (ne j (hm j (AV.bj (List.mem_of_getElem? e1) hj)))⟩
   ·have hj:=hm j hj
    rw[aj _ _ (ne j hj)]
    by_cases e2:j=hd
    ·subst e2;rw[ah];exact fun e=>by cases e
    ·rw[aj _ _ e2];exact hj
  ·rw[aj _ _ e1]
   by_cases e2:k=hd
   ·subst e2;rw[ah];exact .inr ⟨trivial,fun j hj=>hj.elim⟩
   ·rw[aj _ _ e2];exact .inl ⟨rfl,fun _ _ _=>rfl⟩
 ·rcases back k h1 with⟨e1,_⟩|⟨e1,e2,h1⟩
  ·subst e1;rw[ah]at h2;exact h.own hd b hlv h2
  ·rw[aj _ _ e1]at h2;exact h.own k b h1 h2
 ·rcases back k h1 with⟨e1,_⟩|⟨e1,e2,h1⟩<;>rcases back k' h2 with⟨e1',_⟩|⟨e1',e2',h2⟩
  ·rw[e1,e1']
  ·subst e1;rw[ah]at h3;rw[aj _ _ e1']at h4;exact(e2' (h.nG k' hd b (by assumption) hlv h4 h3)).elim
  ·subst e1';rw[ah]at h4;rw[aj _ _ e1]at h3;exact(e2 (h.nG k hd b (by assumption) hlv h3 h4)).elim
  ·rw[aj _ _ e1]at h3;rw[aj _ _ e1']at h4;exact h.nG k k' b h1 h2 h3 h4
theorem VR.drew {w:World} {FB:Bool->Nat->Prop} {β:Hd->Option Nat×Nat} {p:AV} {v:Value} (h:VR w FB β p v):VR w.drew FB β p v:=VR.mono (w:=w) (w':=w.drew) (fun _ _ h=>h) (fun _ _ _=>rfl) h fun _ _=>rfl
theorem BY (w:World) (FB:Bool->Nat->Prop) (β':Hd->Option Nat×Nat) {e:TypeId} {cap base:Nat} {es xs:List AV} {cT news:List Value} {z:Array Value} {b:Nat}
  (hβ:β' base=(some b,cap))
  (hes:∀e∈es,e.one=true) (hxs:∀e∈xs,e.one=true) (hz:z.size=1) (hlo:cT.length=es.length) (hln:news.length=xs.length)
  (hcap:es.length+xs.length<=cap) (r1:∀(i:Nat) c v,es[i]?=some c->cT[i]?=some v->VR w FB β' c v)
  (r2:∀(i:Nat) c v,xs[i]?=some c->news[i]?=some v->VR w FB β' c v) (arr:Array Value)
  (harr:arr.toList=cT++news++(Builtin.zeroCells z (cap-(es.length+xs.length))).toList) (hh:w.heap[b]?=some (.cells arr e (0,0))):
  rK w FB β' base (.rows e (es++xs)):=by
 refine⟨fun e he=>(List.mem_append.1 he).elim (hes e) (hxs e),by rw[hβ];simpa using hcap,.inr ⟨b,arr,by rw[hβ],hh,?_,fun i c v e1 e3=>?_⟩⟩
 ·rw[hβ,<-Array.length_toList,harr]
  simp only[List.length_append,hlo,hln,Array.length_toList,size_zeroCells,hz]
  omega
 ·rw[<-Array.getElem?_toList,harr]at e3
  by_cases hi:i<es.length
  ·rw[List.getElem?_append_left hi]at e1
   rw[List.append_assoc,List.getElem?_append_left qO]at e3
   exact r1 i c v e1 e3
  ·rw[List.getElem?_append_right qO]at e1
   have hi2:=(List.getElem?_eq_some_iff.1 e1).1
   rw[List.append_assoc,List.getElem?_append_right qO,hlo,List.getElem?_append_left qO]at e3
   exact r2 (i-es.length) c v e1 e3
theorem FI (hL:∀h K,LK h K->K (L h)) {v:AV} {J:Option (List AV)->Prop} (hk:qf LK v J):J none\/∃h T cs,v= .vec h 1 0 cs.length/\L h= .rows T cs/\J (some cs):=by
 unfold qf at hk
 split at hk
 ·rename_i h len
  have hk:=hL h _ hk
  generalize hB:L h=B at hk
  split at hk
  ·obtain⟨e,hk2⟩:=d9 hk
   subst e
   exact .inr ⟨_,_,_,rfl,hB,hk2⟩
  ·exact .inl hk
  ·exact hk.elim
 ·exact .inl hk
theorem oZ:∀{cs:List AV} {k:Hd},AV.bm cs k->∃c∈cs,c.aT k
 |c::cs,k,h=>h.elim (fun h=>⟨c,qS,h⟩) fun h=>(oZ h).elim fun x hx=>⟨x,by simp[hx.1],hx.2⟩
theorem yS (hΓ:gW P Γ) (hL:∀h K,LK h K->K (L h)) (h:cC E n s L a w F β) (hf:∀v ups,K v ups->∀x∈ups,base<=x.1.key->fZ L x.1.key) {t ty e:TypeId} {i:TI}
  (hu:P.underlying t=some (.slice e)) (hi:Γ e=some i) {vs vx:AV} {av ax:Value} (hs:VR w (aM E.bW F) β vs av) (hx:VR w (aM E.bW F) β vx ax)
  (hk:rZ LK base e i vs vx K):Out P E n s L a K ((Builtin.append_ #[t,t] ty #[av,ax]).run P w):=by
 rcases FI hL hk with hk|⟨hxd,Tx,xs,rfl,hBx,hk⟩
 ·exact AT hΓ hL h hf hu hi hs hx hk
 obtain⟨info,z,g1,g2,g3,g4,g5⟩:=sa hΓ hi
 have hsz:=dG hΓ hi w
 have hk:mW LK base e i vs _ xs K:=hk
 unfold mW at hk
 obtain⟨h1,hne,hk⟩:=lW hk
 have hxs:xs≠[]:=by intro e;rw[e]at hne;cases hne
 have hpos:0<xs.length:=List.length_pos_iff.2 hxs
 have hdrew:cC E n s L a w.drew F β:=h.still rfl rfl rfl rfl
 have hbx:=h.d4 hxd
 have hmx:=h.mb hxd
 rw[hBx]at hbx hmx
 obtain⟨x1,x2,x3⟩:=hbx
 obtain⟨b',news,c',rfl,n1,n2,n3,n4⟩:∃(b':Nat) (news:List Value) (c':Nat),ax= .slice (some ⟨b',0,none⟩) xs.length c'/\news.length=xs.length/\(∀j u,news[j]?=some u->w.cell? ⟨b',0+j,none⟩=some u)/\(∀u∈news,u.oneCell'=true)/\
   ∀(q:Nat) c v,xs[q]?=some c->news[q]?=some v->VR w (aM E.bW F) β c v:=by
  rcases hx.iV with⟨b,o,cc,hb',hcl,hcm,ho,rfl⟩|⟨ad,hb',_,hz,rfl,ha⟩
  rotate_left
  ·omega
  ·obtain⟨arr,p1,p2,p3,p4⟩:∃arr,(β hxd).1=some b/\w.heap[b]?=some (.cells arr Tx (0,0))/\arr.size=(β hxd).2/\∀(q:Nat) c v,xs[q]?=some c->arr[q]?=some v->VR w (aM E.bW F) β c v:=by
    rcases x3 with q3|⟨b',arr,g1,g2,g3,g4⟩
    ·rw[q3.1]at hb';cases hb'
    ·rw[g1]at hb';cases hb';exact⟨arr,g1,g2,g3,g4⟩
   have ho:=ho qO
   simp only[Nat.zero_mul]at ho
   subst ho
   have rel:∀(q:Nat) c v,xs[q]?=some c->(arr.toList.take xs.length)[q]?=some v->VR w (aM E.bW F) β c v:=fun q c v e1 e2=>by
    have:=(List.getElem?_eq_some_iff.1 e1).1
    rw[List.getElem?_take_of_lt this]at e2
    exact p4 q c v e1 (by simpa using e2)
   refine⟨b,arr.toList.take xs.length,_,rfl,by simp;omega,fun j u hj=>?_,fun u hu=>?_,rel⟩
   ·have hjl:=(List.getElem?_eq_some_iff.1 hj).1
    simp only[List.length_take,Array.length_toList]at hjl
    rw[List.getElem?_take_of_lt qO]at hj
    simp only[World.cell?,p2,Nat.zero_add]
    simpa using hj
   ·obtain⟨q,hq⟩:=List.getElem?_of_mem hu
    have hql:=(List.getElem?_eq_some_iff.1 hq).1
    simp only[List.length_take,Array.length_toList]at hql
    have hqx:q<xs.length:=qO
    exact(rel q xs[q] u (List.getElem?_eq_getElem hqx) hq).gG (x1 _ (List.getElem_mem hqx))
 have hxm:∀c∈xs,∀k,c.aT k->L k≠ .free:=fun c hc k hk=>hmx k (AV.bj hc hk)
 have fresh:∀(es:List AV) (cT:List Value) (cap0:Nat) (L':Hd->aA) (hst:cC E n s L' a w.drew F β) (hfree:L' base= .free) (hfr:L base= .free) (hLL:∀k,L k≠ .free->L' k≠ .free),
   (∀e∈es,e.one=true)->(∀c∈es,∀k,c.aT k->L k≠ .free)->cT.length=es.length->
   (∀(q:Nat) c v,es[q]?=some c->cT[q]?=some v->VR w (aM E.bW F) β c v)->∀arr:Array Value,
   arr.toList=cT++news++(Builtin.zeroCells z.cells (grownCap w (es.length+xs.length) cap0 e-(es.length+xs.length))).toList->
   cC E n s (a8 L' base (.rows e (es++xs))) a (w.drew.alloc (.cells arr e)) F (a8 β base (some w.heap.size,grownCap w (es.length+xs.length) cap0 e))/\
    VR (w.drew.alloc (.cells arr e)) (aM E.bW F) (a8 β base (some w.heap.size,grownCap w (es.length+xs.length) cap0 e)) (.vec base 1 0 (es.length+xs.length)) (.slice (some ⟨w.heap.size,0,none⟩) (es.length+xs.length) (grownCap w (es.length+xs.length) cap0 e)):=by
  intro es cT cap0 L' hst hfree hfr hLL q1 qm q3 q5 arr harr
  have hge:=grownCap_ge w (es.length+xs.length) cap0 e
  refine⟨hst.alloc (.cells arr e) (.rows e (es++xs)) base _ rfl rfl rfl rfl hfree ?_ trivial (fun j hj=>?_),mP hge⟩
  ·refine BY (w.drew.alloc (.cells arr e)) (aM E.bW F) _ (ah _ _ _) q1 x1 (by rw[g5];exact h1) q3 n1 hge (fun q c v e1 e3=>?_) (fun q c v e1 e3=>?_) arr harr (fp w.drew _)
   ·exact hst.pI _ hfree _ (q5 q c v e1 e3).drew fun k hk=>hLL k (qm c (List.mem_of_getElem? e1) k hk)
   ·exact hst.pI _ hfree _ (n4 q c v e1 e3).drew fun k hk=>hLL k (hxm c (List.mem_of_getElem? e1) k hk)
  ·obtain⟨c,hc,hj⟩:=oZ hj
   exact hLL j ((List.mem_append.1 hc).elim (fun hc=>qm c hc j hj) (fun hc=>hxm c hc j hj))
 split at hk
 ·
  obtain⟨hr1,hr2,hk⟩:=hk
  have hfree:L base= .free:=(hf _ _ hk (base,.rows e xs) qS (Nat.le_refl _)).1
  obtain⟨ad,rfl⟩:∃ad,av= .slice ad 0 0:=by
   cases hs with
   |lu=>exact⟨none,rfl⟩
   |emp ad=>exact⟨_,rfl⟩
  have hr:∃arr:Array Value,arr.toList=[]++news++(Builtin.zeroCells z.cells (grownCap w (0+xs.length) 0 e-(0+xs.length))).toList/\
    (Builtin.append_ #[t,t] ty #[.slice ad 0 0,.slice (some ⟨b',0,none⟩) xs.length c']).run P w= .ok (.slice (some ⟨w.heap.size,0,none⟩) (0+xs.length) (grownCap w (0+xs.length) 0 e)) (w.drew.alloc (.cells arr e)):=by
   cases ad with
   |none=>
    have:=run_append_nil (P:=P) w t ty e info z hu g1 g4 ⟨b',0,none⟩ xs.length c' news (by rw[n1,g2,h1,Nat.mul_one]) (fun j u hj=>by rw[Addr.add_lit];exact n2 j u hj) hpos qO (by rw[g3];omega)
    simp only[Nat.zero_add]
    exact⟨_,qS,this⟩
   |some x=>
    have:=run_append_grow (P:=P) w t ty e info z hu g1 g4 x 0 0 [] qS qS ⟨b',0,none⟩ xs.length c' news (by rw[n1,g2,h1,Nat.mul_one]) (fun j u hj=>by rw[Addr.add_lit];exact n2 j u hj) qO qO
     (growslice_fits qO (by rw[g3,Nat.zero_add];exact hr1))
    exact⟨_,qS,this⟩
  obtain⟨arr,harr,hr⟩:=hr
  rw[hr]
  obtain⟨f1,f2⟩:=fresh [] [] 0 L hdrew hfree hfree (fun _ h=>h) qS qS qS qS arr harr
  simp only[List.nil_append,List.length_nil,Nat.zero_add]at f1 f2⊢
  refine⟨_,_,F,_,hk,f1,f2,fun k hk=>?_⟩
  obtain rfl:base=k:=hk
  show a8 L base _ base≠_
  rw[ah];exact fun e=>by cases e
 ·
  rename_i hd len _ _ _
  have hk:=hL hd _ hk
  have hb:=h.d4 hd
  have hmb:=h.mb hd
  generalize hB:L hd=B at hk hb hmb
  split at hk
  ·rename_i T es
   obtain⟨hT,hK⟩:=d9 hk
   subst hT
   obtain⟨hlen,hr1,hr2,es',hes,m,hm,hK⟩:=hK
   subst hlen
   subst hes
   subst hm
   clear hk
   have hk:=hK
   obtain⟨q1,q2,q3⟩:=hb
   have hfree:L base= .free:=(hf _ _ hk (base,.rows T (es++xs)) qS (Nat.le_refl _)).1
   have hne:hd≠base:=by intro e;rw[e,hfree]at hB;cases hB
   have hlv:(L hd).live:=by rw[hB];trivial
   have hups:a6 L [(hd,.dead),(base,.rows T (es++xs))]=a8 (a8 L hd .dead) base (.rows T (es++xs)):=rfl
   have hmen:∀k:Hd,(base:Hd)=k->a6 L [(hd,.dead),(base,.rows T (es++xs))] k≠ .free:=by
    intro k e;subst e;rw[hups,ah];exact fun e=>by cases e
   have hkfree:a8 L hd .dead base= .free:=by rw[aj _ _ (Ne.symm hne)];exact hfree
   have hem:∀c∈es,∀k,c.aT k->L k≠ .free:=fun c hc k hk=>hmb k (AV.bj hc hk)
   have hkill:cC E n s (a8 L hd .dead) a w.drew F β:=hdrew.kill hd
   have hLL:∀k,L k≠ .free->a8 L hd .dead k≠ .free:=fun k hk=>by
    by_cases e2:k=hd
    ·subst e2;rw[ah];exact fun e=>by cases e
    ·rw[aj _ _ e2];exact hk
   have grow:∀(ad:Option Addr) (cap:Nat) (cT:List Value),av= .slice ad es.length cap->cT.length=es.length->(∀j u,cT[j]?=some u->∃x,ad=some x/\w.cell? (x.add j)=some u)->cap<es.length+xs.length->(ad=none->es.length=0/\cap=0)->
     (∀(q:Nat) c v,es[q]?=some c->cT[q]?=some v->VR w (aM E.bW F) β c v)->Out P E n s L a K ((Builtin.append_ #[t,t] ty #[av,.slice (some ⟨b',0,none⟩) xs.length c']).run P w):=by
    intro ad cap cT e1 e2 e3 e4 e5 e6
    subst e1
    have hr:∃arr:Array Value,arr.toList=cT++news++(Builtin.zeroCells z.cells (grownCap w (es.length+xs.length) cap T-(es.length+xs.length))).toList/\
      (Builtin.append_ #[t,t] ty #[.slice ad es.length cap,.slice (some ⟨b',0,none⟩) xs.length c']).run P w= .ok (.slice (some ⟨w.heap.size,0,none⟩) (es.length+xs.length) (grownCap w (es.length+xs.length) cap T)) (w.drew.alloc (.cells arr T)):=by
     cases ad with
     |none=>
      obtain⟨z1,z2⟩:=e5 rfl
      subst z2
      have ho:cT=[]:=by rw[z1]at e2;exact List.length_eq_zero_iff.1 e2
      have:=run_append_nil (P:=P) w t ty T info z hu g1 g4 ⟨b',0,none⟩ xs.length c' news (by rw[n1,g2,h1,Nat.mul_one]) (fun j u hj=>by rw[Addr.add_lit];exact n2 j u hj) hpos qO (by rw[g3];rw[Nat.add_mul]at hr1;omega)
      rw[z1]
      simp only[Nat.zero_add]
      exact⟨_,by simp[ho],this⟩
     |some x=>
      have:=run_append_grow (P:=P) w t ty T info z hu g1 g4 x es.length cap cT (by rw[e2,g2,h1,Nat.mul_one]) (fun j v hj=>by obtain⟨x',h1,h2⟩:=e3 j v hj;cases h1;exact h2) ⟨b',0,none⟩ xs.length c' news (by rw[n1,g2,h1,Nat.mul_one]) (fun j u hj=>by rw[Addr.add_lit];exact n2 j u hj) e4 qO
       (growslice_fits e4 (by rw[g3];exact hr1))
      exact⟨_,qS,this⟩
    obtain⟨arr,harr,hr⟩:=hr
    rw[hr]
    obtain⟨f1,f2⟩:=fresh es cT cap (a8 L hd .dead) hkill hkfree hfree hLL q1 hem e2 e6 arr harr
    exact⟨_,_,F,_,hk,f1,f2,fun k hk=>hmen k hk⟩
   rcases hs.iV with⟨b,o,cc,hb',hcl,hcm,ho,rfl⟩|⟨ad,hb',_,hz,rfl,ha⟩
   rotate_left
   ·have he:es=[]:=List.length_eq_zero_iff.1 hz
    exact grow ad 0 [] (by rw[hz]) (by simp[he]) qS qO (fun _=>⟨hz,rfl⟩) (by simp[he])
   ·obtain⟨arr,p1,p2,p3,p4⟩:∃arr,(β hd).1=some b/\w.heap[b]?=some (.cells arr T (0,0))/\arr.size=(β hd).2/\∀(q:Nat) c v,es[q]?=some c->arr[q]?=some v->VR w (aM E.bW F) β c v:=by
     rcases q3 with q3|⟨b',arr,g1,g2,g3,g4⟩
     ·rw[q3.1]at hb';cases hb'
     ·rw[g1]at hb';cases hb';exact⟨arr,g1,g2,g3,g4⟩
    have hle:es.length<=arr.size:=qO
    by_cases hroomc:es.length+xs.length<=cc
    ·have hroom:es.length+xs.length<=(β hd).2:=qO
     have ho:=ho qO
     simp only[Nat.zero_mul]at ho
     subst ho
     have hle2:es.length+news.length<=arr.size:=qO
     have hr:=run_append_room (P:=P) w t ty T info hu g1 b es.length cc arr p2 ⟨b',0,none⟩ xs.length c' news (by rw[n1,g2,h1,Nat.mul_one]) (fun j u hj=>by rw[Addr.add_lit];exact n2 j u hj) n3 qO (by rw[g2,h1,Nat.mul_one];exact hle2)
     rw[hr]
     rw[g2,h1,Nat.mul_one]
     have hw:=h.write (w':=w.setRow b (arr.toList.take es.length++news++arr.toList.drop (es.length+news.length)).toArray) (.rows T (es++xs)) hd rfl rfl rfl qS p1 (fun b' hb'=>setRow_other w b b' _ hb') hlv
      ⟨fun e he=>(List.mem_append.1 he).elim (q1 e) (x1 e),by simpa using hroom,.inr ⟨b,_,p1,setRow_heap w b arr _ T _ p2,by simp;omega,fun q c v e1 e3=>h.A7 hlv p1 _ (by
       simp only[List.getElem?_toArray]at e3
       rw[dW _ _ _ _ (by simpa using hle2)]at e3
       by_cases hq:q<es.length
       ·rw[List.getElem?_append_left hq]at e1
        rw[if_pos hq]at e3
        exact p4 q c v e1 (by simpa using e3)
       ·rw[List.getElem?_append_right qO]at e1
        have hq2:=(List.getElem?_eq_some_iff.1 e1).1
        rw[if_neg hq,if_pos qO]at e3
        exact n4 (q-es.length) c v e1 e3)⟩⟩ trivial (fun j hj=>by
         obtain⟨c,hc,hj⟩:=oZ hj
         exact(List.mem_append.1 hc).elim (fun hc=>hem c hc j hj) (fun hc=>hxm c hc j hj))
     have htr:=hw.Et hd base T (es++xs) (by rw[aj _ _ (Ne.symm hne)];exact hfree) (ah _ _ _)
     have hLe:a8 (a8 (a8 L hd (.rows T (es++xs))) hd .dead) base (.rows T (es++xs))=a8 (a8 L hd .dead) base (.rows T (es++xs)):=by
      funext k
      simp only[a8]
      split
      ·rfl
      ·split<;>rfl
     rw[hLe]at htr
     refine⟨_,_,F,_,hk,htr,?_,fun k hk=>hmen k hk⟩
     have:=VR.vec (w:=w.setRow b (arr.toList.take es.length++news++arr.toList.drop (es.length+news.length)).toArray) (FB:=aM E.bW F) (β:=a8 β base (β hd)) (h:=base) (W:=1) (off:=0) (len:=es.length+xs.length) (b:=b) (o:=0) (c:=cc) (by rw[ah];exact hb') hroomc (by rw[ah];exact hcm) (by intro _;simp)
     exact this
    ·refine grow _ _ (arr.toList.take es.length) rfl (by simp;omega) (fun j u hj=>⟨_,rfl,?_⟩) qO (fun e=>by cases e) (fun q c v e1 e3=>?_)
     ·have hjl:=(List.getElem?_eq_some_iff.1 hj).1
      simp only[List.length_take,Array.length_toList]at hjl
      have ho:=ho qO
      simp only[Nat.zero_mul]at ho
      subst ho
      rw[List.getElem?_take_of_lt qO]at hj
      rw[Addr.add_lit]
      simp only[World.cell?,p2,Nat.zero_add]
      simpa using hj
     ·have hq:=(List.getElem?_eq_some_iff.1 e1).1
      rw[List.getElem?_take_of_lt hq]at e3
      exact p4 q c v e1 (by simpa using e3)
  ·exact hk.elim
 ·exact hk.elim
end
end
section
section
variable {P:Program} {Γ:oy} {E:Env} {n:Nat} {s:Nat->AV} {L:Hd->aA} {a:Act} {w:World} {F:Nat->Prop} {β:Hd->Option Nat×Nat} {K:AV->List (Hd×aA)->Prop}
 {W:Operand->(AV->Prop)->Prop} {LK:Hd->(aA->Prop)->Prop} {wr:FuncId->Bool} {base:Nat}
theorem vW (h:cC E n s L a w F β) {hd:Hd} {T:TypeId} {Wd:Nat} {es ys:List PV} {v:AV} {x:Value} (hB:L hd= .vec T Wd es) (h0:Wd≠0) {len:Nat} (hlen:len<=es.length) {b o:Nat} (hb:(β hd).1=some b) (ho:len≠0->o=0*Wd)
  (hys:ys.length<=len) (hel:∀e∈ys,e.cells.length=Wd/\∀c∈e.cells,c.one=true) (news:List Value) (hn:news.length=ys.length*Wd) (h1:∀u∈news,u.oneCell'=true)
  (hr:∀(i:Nat) e (j:Nat) c v,ys[i]?=some e->e.cells[j]?=some c->news[i*Wd+j]?=some v->PR w (aM E.bW F) c v) (hk:K v [(hd,.vec T Wd (ys++es.drop ys.length))]) (hv:∀w' FB β',VR w' FB β' v x) (hm:∀k,¬v.aT k):
  ∃w',(storeCells ⟨b,o,none⟩ news).run P w= .ok () w'/\Out P E n s L a K (.ok x w'):=by
 have hbk:=h.d4 hd
 rw[hB]at hbk
 obtain⟨q1,q2,q3⟩:=hbk
 obtain⟨arr,p1,p2,p3,p4⟩:∃arr,(β hd).1=some b/\w.heap[b]?=some (.cells arr T (0,0))/\arr.size=(β hd).2*Wd/\∀(q:Nat) e (j:Nat) c v,es[q]?=some e->e.cells[j]?=some c->arr[q*Wd+j]?=some v->PR w (aM E.bW F) c v:=by
  rcases q3 with q3|⟨b',arr,g1,g2,g3,g4⟩
  ·rw[q3.1]at hb;cases hb
  ·rw[g1]at hb;cases hb;exact⟨arr,g1,g2,g3,g4⟩
 have hlv:(L hd).live:=by rw[hB];trivial
 by_cases hy:ys=[]
 ·subst hy
  have hn0:news=[]:=List.length_eq_zero_iff.1 (by simpa using hn)
  subst hn0
  simp only[List.nil_append,List.length_nil,List.drop_zero]at hk
  refine⟨w,rfl,?_⟩
  have hw:=h.write (w':=w) (.vec T Wd es) hd rfl rfl rfl rfl p1 (fun _ _=>rfl) hlv (by have:=h.d4 hd;rw[hB]at this;exact this) trivial (fun j hj=>hj.elim)
  exact⟨v,_,F,β,hk,hw,hv _ _ _,fun k hk=>(hm k hk).elim⟩
 ·have hpos:0<ys.length:=List.length_pos_iff.2 hy
  have ho:=ho qO
  simp only[Nat.zero_mul]at ho
  subst ho
  have hle:news.length<=arr.size:=by rw[hn,p3];exact Nat.mul_le_mul_right _ qO
  have hst:=run_storeCells_at P b 0 T news 0 arr w p2 (by simpa using hle) h1
  refine⟨_,hst,?_⟩
  simp only[Nat.add_zero,Nat.zero_add,List.take_zero,List.nil_append]
  have hw:=h.write (w':=w.setRow b (news++arr.toList.drop news.length).toArray) (.vec T Wd (ys++es.drop ys.length)) hd rfl rfl rfl qS p1 (fun b' hb'=>setRow_other w b b' _ hb') hlv
   ⟨fun e he=>(List.mem_append.1 he).elim (hel e) (fun h=>q1 e (List.mem_of_mem_drop h)),by simp;omega,.inr ⟨b,_,p1,setRow_heap w b arr _ T _ p2,by simp;omega,fun q e j c v e1 e2 e3=>h.Cc hlv p1 _ (by
    have hj:j<Wd:=by rw[<-((List.mem_append.1 (List.mem_of_getElem? e1)).elim (hel e) (fun h=>q1 e (List.mem_of_mem_drop h))).1];exact(List.getElem?_eq_some_iff.1 e2).1
    simp only[List.getElem?_toArray]at e3
    by_cases hq:q<ys.length
    ·rw[List.getElem?_append_left hq]at e1
     have:(q+1)*Wd<=ys.length*Wd:=Nat.mul_le_mul_right _ qO
     rw[Nat.add_mul]at this
     rw[List.getElem?_append_left (by rw[hn];omega)]at e3
     exact hr q e j c v e1 e2 e3
    ·rw[List.getElem?_append_right qO,List.getElem?_drop]at e1
     have h1:ys.length*Wd<=q*Wd:=Nat.mul_le_mul_right _ qO
     rw[List.getElem?_append_right (by rw[hn];omega),List.getElem?_drop]at e3
     have e4:ys.length+(q-ys.length)=q:=qO
     rw[e4]at e1
     exact p4 q e j c v e1 e2 (by rw[<-e3];simp;congr 1;omega))⟩⟩ trivial (fun j hj=>hj.elim)
  exact⟨v,_,F,β,hk,hw,hv _ _ _,fun k hk=>(hm k hk).elim⟩
theorem cond_not {c:Bool} {A:Prop} (h:cond c A False):c=true/\A:=by
 cases c with
 |false=>exact h.elim
 |true=>exact⟨rfl,h⟩
theorem Ge (hΓ:gW P Γ) (hL:∀h K,LK h K->K (L h)) (h:cC E n s L a w F β) {t ty:TypeId} {t2:List TypeId} {hd:Hd} {Wd len:Nat} {vx:AV} {av ax:Value} (hs:VR w (aM E.bW F) β (.vec hd Wd 0 len) av) (hx:VR w (aM E.bW F) β vx ax)
  (hk:D2 Γ LK t (.vec hd Wd 0 len) vx K) (ts:Array TypeId) (hts:ts[0]?=some t):Out P E n s L a K ((Builtin.copy_ ts ty #[av,ax]).run P w):=by
 simp only[D2]at hk
 obtain⟨hnv,hk⟩:=cond_not hk
 have hk:=hL hd _ hk
 generalize hB:L hd=B at hk
 split at hk
 ·rename_i T W' es
  obtain⟨e,i,hu,hi,hk⟩:=fw hΓ hk
  obtain⟨hWd,h2,hK⟩:=lW hk
  subst hWd
  simp only[Bool.and_eq_true]at h2
  have h3:=Nat.eq_of_beq_eq_true h2.1
  have h0:i.size≠0:=by have:=Nat.le_of_ble_eq_true h2.2;omega
  subst h3
  obtain⟨hlen,hK⟩:=hK
  obtain⟨xs,hK,hsrc⟩:=m6 hL h hx hK
  obtain⟨es',hes,z,hz,hK⟩:=hK
  subst hes
  subst hz
  have hsz:=dG hΓ hi w
  have hn:min xs.length len=(xs.take len).length:=by simp;omega
  rw[hn]at hK
  have hval:∃ad c,ax= .slice ad xs.length c/\∃news:List Value,news.length=(xs.take len).length*i.size/\(Builtin.firstCells i.size (xs.take len).length ax).run P w= .ok news.toArray w/\(∀u∈news,u.oneCell'=true)/\
    (∀e∈xs,e.cells.length=i.size/\∀c∈e.cells,c.one=true)/\
    ∀(q:Nat) e (j:Nat) c v,(xs.take len)[q]?=some e->e.cells[j]?=some c->news[q*i.size+j]?=some v->PR w (aM E.bW F) c v:=by
   have nothing:∀ad c,ax= .slice ad 0 c->(Builtin.firstCells i.size 0 ax).run P w= .ok #[] w:=by
    intro ad c e
    subst e
    cases ad with
    |none=>simp[Builtin.firstCells]
    |some x=>simp[Builtin.firstCells,loadCells,loadCellsFrom]
   rcases hsrc with⟨e,ad,c,e'⟩|⟨⟨ad,c,e,hsrc⟩,hel⟩
   ·subst e
    exact⟨ad,c,e',[],qS,by simpa using nothing ad c e',qS,qS,qS⟩
   ·by_cases hxs:xs=[]
    ·subst hxs
     exact⟨ad,c,e,[],qS,by simpa using nothing ad c e,qS,qS,qS⟩
    ·obtain⟨b',off',news,rfl,n1,n2,n3,n4⟩:=hsrc hxs
     have hl1:(xs.take len).length*i.size<=news.length:=by rw[n1];exact Nat.mul_le_mul_right _ (by simp;omega)
     refine⟨_,c,e,news.take ((xs.take len).length*i.size),by rw[List.length_take];omega,?_,fun u hu=>n3 u (List.mem_of_mem_take hu),hel,fun q e j c v e1 e2 e3=>?_⟩
     ·rw[e]
      exact run_firstCells_some (P:=P) w i.size _ _ _ _ _ (by rw[List.length_take];omega) (fun j v hj=>by
       have hjl:=(List.getElem?_eq_some_iff.1 hj).1
       rw[List.length_take]at hjl
       rw[List.getElem?_take_of_lt qO]at hj
       rw[Addr.add_lit];exact n2 j v hj)
     ·have hq:=(List.getElem?_eq_some_iff.1 e1).1
      have hq':q<len:=by simp at hq;omega
      rw[List.getElem?_take_of_lt hq']at e1
      have hj:j<i.size:=by rw[<-(hel e (List.mem_of_getElem? e1)).1];exact(List.getElem?_eq_some_iff.1 e2).1
      have:(q+1)*i.size<=(xs.take len).length*i.size:=Nat.mul_le_mul_right _ qO
      rw[Nat.add_mul]at this
      rw[List.getElem?_take_of_lt qO]at e3
      exact n4 q e j c v e1 e2 e3
  obtain⟨ad,c,e,news,n1,n2,n3,hel,n4⟩:=hval
  have hmin:Nat.min xs.length len=(xs.take len).length:=hn
  rcases hs.iV with⟨b,o,cc,hb',hcl,hcm,ho,rfl⟩|⟨ad',hb',_,hz,rfl,ha⟩
  ·obtain⟨w',hst,hout⟩:=vW (P:=P) (K:=K) h hB h0 (len:=len) qO hb' (fun _=>ho qO) (ys:=xs.take len) (by simp;omega) (fun e he=>hel e (List.mem_of_mem_take he)) news n1 n3 n4 hK (x:=.int .i64 ((xs.take len).length:Int)) (fun _ _ _=>.p (.int _ _)) (fun k hk=>by simp only[AV.aT]at hk)
   rw[e]at n2⊢
   have hr:(Builtin.copy_ ts ty #[.slice (some ⟨b,o,none⟩) len cc,.slice ad xs.length c]).run P w= .ok (.int .i64 ((xs.take len).length:Int)) w':=by
    have n2':(Builtin.firstCells i.size (min len xs.length) (.slice ad xs.length c)).run P w= .ok news.toArray w:=by simpa using n2
    simp only[Builtin.copy_,hts]
    simp[run_underlying hu,hsz,Builtin.lenOf,hmin,n2',hst,goInt]
   rw[hr];exact hout
  ·subst hz
   simp only[List.take_zero,List.length_nil]at hK n2 hmin
   rw[e]at n2⊢
   have hn0:news=[]:=List.length_eq_zero_iff.1 (by simpa using n1)
   subst hn0
   have hbk:=h.d4 hd
   rw[hB]at hbk
   have hes:es=[]:=by
    have:(β hd).2=0:=by
     rcases hbk.2.2 with h|⟨_,_,h,_⟩
     ·exact h.2
     ·rw[hb']at h;cases h
    exact List.length_eq_zero_iff.1 (by have:=hbk.2.1;omega)
   have hst:∀ad',(match ad' with|some x=>storeCells x []|none=>pure ():Sem Unit).run P w= .ok () w:=by intro ad';cases ad'<;>rfl
   have hr:(Builtin.copy_ ts ty #[.slice ad' 0 0,.slice ad xs.length c]).run P w= .ok (.int .i64 0) w:=by
    simp only[Builtin.copy_,hts]
    cases ad'<;>simp[run_underlying hu,hsz,Builtin.lenOf,n2,goInt,storeCells,Nat.min_zero]
   rw[hr]
   subst hes
   simp only[List.nil_append,List.drop_nil]at hK
   have hlv:(L hd).live:=by rw[hB];trivial
   have hLe:a8 L hd (.vec T i.size [])=L:=by
    funext k;simp only[a8];split
    ·subst_vars;exact hB.symm
    ·rfl
   exact⟨_,_,F,β,hK,by show cC E n s (a8 L hd (.vec T i.size [])) a w F β;rw[hLe];exact h,.p (.int _ _),fun k hk=>by simp only[AV.aT]at hk⟩
 ·exact hk.elim
theorem Ft (hΓ:gW P Γ) (hL:∀h K,LK h K->K (L h)) (h:cC E n s L a w F β) {t ty:TypeId} {t2:List TypeId} {hd:Hd} {Wd len:Nat} {av:Value} (hs:VR w (aM E.bW F) β (.vec hd Wd 0 len) av)
  (hk:wC Γ LK t (.vec hd Wd 0 len) K) (ts:Array TypeId) (hts:ts[0]?=some t):Out P E n s L a K ((Builtin.clear_ ts ty #[av]).run P w):=by
 simp only[wC]at hk
 have hk:=hL hd _ hk
 generalize hB:L hd=B at hk
 split at hk
 ·rename_i T W' es
  obtain⟨e,i,hu,hi,hk⟩:=fw hΓ hk
  obtain⟨hWd,h2,hK⟩:=lW hk
  subst hWd
  simp only[Bool.and_eq_true]at h2
  have h3:=Nat.eq_of_beq_eq_true h2.1
  have h0:i.size≠0:=by have:=Nat.le_of_ble_eq_true h2.2;omega
  subst h3
  obtain⟨hlen,hK⟩:=hK
  obtain⟨z,hK,hz⟩:=yw hΓ hi hK
  obtain⟨es',hes,hK⟩:=hK
  subst hes
  obtain⟨zv,z1,z2,z3,z4⟩:=oT hΓ hi
  have hzl:z.cells.length=i.size:=by rw[hz,z3]
  have hzo:∀c∈z.cells,c.one=true:=fun c hc=>(hΓ e i hi).plain c (by rw[<-hz];exact hc)
  have same:len=0->Out P E n s L a K (.ok Go.undef w):=by
   intro e0
   subst e0
   simp only[List.replicate_zero,List.nil_append,List.drop_zero]at hK
   have hLe:a8 L hd (.vec T i.size es)=L:=by
    funext k;simp only[a8];split
    ·subst_vars;exact hB.symm
    ·rfl
   exact⟨_,_,F,β,hK,by show cC E n s (a8 L hd (.vec T i.size es)) a w F β;rw[hLe];exact h,.undef,fun k hk=>by simp only[AV.aT]at hk⟩
  rcases hs.iV with⟨b,o,cc,hb',hcl,hcm,ho,rfl⟩|⟨ad',hb',_,hz,rfl,ha⟩
  ·by_cases e0:len=0
   ·have hr:(Builtin.clear_ ts ty #[.slice (some ⟨b,o,none⟩) len cc]).run P w= .ok Go.undef w:=by
     subst e0
     simp[Builtin.clear_,hts,run_underlying hu,Go.undef]
    rw[hr];exact same e0
   ·have hzn:(Builtin.zeroCells zv.cells len).toList.length=len*i.size:=by simp[size_zeroCells,z2]
    have zget:∀k,k<len*i.size->(Builtin.zeroCells zv.cells len).toList[k]?=some (zv.cells[k%i.size]!):=by
     intro k hk
     simp[Builtin.zeroCells,z2,hk]
    have hpos:0<i.size:=Nat.pos_of_ne_zero h0
    have zin:∀o,o<i.size->zv.cells[o]?=some (zv.cells[o]!):=fun o ho=>by simp[z2,ho]
    obtain⟨w',hst,hout⟩:=vW (P:=P) (K:=K) h hB h0 (len:=len) qO hb' (fun _=>ho qO) (ys:=List.replicate len z) qS (fun e he=>by rw[List.eq_of_mem_replicate he];exact⟨hzl,hzo⟩) (Builtin.zeroCells zv.cells len).toList (by rw[hzn];simp)
     (fun u hu=>by
      obtain⟨k,hk⟩:=List.getElem?_of_mem hu
      have hkl:k<len*i.size:=by rw[<-hzn];exact(List.getElem?_eq_some_iff.1 hk).1
      rw[zget k hkl]at hk
      cases hk
      have hm:=Nat.mod_lt k hpos
      have hzc:i.zero[k%i.size]?=some (i.zero[k%i.size]'(by rw[z3];exact hm)):=List.getElem?_eq_getElem _
      exact(z4 w (aM E.bW F) _ _ _ hzc (zin _ hm)).gG ((hΓ e i hi).plain _ (List.getElem_mem _)))
     (fun q e' j c v e1 e2 e3=>by
      have he':e'=z:=List.eq_of_mem_replicate (List.mem_of_getElem? e1)
      subst he'
      have hj:j<i.size:=by rw[<-hzl];exact(List.getElem?_eq_some_iff.1 e2).1
      have hq:q<len:=by simpa using(List.getElem?_eq_some_iff.1 e1).1
      have hlt:q*i.size+j<len*i.size:=by
       have:(q+1)*i.size<=len*i.size:=Nat.mul_le_mul_right _ qO
       rw[Nat.add_mul]at this;omega
      rw[zget _ hlt,Nat.mul_comm,Nat.mul_add_mod,Nat.mod_eq_of_lt hj]at e3
      cases e3
      rw[hz]at e2
      exact z4 w _ j c _ e2 (zin _ hj)) (by simpa using hK) (x:=Go.undef) (fun _ _ _=>.undef) (fun k hk=>by simp only[AV.aT]at hk)
    have hr:(Builtin.clear_ ts ty #[.slice (some ⟨b,o,none⟩) len cc]).run P w= .ok Go.undef w':=by
     cases len with
     |zero=>exact(e0 rfl).elim
     |succ q=>simp[Builtin.clear_,hts,run_underlying hu,z1,hst,Go.undef]
    rw[hr];exact hout
  ·have hr:(Builtin.clear_ ts ty #[.slice ad' 0 0]).run P w= .ok Go.undef w:=by
    cases ad'<;>simp[Builtin.clear_,hts,run_underlying hu,Go.undef]
   rw[hr];exact same hz
 ·exact hk.elim
theorem mF (h:cC E n s L a w F β) (hW:∀x K,W x K->K (cL s x)):∀(xs:List Operand) (K':List AV->Prop),gg W xs K'->K' (xs.map (cL s)):=by
 intro xs
 induction xs with
 |nil=>intro K' h;exact h
 |cons x xs ih=>intro K' h;exact ih _ (hW x _ h)
theorem VR.O2 {w FB β} {m:Bool} {Wd:Nat} {es:List PV} {x:Value} (h:VR w FB β (.p (.sl m Wd es)) x):∃b c,x= .slice b es.length c:=by
 cases h with|p h=>
 cases h with
 |nil=>exact⟨_,_,rfl⟩
 |sl=>exact⟨_,_,rfl⟩
theorem VR.Ld {w FB β} {hd:Hd} {Wd off len:Nat} {x:Value} (h:VR w FB β (.vec hd Wd off len) x):∃b c,x= .slice b len c:=by
 cases h with
 |vec=>exact⟨_,_,rfl⟩
 |jZ=>exact⟨_,_,rfl⟩
theorem VR.NI {w FB β} {x:Value} (h:VR w FB β .emp x):∃b c,x= .slice b 0 c:=by
 cases h with
 |lu=>exact⟨_,_,rfl⟩
 |emp=>exact⟨_,_,rfl⟩
theorem Ab {b:Builtin} (hΓ:gW P Γ) (hW:∀x K,W x K->K (cL s x)) (hL:∀h K,LK h K->K (L h)) (h:cC E n s L a w F β) (hf:∀v ups,K v ups->∀x∈ups,base<=x.1.key->fZ L x.1.key) {xs:Array Operand} {ts:Array TypeId} {ty:TypeId}
  {cs:Array Bool} (hk:aR Γ P wr W LK L base (.call ⟨.builtin b,xs,ts⟩) K):
  ∃v w',(builtin b ts ty cs (xs.map a.eval)).run P w= .ok (.value v) w'/\Out P E n s L a K (.ok v w'):=by
 simp only[aR]at hk
 have hk:=mF h hW _ _ hk
 have hvs:∀(i:Nat) c v,(xs.toList.map (cL s))[i]?=some c->(xs.toList.map a.eval)[i]?=some v->VR w (aM E.bW F) β c v:=by
  intro i c v e1 e2
  simp only[List.getElem?_map]at e1 e2
  cases e:xs.toList[i]? with
  |none=>rw[e]at e1;cases e1
  |some x=>rw[e]at e1 e2;cases e1;cases e2;exact h.ev x
 have hxs:xs.map a.eval=(xs.toList.map a.eval).toArray:=by cases xs;simp
 have hts:ts=ts.toList.toArray:=Array.toArray_toList.symm
 rw[hxs,hts]
 generalize ts.toList=tl at hk
 have hlen:(xs.toList.map (cL s)).length=(xs.toList.map a.eval).length:=qS
 generalize xs.toList.map (cL s)=vs at hk hvs hlen
 generalize xs.toList.map a.eval=as' at hvs hlen
 have fin:∀r:Result Value,Out P E n s L a K r->∃v w',r= .ok v w':=by
  intro r hr
  cases r with
  |ok v w'=>exact⟨v,w',rfl⟩
  |halt=>exact hr.elim
 have done:∀sm:Sem Value,Out P E n s L a K (sm.run P w)->∃v w',(do pure (.value (<-sm)):Sem Next).run P w= .ok (.value v) w'/\Out P E n s L a K (.ok v w'):=by
  intro sm hr
  obtain⟨v,w',e⟩:=fin _ hr
  exact⟨v,w',by simp[e],by rw[e]at hr;exact hr⟩
 have one:∀{c:AV},vs=[c]->∃v,as'=[v]/\VR w (aM E.bW F) β c v:=by
  intro c e
  subst e
  match as',hlen with
  |[v],_=>exact⟨v,rfl,hvs 0 c v rfl rfl⟩
 have two:∀{c d:AV},vs=[c,d]->∃v u,as'=[v,u]/\VR w (aM E.bW F) β c v/\VR w (aM E.bW F) β d u:=by
  intro c d e
  subst e
  match as',hlen with
  |[v,u],_=>exact⟨v,u,rfl,hvs 0 c v rfl rfl,hvs 1 d u rfl rfl⟩
 unfold mg at hk
 split at hk
 ·obtain⟨v,rfl,hv⟩:=one rfl
  split at hk
  ·rename_i t _
   split at hk
   ·
    replace hv:=hv.vh
    revert hv hk
    generalize vh _=x'
    intro hk hv
    unfold Pl at hk
    obtain⟨e,i,hu,hi,hk⟩:=fw hΓ hk
    refine done (Builtin.len_ _ ty _) ?_
    have hl:∀b l c,v= .slice b l c->(Builtin.len_ (t::‹List TypeId›).toArray ty #[v]).run P w= .ok (.int .i64 (l:Int)) w:=by
     intro b l c e
     subst e
     simp[Builtin.len_,run_underlying hu,goInt]
    split at hk
    ·obtain⟨b,c,e⟩:=hv.O2
     obtain⟨z,hz,hk⟩:=hk
     rw[hl _ _ _ e,hz];exact Out.int h hk
    ·obtain⟨b,c,e⟩:=hv.Ld
     obtain⟨z,hz,hk⟩:=hk
     rw[hl _ _ _ e,hz];exact Out.int h hk
    ·obtain⟨b,c,e⟩:=hv.NI
     rw[hl _ _ _ e];exact Out.int h hk
    ·exact hk.elim
   ·
    refine done (Builtin.clear_ _ ty _) ?_
    have hk0:=hk
    unfold wC at hk
    split at hk
    ·exact Ft (t2:=[]) hΓ hL h hv hk0 _ qS
    ·exact hk.elim
   ·exact hk.elim
  ·exact hk.elim
 ·obtain⟨v,u,rfl,hv,hu'⟩:=two rfl
  split at hk
  ·split at hk
   ·refine done (Builtin.max_ _ ty _) ?_
    unfold Lw at hk
    split at hk
    ·split at hk
     ·obtain rfl:=hv.intOf
      obtain rfl:=hu'.intOf
      obtain⟨z,hz,hk⟩:=hk
      simp[Builtin.max_,Builtin.max2,hz]
      exact Out.int h hk
     ·exact hk.elim
    ·exact hk.elim
   ·refine done (Builtin.min_ _ ty _) ?_
    unfold Lw at hk
    split at hk
    ·split at hk
     ·obtain rfl:=hv.intOf
      obtain rfl:=hu'.intOf
      obtain⟨z,hz,hk⟩:=hk
      simp[Builtin.min_,Builtin.min2,hz]
      exact Out.int h hk
     ·exact hk.elim
    ·exact hk.elim
   ·refine done (Builtin.append_ _ ty _) ?_
    rcases EZ hk with⟨hc,hK⟩|⟨_,hk⟩
    ·simp only[Bool.and_eq_true]at hc
     have ht:=Nat.eq_of_beq_eq_true hc.1
     subst ht
     obtain rfl:=List.isEmpty_iff.1 hc.2
     obtain⟨e,i,hu,hi,hK⟩:=fw hΓ hK
     exact yS hΓ hL h hf hu hi hv.vh hu' hK
    ·exact hk.elim
   ·refine done (Builtin.copy_ _ ty _) ?_
    have hk0:=hk
    unfold D2 at hk
    split at hk
    ·exact Ge (t2:=[]) hΓ hL h hv hu' hk0 _ qS
    ·exact hk.elim
   ·exact hk.elim
  ·exact hk.elim
 ·exact hk.elim
end
end
theorem AV.bP (ρ:Hd->Hd) (cs:List AV):AV.de ρ cs=cs.map (AV.dm ρ):=by
 induction cs with
 |nil=>rfl
 |cons c cs ih=>simp only[AV.de,ih,List.map_cons]
theorem AV.m5 (ρ:Hd->Hd) (c:AV):(c.dm ρ).one=c.one:=by cases c<;>rfl
theorem AV.dN {cs:List AV} {k:Hd}:AV.bm cs k↔∃c∈cs,c.aT k:=by
 induction cs with
 |nil=>simp[AV.bm]
 |cons c cs ih=>simp[AV.bm,ih]
theorem VR.dm {w FB} {β β':Hd->Option Nat×Nat} {ρ:Hd->Hd} {c:AV} {v:Value} (h:VR w FB β c v):(∀k,c.aT k->β' (ρ k)=β k)->VR w FB β' (c.dm ρ) v:=by
 induction h with
 |any v=>exact fun _=>.any v
 |undef=>exact fun _=>.undef
 |tf b=>exact fun _=>.tf b
 |lu=>exact fun _=>.lu
 |emp ad=>exact fun _=>.emp ad
 |rB h=>exact fun _=>.rB h
 |p h=>exact fun _=>.p h
 |aC hb=>exact fun H=>.aC (by rw[H _ rfl];exact hb)
 |dO hb=>exact fun H=>.dO (by rw[H _ rfl];exact hb)
 | @vec h W off len b o c hb hc hm ho=>intro H;have:=H h rfl;rw[<-this]at hb hm;exact .vec hb hc hm ho
 |jZ a hb=>exact fun H=>.jZ a (by rw[H _ rfl];exact hb)
 |map hb=>exact fun H=>.map (by rw[H _ rfl];exact hb)
 |agg cs vs hone hl _ ih=>
  intro H
  simp only[AV.dm,AV.bP]
  refine .agg _ vs (fun c hc=>by obtain⟨d,hd,rfl⟩:=List.mem_map.1 hc;rw[AV.m5];exact hone d hd) (by simpa using hl) fun i c v e1 e2=>?_
  rw[List.getElem?_map]at e1
  cases e:cs[i]? with
  |none=>rw[e]at e1;cases e1
  |some d=>rw[e]at e1;cases e1;exact ih i d v e e2 fun k hk=>H k (by simp only[AV.aT];exact AV.bj (List.mem_of_getElem? e) hk)
 |bK cs vs hl _ ih=>
  intro H
  simp only[AV.dm,AV.bP]
  refine .bK _ vs (by simpa using hl) fun i c v e1 e2=>?_
  rw[List.getElem?_map]at e1
  cases e:cs[i]? with
  |none=>rw[e]at e1;cases e1
  |some d=>rw[e]at e1;cases e1;exact ih i d v e e2 fun k hk=>H k (by simp only[AV.aT];exact AV.bj (List.mem_of_getElem? e) hk)
 |fn f first caps fs vs hfl _ hl _ ih1 ih2=>
  intro H
  simp only[AV.dm,AV.bP]
  refine .fn f _ _ fs vs (by simpa using hfl) (fun i c v e1 e2=>?_) (by simpa using hl) (fun i c v e1 e2=>?_)
  ·rw[List.getElem?_map]at e1
   cases e:first[i]? with
   |none=>rw[e]at e1;cases e1
   |some d=>rw[e]at e1;cases e1;exact ih1 i d v e e2 fun k hk=>H k (by simp only[AV.aT];exact .inl (AV.bj (List.mem_of_getElem? e) hk))
  ·rw[List.getElem?_map]at e1
   cases e:caps[i]? with
   |none=>rw[e]at e1;cases e1
   |some d=>rw[e]at e1;cases e1;exact ih2 i d v e e2 fun k hk=>H k (by simp only[AV.aT];exact .inr (AV.bj (List.mem_of_getElem? e) hk))
theorem VR.sU {w FB} {β:Hd->Option Nat×Nat} {ρ:Hd->Hd} {c d:AV} {v:Value} (h:VR w FB β d v):d=c.dm ρ->VR w FB (fun k=>β (ρ k)) c v:=by
 have sub:∀{cs ds:List AV},ds=AV.de ρ cs->∀{i:Nat} {x:AV},cs[i]?=some x->ds[i]?=some (x.dm ρ):=by
  intro cs ds e i x hx
  rw[e,AV.bP,List.getElem?_map,hx];rfl
 induction h generalizing c with
 |any v=>intro e;cases c<;>simp[AV.dm]at e;exact .any v
 |undef=>intro e;cases c<;>simp[AV.dm]at e;exact .undef
 |tf b=>intro e;cases c<;>simp[AV.dm]at e;subst e;exact .tf _
 |lu=>intro e;cases c<;>simp[AV.dm]at e;exact .lu
 |emp ad=>intro e;cases c<;>simp[AV.dm]at e;exact .emp ad
 |rB h=>intro e;cases c<;>simp[AV.dm]at e;obtain⟨rfl,rfl,rfl⟩:=e;exact .rB h
 |p h=>intro e;cases c<;>simp[AV.dm]at e;subst e;exact .p h
 |aC hb=>intro e;cases c<;>simp[AV.dm]at e;obtain⟨rfl,rfl⟩:=e;exact .aC hb
 |dO hb=>intro e;cases c<;>simp[AV.dm]at e;obtain⟨rfl,rfl,rfl,rfl⟩:=e;exact .dO hb
 |vec hb hc hm ho=>intro e;cases c<;>simp[AV.dm]at e;obtain⟨rfl,rfl,rfl,rfl⟩:=e;exact VR.vec (β:=fun k=>β (ρ k)) hb hc hm ho
 |jZ a hb=>intro e;cases c<;>simp[AV.dm]at e;obtain⟨rfl,rfl,rfl,rfl⟩:=e;exact .jZ a hb
 |map hb=>intro e;cases c<;>simp[AV.dm]at e;subst e;exact .map hb
 |agg ds vs hone hl _ ih=>
  intro e
  cases c<;>simp[AV.dm]at e
  rename_i cs
  refine .agg cs vs (fun x hx=>?_) (by rw[hl,e,AV.bP,List.length_map]) fun i x v h1 h2=>ih i _ v (sub e h1) h2 rfl
  rw[<-AV.m5 ρ];exact hone _ (by rw[e,AV.bP];exact List.mem_map_of_mem hx)
 |bK ds vs hl _ ih=>
  intro e
  cases c<;>simp[AV.dm]at e
  rename_i cs
  exact .bK cs vs (by rw[hl,e,AV.bP,List.length_map]) fun i x v h1 h2=>ih i _ v (sub e h1) h2 rfl
 |fn f first caps fs vs hfl _ hl _ ih1 ih2=>
  intro e
  cases c<;>simp[AV.dm]at e
  rename_i f' first' caps'
  obtain⟨rfl,e1,e2⟩:=e
  exact .fn _ first' caps' fs vs (by rw[hfl,e1,AV.bP,List.length_map]) (fun i x v h1 h2=>ih1 i _ v (sub e1 h1) h2 rfl) (by rw[hl,e2,AV.bP,List.length_map]) (fun i x v h1 h2=>ih2 i _ v (sub e2 h1) h2 rfl)
theorem AV.pt {ρ:Hd->Hd}:∀{c:AV} {k:Hd},(c.dm ρ).aT k->∃j,c.aT j/\k=ρ j:=by
 have key:∀(m:Nat) (c:AV),SizeOf.sizeOf c<=m->∀k,(c.dm ρ).aT k->∃j,c.aT j/\k=ρ j:=by
  intro m
  induction m with
  |zero=>intro c hc;cases c<;>simp at hc
  |succ m ih=>
   intro c hc k hk
   have list:∀cs:List AV,SizeOf.sizeOf cs<=m->AV.bm (AV.de ρ cs) k->∃j,AV.bm cs j/\k=ρ j:=by
    intro cs hcs hk
    rw[AV.bP,AV.dN]at hk
    obtain⟨d,hd,hk⟩:=hk
    obtain⟨c,hc,rfl⟩:=List.mem_map.1 hd
    have:=List.sizeOf_lt_of_mem hc
    obtain⟨j,h1,h2⟩:=ih c qO k hk
    exact⟨j,AV.bj hc h1,h2⟩
   cases c<;>simp only[AV.dm,AV.aT]at hk
   case aC h o=>exact⟨h,rfl,hk.symm⟩
   case dO h _ _ _=>exact⟨h,rfl,hk.symm⟩
   case vec h _ _ _=>exact⟨h,rfl,hk.symm⟩
   case map h=>exact⟨h,rfl,hk.symm⟩
   case agg cs=>obtain⟨j,h1,h2⟩:=list cs (by simp at hc;omega) hk;exact⟨j,by simpa only[AV.aT]using h1,h2⟩
   case bK cs=>obtain⟨j,h1,h2⟩:=list cs (by simp at hc;omega) hk;exact⟨j,by simpa only[AV.aT]using h1,h2⟩
   case fn f fs cs=>
    rcases hk with hk|hk
    ·obtain⟨j,h1,h2⟩:=list fs (by simp at hc;omega) hk;exact⟨j,by simp only[AV.aT];exact .inl h1,h2⟩
    ·obtain⟨j,h1,h2⟩:=list cs (by simp at hc;omega) hk;exact⟨j,by simp only[AV.aT];exact .inr h1,h2⟩
 exact fun{c k} hk=>key _ c (Nat.le_refl _) k hk
theorem AV.o8 {ρ:Hd->Hd}:∀{c:AV} {k:Hd},c.aT k->(c.dm ρ).aT (ρ k):=by
 have key:∀(m:Nat) (c:AV),SizeOf.sizeOf c<=m->∀k,c.aT k->(c.dm ρ).aT (ρ k):=by
  intro m
  induction m with
  |zero=>intro c hc;cases c<;>simp at hc
  |succ m ih=>
   intro c hc k hk
   have list:∀cs:List AV,SizeOf.sizeOf cs<=m->AV.bm cs k->AV.bm (AV.de ρ cs) (ρ k):=by
    intro cs hcs hk
    rw[AV.dN]at hk
    obtain⟨d,hd,hk⟩:=hk
    have:=List.sizeOf_lt_of_mem hd
    rw[AV.bP,AV.dN]
    exact⟨_,List.mem_map_of_mem hd,ih d qO k hk⟩
   cases c<;>simp only[AV.aT]at hk<;>simp only[AV.dm,AV.aT]
   case aC h o=>rw[hk]
   case dO h _ _ _=>rw[hk]
   case vec h _ _ _=>rw[hk]
   case map h=>rw[hk]
   case agg cs=>exact list cs (by simp at hc;omega) hk
   case bK cs=>exact list cs (by simp at hc;omega) hk
   case fn f fs cs=>
    rcases hk with hk|hk
    ·exact .inl (list fs (by simp at hc;omega) hk)
    ·exact .inr (list cs (by simp at hc;omega) hk)
 exact fun{c k} hk=>key _ c (Nat.le_refl _) k hk
theorem rK.dm {w FB} {β β':Hd->Option Nat×Nat} {ρ:Hd->Hd} {h:Hd} {B:aA} (ho:rK w FB β h B) (hβ:B.live->β' (ρ h)=β h) (hm:∀k,B.aT k->β' (ρ k)=β k):rK w FB β' (ρ h) (B.dm ρ):=by
 cases B with
 |free=>trivial
 |dead=>trivial
 |bu T W rows=>trivial
 |iter m es seen=>
  obtain⟨b,mb,en,clock,sb,h1,h2⟩:=ho
  exact⟨b,mb,en,clock,sb,by rw[hβ trivial];exact h1,h2⟩
 |box T cs=>
  obtain⟨h0,b,arr,h1,h2,h3,h4⟩:=ho
  refine⟨fun c hc=>?_,b,arr,by rw[hβ trivial];exact h1,h2,by rw[h3,AV.bP,List.length_map],fun i c v e1 e2=>?_⟩
  ·rw[AV.bP]at hc
   obtain⟨d,hd,rfl⟩:=List.mem_map.1 hc
   rw[AV.m5];exact h0 d hd
  ·rw[AV.bP,List.getElem?_map]at e1
   cases e:cs[i]? with
   |none=>rw[e]at e1;cases e1
   |some d=>rw[e]at e1;cases e1;exact(h4 i d v e e2).dm fun k hk=>hm k (AV.bj (List.mem_of_getElem? e) hk)
 |vec T W es=>
  obtain⟨h1,h2,h3⟩:=ho
  have e:=hβ trivial
  refine⟨h1,by rw[e];exact h2,?_⟩
  rcases h3 with h3|⟨b,arr,g1,g2,g3,g4⟩
  ·exact .inl (by rw[e];exact h3)
  ·exact .inr ⟨b,arr,by rw[e];exact g1,g2,by rw[e];exact g3,g4⟩
 |map es=>
  obtain⟨b,en,clock,h1,h2⟩:=ho
  exact⟨b,en,clock,by rw[hβ trivial];exact h1,h2⟩
 |rows T cs=>
  obtain⟨h1,h2,h3⟩:=ho
  have e:=hβ trivial
  refine⟨fun c hc=>?_,by rw[e,AV.bP,List.length_map];exact h2,?_⟩
  ·rw[AV.bP]at hc
   obtain⟨d,hd,rfl⟩:=List.mem_map.1 hc
   rw[AV.m5];exact h1 d hd
  rcases h3 with h3|⟨b,arr,g1,g2,g3,g4⟩
  ·exact .inl (by rw[e];exact h3)
  ·refine .inr ⟨b,arr,by rw[e];exact g1,g2,by rw[e];exact g3,fun i c v e1 e2=>?_⟩
   rw[AV.bP,List.getElem?_map]at e1
   cases e':cs[i]? with
   |none=>rw[e']at e1;cases e1
   |some d=>rw[e']at e1;cases e1;exact(g4 i d v e' e2).dm fun k hk=>hm k (AV.bj (List.mem_of_getElem? e') hk)
theorem rK.sU {w FB} {β:Hd->Option Nat×Nat} {ρ:Hd->Hd} {h:Hd} {B:aA} (ho:rK w FB β (ρ h) (B.dm ρ)):rK w FB (fun k=>β (ρ k)) h B:=by
 cases B with
 |free=>trivial
 |dead=>trivial
 |bu T W rows=>trivial
 |iter m es seen=>exact ho
 |box T cs=>
  obtain⟨h0,b,arr,h1,h2,h3,h4⟩:=ho
  have e:=AV.bP ρ cs
  refine⟨fun c hc=>?_,b,arr,h1,h2,by rw[h3,e,List.length_map],fun i c v e1 e2=>?_⟩
  ·rw[<-AV.m5 ρ];exact h0 _ (by rw[e];exact List.mem_map_of_mem hc)
  ·exact(h4 i (c.dm ρ) v (by rw[e,List.getElem?_map,e1];rfl) e2).sU rfl
 |vec T W es=>exact ho
 |map es=>exact ho
 |rows T cs=>
  obtain⟨h1,h2,h3⟩:=ho
  have e:=AV.bP ρ cs
  refine⟨fun c hc=>?_,by rw[e,List.length_map]at h2;exact h2,?_⟩
  ·rw[<-AV.m5 ρ];exact h1 _ (by rw[e];exact List.mem_map_of_mem hc)
  ·rcases h3 with h3|⟨b,arr,g1,g2,g3,g4⟩
   ·exact .inl h3
   ·exact .inr ⟨b,arr,g1,g2,g3,fun i c v e1 e2=>(g4 i (c.dm ρ) v (by rw[e,List.getElem?_map,e1];rfl) e2).sU rfl⟩
theorem aA.uG (ρ:Hd->Hd) (B:aA):(B.dm ρ).live↔B.live:=by cases B<;>exact Iff.rfl
theorem aA.pt {ρ:Hd->Hd} {B:aA} {k:Hd} (h:(B.dm ρ).aT k):∃j,B.aT j/\k=ρ j:=by
 cases B with
 |box T cs=>
  have h:AV.bm (AV.de ρ cs) k:=h
  rw[AV.bP,AV.dN]at h
  obtain⟨d,hd,hk⟩:=h
  obtain⟨c,hc,rfl⟩:=List.mem_map.1 hd
  obtain⟨j,h1,h2⟩:=AV.pt hk
  exact⟨j,AV.bj hc h1,h2⟩
 |rows T cs=>
  have h:AV.bm (AV.de ρ cs) k:=h
  rw[AV.bP,AV.dN]at h
  obtain⟨d,hd,hk⟩:=h
  obtain⟨c,hc,rfl⟩:=List.mem_map.1 hd
  obtain⟨j,h1,h2⟩:=AV.pt hk
  exact⟨j,AV.bj hc h1,h2⟩
 |_=>exact h.elim
theorem aA.o8 {ρ:Hd->Hd} {B:aA} {k:Hd} (h:B.aT k):(B.dm ρ).aT (ρ k):=by
 cases B with
 |box T cs=>exact AV.o8 (c:=.agg cs) h
 |rows T cs=>exact AV.o8 (c:=.agg cs) h
 |_=>exact h.elim
theorem nc {B B' F F':Nat->Prop} (h1:∀b,B b->B' b) (h2:∀b,F b->F' b):∀m b,aM B F m b->aM B' F' m b:=by
 intro m b;cases m
 ·exact h2 b
 ·exact h1 b
theorem l7 {hs:List Nat} {base i j:Nat} (hn:hs.Nodup) (hb:∀h∈hs,h<base) (h:fk hs base i=fk hs base j):i=j:=by
 have get:∀i,i<hs.length->hs.getD i 0∈hs/\hs[i]?=some (hs.getD i 0):=fun i hi=>by
  have e:hs[i]?=some hs[i]:=List.getElem?_eq_getElem hi
  have:hs.getD i 0=hs[i]:=by simp[List.getD,e]
  rw[this];exact⟨List.getElem_mem hi,e⟩
 unfold fk at h
 split at h<;>split at h
 ·rename_i h1 h2
  have e1:=(get i h1).2
  have e2:=(get j h2).2
  rw[h]at e1
  exact(List.getElem?_inj h1 hn).1 (e1.trans e2.symm)
 ·rename_i h1 h2
  have:=hb _ (get i h1).1;omega
 ·rename_i h1 h2
  have:=hb _ (get j h2).1;omega
 ·omega
theorem vC {hs:List Nat} {base:Nat} {i j:Hd} (hn:hs.Nodup) (hb:∀h∈hs,h<base) (h:bz hs base i=bz hs base j):i=j:=by
 cases i<;>cases j<;>simp only[bz,Hd.t.injEq,Hd.r.injEq,reduceCtorEq]at h
 ·rw[l7 hn hb h]
 ·rw[l7 hn hb h.1,h.2]
def aA.mi:aA->Bool
 | .bu _ _ _=>true
 |_=>false
theorem Ck {L:Hd->aA} {n:Nat} {B:aA}:fg L (.t n) B (.t n)=B.top:=by
 cases B<;>first|exact ah _ _ _|simp[fg,gE,aA.top]
theorem sT {L:Hd->aA} {n k:Nat} {B:aA} (h:B.mi=false->L (.r n k)= .free):fg L (.t n) B (.r n k)=B.row k:=by
 cases B<;>first
  |(simp only[fg];rw[aj _ _ (fun e=>by cases e),h rfl];rfl)
  |(simp only[fg,gE,if_true])
theorem ju {L:Hd->aA} {n:Nat} {B:aA} {g:Hd} (h:g.key≠n):fg L (.t n) B g=L g:=by
 have ne:g≠ .t n:=fun e=>h (by rw[e];rfl)
 cases B<;>first
  |(simp only[fg];exact aj _ _ ne)
  |(cases g<;>simp only[fg,gE]<;>exact if_neg h)
theorem aA.gD {ρ:Hd->Hd} {B:aA}:B.dm ρ= .free↔B= .free:=by cases B<;>simp[aA.dm]
theorem aA.Bo (ρ:Hd->Hd) (B:aA):(B.dm ρ).mi=B.mi:=by cases B<;>rfl
theorem aA.CB (ρ:Hd->Hd) (B:aA) (k:Nat):(B.dm ρ).row k=B.row k:=by cases B<;>rfl
theorem aA.wU (ρ:Hd->Hd) (B:aA):(B.dm ρ).top=B.top.dm ρ:=by cases B<;>rfl
theorem aA.l9 (ρ:Hd->Hd) (B:aA) (k:Nat):(B.row k).dm ρ=B.row k:=by
 cases B<;>first|rfl|(simp only[aA.row];split<;>rfl)
theorem aA.mR (B:aA) (k:Nat) (j:Hd):¬(B.row k).aT j:=by
 cases B<;>first|exact fun h=>h|(simp only[aA.row];split<;>exact fun h=>h)
theorem wP (hs:List Nat) (base:Nat) (hn:hs.Nodup) (hb:∀h∈hs,h<base) (g:aA->aA):∀(l:List aA) (o:Nat) (L:Hd->aA),
  (∀i B k,l[i]?=some B->(g B).mi=false->L (.r (fk hs base (o+i)) k)= .free)->
  (∀i,i<l.length->a6 L ((l.zipIdx o).map fun x=>(.t (fk hs base x.2),g x.1)) (.t (fk hs base (o+i)))=(g (l.getD i .free)).top/\
   ∀k,a6 L ((l.zipIdx o).map fun x=>(.t (fk hs base x.2),g x.1)) (.r (fk hs base (o+i)) k)=(g (l.getD i .free)).row k)/\
  (∀k:Hd,(∀i,i<l.length->k.key≠fk hs base (o+i))->a6 L ((l.zipIdx o).map fun x=>(.t (fk hs base x.2),g x.1)) k=L k):=by
 intro l
 induction l with
 |nil=>intro o L _;exact⟨fun i hi=>absurd hi qS,fun k _=>rfl⟩
 |cons B l ih=>
  intro o L hfr
  obtain⟨h1,h2⟩:=ih (o+1) (fg L (.t (fk hs base o)) (g B)) (fun i B' k hi hp=>by
   rw[ju (by show fk hs base (o+1+i)≠_;intro e;have:=l7 hn hb e;omega)]
   have:=hfr (i+1) B' k (by simpa using hi) hp
   rw[show o+1+i=o+(i+1) by omega];exact this)
  refine⟨fun i hi=>?_,fun k hk=>?_⟩
  ·cases i with
   |zero=>
    refine⟨?_,fun k=>?_⟩
    ·show a6 (fg L (.t (fk hs base o)) (g B)) ((l.zipIdx (o+1)).map fun x=>(.t (fk hs base x.2),g x.1)) (.t (fk hs base o))=(g B).top
     rw[h2 _ fun j hj e=>by have:=l7 hn hb e;omega,Ck]
    ·show a6 (fg L (.t (fk hs base o)) (g B)) ((l.zipIdx (o+1)).map fun x=>(.t (fk hs base x.2),g x.1)) (.r (fk hs base o) k)=(g B).row k
     rw[h2 _ fun j hj e=>by have:=l7 hn hb e;omega]
     exact sT (L:=L) (n:=fk hs base o) (k:=k) (B:=g B) (hfr 0 B k rfl)
   |succ i=>
    have:=h1 i (by simpa using hi)
    rw[show o+1+i=o+(i+1) by omega]at this
    exact this
  ·have:=h2 k fun i hi=>by have:=hk (i+1) (by simpa using hi);rw[show o+1+i=o+(i+1) by omega];exact this
   show a6 (fg L (.t (fk hs base o)) (g B)) ((l.zipIdx (o+1)).map fun x=>(.t (fk hs base x.2),g x.1)) k=L k
   rw[this,ju (by have:=hk 0 qS;simpa using this)]
section
section
variable {P:Program} {Γ:oy} {E:Env} {n:Nat} {s:Nat->AV} {L:Hd->aA} {a:Act} {w:World} {F:Nat->Prop} {β:Hd->Option Nat×Nat} {K:AV->List (Hd×aA)->Prop}
 {W:Operand->(AV->Prop)->Prop} {LK:Hd->(aA->Prop)->Prop} {base:Nat}
def cR (E:Env) (L:Hd->aA) (β:Hd->Option Nat×Nat) (wr:Bool) (b:Nat):Prop:=E.bW b\/(wr=false/\∃h,(L h).live/\(β h).1=some b)
theorem s9 {wr:Bool} {p:PV} {x:Value} (hp:PR w (aM E.bW F) p x):PR w (aM (cR E L β wr) F) p x:=hp.mono (nc (fun b hb=>.inl hb) fun b hb=>hb) fun _ _ _=>rfl
theorem xw (h:cC E n s L a w F β) {hd:Hd} {Wd off len:Nat} {T:TypeId} {es:List PV} {x:Value} (hB:L hd= .vec T Wd es) (hlen:off+len<=es.length) (hx:VR w (aM E.bW F) β (.vec hd Wd off len) x):
  PR w (aM (cR E L β false) F) (.sl true Wd ((es.drop off).take len)) x:=by
 have hb:=h.d4 hd
 have hlv:(L hd).live:=by rw[hB];trivial
 rw[hB]at hb
 obtain⟨q1,q2,q3⟩:=hb
 have hll:((es.drop off).take len).length=len:=by simp;omega
 have hel:∀e∈(es.drop off).take len,e.cells.length=Wd/\∀c∈e.cells,c.one=true:=fun e he=>q1 e (List.mem_of_mem_drop (List.mem_of_mem_take he))
 rcases hx.iV with⟨b,o,cc,hb',hcl,hcm,ho,rfl⟩|⟨ad,hb',hz,hz',rfl,ha⟩
 ·obtain⟨arr,g1,g2,g3,g4⟩:∃arr,(β hd).1=some b/\w.heap[b]?=some (.cells arr T (0,0))/\arr.size=(β hd).2*Wd/\∀(i:Nat) e (j:Nat) c v,es[i]?=some e->e.cells[j]?=some c->arr[i*Wd+j]?=some v->PR w (aM E.bW F) c v:=by
   rcases q3 with q3|⟨b',arr,g1,g2,g3,g4⟩
   ·rw[q3.1]at hb';cases hb'
   ·rw[g1]at hb';cases hb';exact⟨arr,g1,g2,g3,g4⟩
  have get:∀(i:Nat) e,((es.drop off).take len)[i]?=some e->i<len/\es[off+i]?=some e:=fun i e he=>by
   have hi:i<len:=by have:=(List.getElem?_eq_some_iff.1 he).1;rw[hll]at this;exact this
   rw[List.getElem?_take_of_lt hi,List.getElem?_drop]at he
   exact⟨hi,he⟩
  have hin:∀i j,i<es.length->j<Wd->i*Wd+j<arr.size:=fun i j hi hj=>by
   rw[g3]
   have:(i+1)*Wd<=(β hd).2*Wd:=Nat.mul_le_mul_right _ qO
   rw[Nat.add_mul]at this;omega
  have:=PR.sl (w:=w) (FB:=aM (cR E L β false) F) true Wd ((es.drop off).take len) b o cc (fun i j=>arr.getD ((off+i)*Wd+j) Go.undef) (by rw[hll];omega) (fun _=>.inr ⟨rfl,hd,hlv,g1⟩)
   (fun e he=>(hel e he).1) (fun e he=>(hel e he).2) (fun i e j c e1 e2=>by
    obtain⟨hi,he⟩:=get i e e1
    have hj:j<Wd:=by rw[<-(q1 e (List.mem_of_getElem? he)).1];exact(List.getElem?_eq_some_iff.1 e2).1
    have:=hin (off+i) j qO hj
    rw[ho qO,show off*Wd+i*Wd+j=(off+i)*Wd+j by rw[Nat.add_mul]]
    simp only[World.cell?,g2];simp[Array.getD,this]) (fun i e j c e1 e2=>by
    obtain⟨hi,he⟩:=get i e e1
    have hj:j<Wd:=by rw[<-(q1 e (List.mem_of_getElem? he)).1];exact(List.getElem?_eq_some_iff.1 e2).1
    have:=hin (off+i) j qO hj
    exact s9 (g4 (off+i) e j c _ he e2 (by simp[Array.getD,this])))
  rw[hll]at this
  exact this
 ·subst hz;subst hz'
  simp only[List.take_zero]
  exact .nil _ _ _
theorem py.ok (h:cC E n s L a w F β) {c:AV} {p:PV} {x:Value} (hl:py L c p) (hx:VR w (aM E.bW F) β c x):PR w (aM (cR E L β false) F) p x/\p.one=true:=by
 cases hl with
 |p v ho=>exact⟨s9 hx.D6,ho⟩
 |vec hB hlen=>exact⟨xw h hB hlen hx,rfl⟩
theorem yE (h:cC E n s L a w F β) {hd:Hd} {len:Nat} {T:TypeId} {cs:List AV} {x:Value} (hB:L hd= .rows T cs) (hx:VR w (aM E.bW F) β (.vec hd 1 0 len) x) {K':List PV->Prop} (hk:ie L cs len K'):
  ∃ps,K' ps/\PR w (aM (cR E L β false) F) (.sl true 1 ps) x:=by
 obtain⟨ps,hlen,hl,hr,hk⟩:=hk
 refine⟨ps,hk,?_⟩
 have hb:=h.d4 hd
 have hlv:(L hd).live:=by rw[hB];trivial
 rw[hB]at hb
 obtain⟨q1,q2,q3⟩:=hb
 subst hlen
 rcases hx.iV with⟨b,o,cc,hb',hcl,hcm,ho,rfl⟩|⟨ad,hb',_,hz,rfl,ha⟩
 ·obtain⟨arr,g1,g2,g3,g4⟩:∃arr,(β hd).1=some b/\w.heap[b]?=some (.cells arr T (0,0))/\arr.size=(β hd).2/\∀(i:Nat) c v,cs[i]?=some c->arr[i]?=some v->VR w (aM E.bW F) β c v:=by
   rcases q3 with q3|⟨b',arr,g1,g2,g3,g4⟩
   ·rw[q3.1]at hb';cases hb'
   ·rw[g1]at hb';cases hb';exact⟨arr,g1,g2,g3,g4⟩
  have get:∀(i:Nat) (e:PV),ps[i]?=some e->i<arr.size/\PR w (aM (cR E L β false) F) e (arr.getD i Go.undef)/\e.one=true:=fun i e he=>by
   have hi:=(List.getElem?_eq_some_iff.1 he).1
   have hic:i<cs.length:=qO
   have hia:i<arr.size:=qO
   have e1:cs[i]?=some cs[i]:=List.getElem?_eq_getElem hic
   have:=(hr i _ e e1 he).ok h (g4 i _ (arr.getD i Go.undef) e1 (by simp[Array.getD,hia]))
   exact⟨hia,this.1,this.2⟩
  have hone:∀e∈ps,e.one=true:=fun e he=>by
   obtain⟨i,hi⟩:=List.getElem?_of_mem he
   exact(get i e hi).2.2
  have cl:∀e∈ps,e.cells=[e]:=fun e he=>PV.fH (hone e he)
  rw[<-hl]
  rw[<-hl]at hcl
  refine PR.sl true 1 ps b o _ (fun i j=>arr.getD i Go.undef) qO (fun _=>.inr ⟨rfl,hd,hlv,g1⟩) (fun e he=>by rw[cl e he];rfl) (fun e he c hc=>by rw[cl e he]at hc;cases List.mem_singleton.1 hc;exact hone _ he) (fun i e j c e1 e2=>?_) (fun i e j c e1 e2=>?_)
  ·obtain⟨hi,he⟩:=get i e e1
   rw[cl e (List.mem_of_getElem? e1)]at e2
   have hj:j=0:=by have:=(List.getElem?_eq_some_iff.1 e2).1;simpa using this
   subst hj
   have hi2:=(List.getElem?_eq_some_iff.1 e1).1
   rw[ho qO]
   simp only[World.cell?,g2];simp[Array.getD,hi]
  ·obtain⟨hi,he⟩:=get i e e1
   rw[cl e (List.mem_of_getElem? e1)]at e2
   have hj:j=0:=by have:=(List.getElem?_eq_some_iff.1 e2).1;simpa using this
   subst hj
   cases e2
   exact he.1
 ·have hcs:ps=[]:=List.length_eq_zero_iff.1 qO
  subst hcs
  exact .nil _ _ _
theorem G7 (hL:∀h K,LK h K->K (L h)) (h:cC E n s L a w F β) {c:AV} {x:Value} (hx:VR w (aM E.bW F) β c x) {K':PV->Prop} (hk:vE L LK c K'):
  ∃p,K' p/\PR w (aM (cR E L β false) F) p x/\p.one=true:=by
 unfold vE at hk
 split at hk
 ·rename_i hd Wd off len
  have hk:=hL hd _ hk
  generalize hB:L hd=B at hk
  split at hk
  ·rename_i T W' es
   obtain⟨hWd,hK⟩:=d9 hk
   subst hWd
   obtain⟨es',hes,hlen,hK⟩:=hK
   subst hes
   exact⟨_,hK,xw h hB hlen hx,rfl⟩
  ·rename_i T cs
   obtain⟨h1,h2,hk2⟩:=wu hk
   clear hk
   subst h1;subst h2
   obtain⟨ps,hk,hp⟩:=yE h hB hx hk2
   exact⟨_,hk,hp,rfl⟩
  ·exact hk.elim
 ·rename_i hd
  have hk:=hL hd _ hk
  have hb:=h.d4 hd
  generalize hB:L hd=B at hk hb
  split at hk
  ·rename_i es
   have hlv:(L hd).live:=by rw[hB];trivial
   obtain⟨b,en,clock,h1,h2,h3,h4,h5,h6⟩:=hb
   cases hx with|map hb'=>
   rw[h1]at hb';cases hb'
   exact⟨_,hk,.mp true es es (List.Perm.refl _) b clock en (.inr ⟨rfl,hd,hlv,h1⟩) h2 h3 (fun i x e e1 e2=>s9 (h4 i x e e1 e2).1) (fun i x e e1 e2=>s9 (h4 i x e e1 e2).2) h5 h6,rfl⟩
  ·exact hk.elim
 ·obtain⟨ho,hk⟩:=cond_not hk
  exact⟨_,hk,s9 hx.D6,ho⟩
 ·exact⟨_,hk,s9 hx.JU,rfl⟩
 ·exact hk.elim
theorem yf (hL:∀h K,LK h K->K (L h)) (h:cC E n s L a w F β):∀(cs:List AV) (xs:List Value) {K':List PV->Prop} (hl:xs.length=cs.length) (hr:∀(i:Nat) c x,cs[i]?=some c->xs[i]?=some x->VR w (aM E.bW F) β c x) (hk:g7 L LK cs K'),
  ∃ps:List PV,K' ps/\ps.length=cs.length/\∀(i:Nat) c x,ps[i]?=some c->xs[i]?=some x->PR w (aM (cR E L β false) F) c x/\c.one=true:=by
 intro cs
 induction cs with
 |nil=>intro xs K' _ _ hk;exact⟨[],hk,rfl,fun i c x e=>by simp at e⟩
 |cons c cs ih=>
  intro xs K' hl hr hk
  match xs,hl with
  |x::xs,hl=>
   simp only[g7]at hk
   obtain⟨p,hk,hp⟩:=G7 hL h (hr 0 c x rfl rfl) hk
   obtain⟨ps,hk,h1,h2⟩:=ih xs (by simpa using hl) (fun i c x e1 e2=>hr (i+1) c x (by simpa using e1) (by simpa using e2)) hk
   refine⟨p::ps,hk,by simp[h1],fun i c' x' e1 e2=>?_⟩
   cases i with
   |zero=>simp at e1 e2;subst e1;subst e2;exact hp
   |succ i=>exact h2 i c' x' (by simpa using e1) (by simpa using e2)
theorem qR (hL:∀h K,LK h K->K (L h)) (h:cC E n s L a w F β) {t:TypeId} {v:AV} {x:Value} (hx:VR w (aM E.bW F) β v x) {K':AV->Prop} (hk:gJ Γ L LK t v K'):
  ∃p,K' (.p p)/\PR w (aM (cR E L β false) F) p x:=by
 have up:∀{p:PV} {x:Value},PR w (aM E.bW F) p x->PR w (aM (cR E L β false) F) p x:=s9
 have other:(uO Γ t v fun v=>K' (.p v))->∃p,K' (.p p)/\PR w (aM (cR E L β false) F) p x:=fun hk=>by
  obtain⟨p,hk,hp⟩:=j3 hk
  exact⟨p,hk,up (hp _ _ _ _ hx)⟩
 unfold gJ at hk
 split at hk
 ·rename_i hd Wd off len
  have hk:=hL hd _ hk
  generalize hB:L hd=B at hk
  split at hk
  ·rename_i T W' es
   obtain⟨hWd,hK⟩:=d9 hk
   subst hWd
   obtain⟨es',hes,hlen,hK⟩:=hK
   subst hes
   exact⟨_,hK,xw h hB hlen hx⟩
  ·exact hk.elim
 ·rename_i hd
  have hk:=hL hd _ hk
  have hb:=h.d4 hd
  generalize hB:L hd=B at hk hb
  split at hk
  ·rename_i T cs
   have hlv:(L hd).live:=by rw[hB];trivial
   obtain⟨h0,b,arr,g1,g2,g3,g4⟩:=hb
   cases hx with|aC hb'=>
   rw[g1]at hb';cases hb'
   have cell:∀j,j<cs.length->w.cell? ⟨b,0+j,none⟩=some (arr.getD j Go.undef):=fun j hj=>by
    simp only[World.cell?,g2];simp[Array.getD,g3,hj]
   have all:∀l,LY cs l->∀e:PV,e.cells=l->PR w (aM (cR E L β false) F) (.f5 true e) (.pointer (some ⟨b,0,none⟩)):=by
    intro l hl e he
    refine .f5 true e b 0 (fun j=>arr.getD j Go.undef) (.inr ⟨rfl,hd,hlv,g1⟩) (fun c hc=>?_) (fun j c hj=>?_) (fun j c hj=>?_)
    ·rw[he]at hc
     obtain⟨i,hi⟩:=List.getElem?_of_mem hc
     have hil:i<cs.length:=by rw[<-hl.1];exact(List.getElem?_eq_some_iff.1 hi).1
     exact hl.2.1 i cs[i] c (List.getElem?_eq_getElem hil) hi (h0 _ (List.getElem_mem hil))
    ·rw[he]at hj
     exact cell j (by rw[<-hl.1];exact(List.getElem?_eq_some_iff.1 hj).1)
    ·rw[he]at hj
     have hil:j<cs.length:=by rw[<-hl.1];exact(List.getElem?_eq_some_iff.1 hj).1
     exact up (hl.2.2 w _ β j cs[j] c _ (List.getElem?_eq_getElem hil) hj (g4 j cs[j] _ (List.getElem?_eq_getElem hil) (by simp[Array.getD,g3,hil])))
   split at hk
   ·rename_i i hi
    split at hk
    ·rcases m9 hk with⟨l,hk,hl⟩|hk
     ·exact⟨_,hk,all l hl _ rfl⟩
     ·obtain⟨ps,hk,h1,h2⟩:=yf hL h cs arr.toList (by simp[g3]) (fun i c x e1 e2=>g4 i c x e1 (by simpa using e2)) hk
      have get:∀(i:Nat) c,ps[i]?=some c->i<arr.size/\PR w (aM (cR E L β false) F) c (arr.getD i Go.undef)/\c.one=true:=fun i c hi=>by
       have hil:i<arr.size:=by have:=(List.getElem?_eq_some_iff.1 hi).1;omega
       exact⟨hil,h2 i c _ hi (by simp[Array.getD,hil])⟩
      refine⟨_,hk,.f5 true (.agg ps) b 0 (fun j=>arr.getD j Go.undef) (.inr ⟨rfl,hd,hlv,g1⟩) (fun c hc=>?_) (fun j c hj=>?_) (fun j c hj=>?_)⟩
      ·obtain⟨i,hi⟩:=List.getElem?_of_mem hc
       exact(get i c hi).2.2
      ·exact cell j (by rw[<-h1];exact(List.getElem?_eq_some_iff.1 hj).1)
      ·exact(get j c hj).2.1
    ·rcases m9 hk with⟨l,hk,hl⟩|hk
     ·match l,hk,hl with
      |[c],hk,hl=>
       obtain⟨ho,hk⟩:=cond_not hk
       exact⟨_,hk,all _ hl _ (PV.fH ho)⟩
      |[],hk,_=>exact hk.elim
      |_::_::_,hk,_=>exact hk.elim
     ·exact hk.elim
   ·exact hk.elim
  ·exact hk.elim
 ·rename_i hd
  have hk:=hL hd _ hk
  have hb:=h.d4 hd
  generalize hB:L hd=B at hk hb
  split at hk
  ·rename_i es
   have hlv:(L hd).live:=by rw[hB];trivial
   obtain⟨b,en,clock,h1,h2,h3,h4,h5,h6⟩:=hb
   cases hx with|map hb'=>
   rw[h1]at hb';cases hb'
   exact⟨_,hk,.mp true es es (List.Perm.refl _) b clock en (.inr ⟨rfl,hd,hlv,h1⟩) h2 h3 (fun i x e e1 e2=>up (h4 i x e e1 e2).1) (fun i x e e1 e2=>up (h4 i x e e1 e2).2) h5 h6⟩
  ·exact hk.elim
 ·exact other hk
theorem lO (hL:∀h K,LK h K->K (L h)) (h:cC E n s L a w F β):∀(cs:List AV) (xs:List Value) {K':List PV->Prop} (hl:xs.length=cs.length) (hr:∀(i:Nat) c x,cs[i]?=some c->xs[i]?=some x->VR w (aM E.bW F) β c x) (hk:fA Γ L LK cs K'),
  ∃ps:List PV,K' ps/\ps.length=cs.length/\∀(i:Nat) c x,ps[i]?=some c->xs[i]?=some x->PR w (aM (cR E L β false) F) c x:=by
 intro cs
 induction cs with
 |nil=>intro xs K' _ _ hk;exact⟨[],hk,rfl,fun i c x e=>by simp at e⟩
 |cons c cs ih=>
  intro xs K' hl hr hk
  match xs,hl with
  |x::xs,hl=>
   simp only[fA]at hk
   obtain⟨p,hk,hp⟩:=qR hL h (hr 0 c x rfl rfl) hk
   obtain⟨ps,hk,h1,h2⟩:=ih xs (by simpa using hl) (fun i c x e1 e2=>hr (i+1) c x (by simpa using e1) (by simpa using e2)) hk
   refine⟨p::ps,hk,by simp[h1],fun i c' x' e1 e2=>?_⟩
   cases i with
   |zero=>simp at e1 e2;subst e1;subst e2;exact hp
   |succ i=>exact h2 i c' x' (by simpa using e1) (by simpa using e2)
theorem Je (hL:∀h K,LK h K->K (L h)) (h:cC E n s L a w F β) {t:TypeId} {v:AV} {x:Value} (hx:VR w (aM E.bW F) β v x) {K':AV->Prop} (hk:sJ Γ L LK t v K'):
  ∃p,K' (.p p)/\PR w (aM (cR E L β false) F) p x:=by
 unfold sJ at hk
 split at hk
 ·cases hx with
  |fn f first caps fs vs hfl hf hl hr=>
   have:fs= #[]:=Array.eq_empty_of_size_eq_zero (by simpa using hfl)
   subst this
   obtain⟨ps,hk,h1,h2⟩:=lO hL h _ vs.toList (by simpa using hl) (fun i c x e1 e2=>hr i c x e1 (by simpa using e2)) hk
   exact⟨_,hk,.fn _ ps vs (by rw[h1];simpa using hl) fun i c v e1 e2=>h2 i c v e1 (by simpa using e2)⟩
 ·cases hx with
  |fn f first caps fs vs hfl hf hl hr=>
   have:vs= #[]:=Array.eq_empty_of_size_eq_zero (by simpa using hl)
   subst this
   obtain⟨ps,hk,h1,h2⟩:=lO hL h _ fs.toList (by simpa using hfl) (fun i c x e1 e2=>hf i c x e1 (by simpa using e2)) hk
   exact⟨_,hk,.lp _ ps fs (by rw[h1];simpa using hfl) fun i c v e1 e2=>h2 i c v e1 (by simpa using e2)⟩
 ·cases hx with
  |agg cs vs hone hl hr=>
   obtain⟨ps,hk,h1,h2⟩:=lO hL h _ vs.toList (by simpa using hl) (fun i c x e1 e2=>hr i c x e1 (by simpa using e2)) hk
   cases ho:ps.all PV.one with
   |false=>rw[ho]at hk;exact hk.elim
   |true=>
    rw[ho]at hk
    exact⟨_,hk,.agg ps vs (fun c hc=>List.all_eq_true.1 ho c hc) (by rw[h1];simpa using hl) fun i c v e1 e2=>h2 i c v e1 (by simpa using e2)⟩
 ·rename_i hd len
  have hk:=hL hd _ hk
  have hb:=h.d4 hd
  generalize hB:L hd=B at hk hb
  split at hk
  ·rename_i T cs
   obtain⟨ps,hk,hp⟩:=yE h hB hx hk
   exact⟨_,hk,hp⟩
  ·rename_i T W' es
   have hk0:gJ Γ L (fun h K=>K (L h)) t (.vec hd 1 0 len) K':=by
    simp only[gJ,hB];exact hk
   exact qR (fun _ _ h=>h) h hx hk0
  ·exact hk.elim
 ·exact qR hL h hx hk
theorem G9 (h:cC E n s L a w F β) {t:TypeId} {v:AV} {x:Value} (hx:VR w (aM E.bW F) β v x) {K':AV->Prop} (hk:IY Γ t v K'):
  ∃c,K' c/\VR w (aM (cR E L β true) F) β c x/\∀k,c.aT k->v.aT k:=by
 have up:∀{p:AV} {x:Value},VR w (aM E.bW F) β p x->VR w (aM (cR E L β true) F) β p x:=fun hp=>hp.mono (nc (fun b hb=>.inl hb) fun b hb=>hb) (fun _ _ _=>rfl) fun _ _=>rfl
 unfold IY at hk
 split at hk
 ·exact⟨_,hk,up hx,fun k h=>h⟩
 ·exact⟨_,hk,up hx,fun k h=>h⟩
 ·exact⟨_,hk,up hx,fun k h=>h⟩
 ·obtain⟨p,hk,hp⟩:=j3 hk
  exact⟨_,hk,up (.p (hp _ _ _ _ hx)),fun k h=>by simp only[AV.aT]at h⟩
theorem uF (hL:∀h K,LK h K->K (L h)) (h:cC E n s L a w F β) (wr:Bool):∀(tvs:List (TypeId×AV)) (xs:List Value) (K':List AV->Prop),lE Γ L LK wr tvs K'->xs.length=tvs.length->
  (∀(i:Nat) c x,tvs[i]?=some c->xs[i]?=some x->VR w (aM E.bW F) β c.2 x)->
  ∃args,K' args/\args.length=tvs.length/\(∀(i:Nat) c x,args[i]?=some c->xs[i]?=some x->VR w (aM (cR E L β wr) F) β c x)/\∀k,AV.bm args k->∃c∈tvs,c.2.aT k:=by
 intro tvs
 induction tvs with
 |nil=>intro xs K' hk hl _;exact⟨[],hk,rfl,qS,by simp[AV.bm]⟩
 |cons c tvs ih=>
  intro xs K' hk hl hr
  match xs,hl with
  |x::xs,hl=>
   have hx:=hr 0 c x rfl rfl
   have hr':∀(i:Nat) c x,tvs[i]?=some c->xs[i]?=some x->VR w (aM E.bW F) β c.2 x:=fun i c x e1 e2=>hr (i+1) c x (by simpa using e1) (by simpa using e2)
   simp only[lE]at hk
   have go:∀v',(lE Γ L LK wr tvs fun l'=>K' (v'::l'))->VR w (aM (cR E L β wr) F) β v' x->(∀k,v'.aT k->c.2.aT k)->
     ∃args,K' args/\args.length=(c::tvs).length/\(∀(i:Nat) c' x',args[i]?=some c'->(x::xs)[i]?=some x'->VR w (aM (cR E L β wr) F) β c' x')/\∀k,AV.bm args k->∃d∈c::tvs,d.2.aT k:=by
    intro v' hk hv hm
    obtain⟨args,hk,h1,h2,h3⟩:=ih xs _ hk (by simpa using hl) hr'
    refine⟨v'::args,hk,by simp[h1],fun i c' x' e1 e2=>?_,fun k hk=>?_⟩
    ·cases i with
     |zero=>simp at e1 e2;subst e1;subst e2;exact hv
     |succ i=>exact h2 i c' x' (by simpa using e1) (by simpa using e2)
    ·simp only[AV.bm]at hk
     rcases hk with hk|hk
     ·exact⟨c,qS,hm k hk⟩
     ·obtain⟨d,h1,h2⟩:=h3 k hk;exact⟨d,by simp[h1],h2⟩
   cases wr with
   |true=>
    obtain⟨v',hk,hv,hm⟩:=G9 h hx hk
    exact go v' hk hv hm
   |false=>
    obtain⟨p,hk,hp⟩:=Je hL h hx hk
    exact go (.p p) hk (.p hp) fun k hk=>by simp only[AV.aT]at hk
end
end
section
theorem eJ {α:Type} (l:List α) (d:α) {i:Nat} (h:l.length<=i):l.getD i d=d:=by simp[List.getD,List.getElem?_eq_none h]
theorem c7 {H:List aA} {h:Hd} (hh:H.length<=h.key):look H h= .free:=by
 cases h with
 |t n=>simp only[look];rw[eJ H _ (show H.length<=n from hh)];rfl
 |r n k=>simp only[look];rw[eJ H _ (show H.length<=n from hh)];rfl
theorem d7 {H:List aA} {h:Hd} (hh:look H h≠ .free):h.key<H.length:=by
 rcases Nat.lt_or_ge h.key H.length with h'|h'
 ·exact h'
 ·exact(hh (c7 h')).elim
theorem aA.uq {B:aA} (h:B≠ .free):B.top≠ .free:=by cases B<;>first|exact h|exact fun e=>by cases e
section
variable {P:Program} {Γ:oy} {E:Env} {n:Nat} {s:Nat->AV} {L:Hd->aA} {a:Act} {w:World} {F:Nat->Prop} {β:Hd->Option Nat×Nat} {K:AV->List (Hd×aA)->Prop}
 {W:Operand->(AV->Prop)->Prop} {LK:Hd->(aA->Prop)->Prop} {base:Nat}
open Classical in
theorem KV (h:cC E n s L a w F β) {wr:Bool} {fid:FuncId} {raw args:List AV} (hk:aa P wr fid raw args L base K) (hfree:∀v ups,K v ups->∀x∈ups,base<=x.1.key->fZ L x.1.key) (xs:List Value) (hlen:xs.length=args.length)
  (hraw:∀(i:Nat) c x,raw[i]?=some c->xs[i]?=some x->VR w (aM E.bW F) β c x) (hrawl:xs.length=raw.length) (hrel:∀(i:Nat) c x,args[i]?=some c->xs[i]?=some x->VR w (aM (cR E L β wr) F) β c x) (hmen:∀k,AV.bm args k->L k≠ .free):
  (∃fn,P.funcs[fid]?=some fn/\(fn.name== "runtime.NumGoroutine")=false/\fn.body.isNone=false)/\Calls P fid xs.toArray w fun e w'=>∃v,e= .returned v/\Out P E n s L a K (.ok v w'):=by
 cases hk with
 |FH pvs r e hc hk=>
  subst e
  refine⟨hc.fn,?_⟩
  have kl:∀b,E.qh b->b<w.heap.size:=fun b hb=>Nat.lt_of_lt_of_le (h.iT b hb) h.size
  have harg:Dq w F E.bW (fun _=>(none,0)) (pvs.map .p) [] xs:=by
   refine⟨hrawl,fun i c x e1 e2=>?_,fun h=>by rw[show look [] h= .free from c7 (Nat.zero_le _)];trivial,h.nA,fun b hb=>kl b (h.Ca b hb),fun h b h1 h2=>by simp at h2,fun h h' b h1 h2 h3=>by simp at h3,fun c hc k hk=>?_,fun h k hk=>?_⟩
   ·obtain⟨p,_,rfl⟩:∃p,pvs[i]?=some p/\AV.p p=c:=by
     rw[List.getElem?_map]at e1
     cases e:pvs[i]? with
     |none=>rw[e]at e1;cases e1
     |some p=>rw[e]at e1;cases e1;exact⟨p,rfl,rfl⟩
    exact .p (hraw i _ x e1 e2).D6
   ·obtain⟨p,_,rfl⟩:=List.mem_map.1 hc
    simp only[AV.aT]at hk
   ·rw[show look [] h= .free from c7 (Nat.zero_le _)]at hk;exact hk.elim
  refine(hc.run w F _ _ xs harg).mono fun e w' hpost=>?_
  obtain⟨v,F1,he,R⟩:=hpost
  refine⟨v,he,?_⟩
  have hst:cC E n s L a w' F1 β:=by
   refine h.step R.os R.tape R.output R.size R.IJ R.nA (fun b h1 h2=>h.fold b (R.fold b h1 (Nat.lt_of_lt_of_le h2 h.size)) h2)
    (fun b hb=>R.same b (kl b hb)) (fun b hb=>R.same b (h.nA b hb)) (fun _ _=>rfl) (fun _=>id) (fun k=>.inl ⟨rfl,fun hl b hb=>R.same b (h.own k b hl hb).2.2⟩) (fun k b h1 h2=>?_) h.nG
   have o:=h.own k b h1 h2
   exact⟨fun hb=>o.1 (R.fold b hb o.2.2),o.2.1,Nat.lt_of_lt_of_le o.2.2 R.size⟩
  exact⟨_,[],F1,β,hk,hst,.p R.rel,fun k hk=>by simp only[AV.aT]at hk⟩
 |mk hs args' r Hin Hout hw hn hb ha hin0 hin hl hm hlen' hfree' hargs hc hk=>
 refine⟨hc.fn,?_⟩
 have hLr:∀i:Hd,i.key<hs.length->L (bz hs base i)=(look Hin i).dm (bz hs base):=fun i hi=>by
  have e1:∀q,q<hs.length->hs[q]?=some (fk hs base q):=fun q hq=>by simp[fk,hq,List.getD]
  have e2:∀q,q<hs.length->Hin[q]?=some (Hin.getD q .free):=fun q hq=>by simp[List.getD,List.getElem?_eq_getElem (show q<Hin.length by omega)]
  cases i with
  |t q=>have:=(hin q _ _ (e1 q hi) (e2 q hi)).1;rw[aA.wU]at this;exact this
  |r q k=>have:=(hin q _ _ (e1 q hi) (e2 q hi)).2 k;simp only[bz,look,aA.l9];exact this
 have hkl:∀i:Hd,look Hin i≠ .free->i.key<hs.length:=fun i hi=>by rw[<-hin0];exact d7 hi
 have hlive:∀i:Hd,(look Hin i).live->(L (bz hs base i)).live:=fun i hi=>by rw[hLr i (hkl i (aA.ck hi)),aA.uG];exact hi
 have hmenB:∀i k:Hd,(look Hin i).aT k->k.key<hs.length:=fun i k hk=>by
  cases i with
  |r q j=>exact(aA.mR _ _ _ hk).elim
  |t q=>
   have hk':(Hin.getD q .free).top.aT k:=hk
   have hq:q<Hin.length:=by
    rcases Nat.lt_or_ge q Hin.length with h'|h'
    ·exact h'
    ·rw[eJ _ _ h']at hk';exact hk'.elim
   have e:Hin.getD q .free=Hin[q]:=by simp[List.getD,List.getElem?_eq_getElem hq]
   rw[e]at hk'
   refine hm _ (List.getElem_mem hq) k ?_
   revert hk'
   cases Hin[q]<;>first|exact id|exact fun h=>h.elim
 have harg:Dq w F (cR E L β wr) (fun k=>β (bz hs base k)) args' Hin xs:=by
  refine⟨by rw[hlen,<-ha,AV.bP,List.length_map],fun i c x e1 e2=>?_,fun i=>?_,h.nA,fun b hb=>?_,fun i b h1 h2=>?_,fun i j b h1 h2 h3 h4=>?_,fun c hc k hk=>?_,fun i k hk=>?_⟩
  ·exact(hrel i (c.dm _) x (by rw[<-ha,AV.bP,List.getElem?_map,e1];rfl) e2).sU rfl
  ·rcases Nat.lt_or_ge i.key hs.length with hi|hi
   ·have:=h.d4 (bz hs base i)
    rw[hLr i hi]at this
    exact this.sU.mono (nc (fun b hb=>.inl hb) fun b hb=>hb) (fun _ _ _=>rfl) (fun _=>rfl) (fun _ _=>rfl) fun _ _ _=>rfl
   ·rw[c7 qO];trivial
  ·rcases hb with hb|⟨_,k,h1,h2⟩
   ·exact Nat.lt_of_lt_of_le (h.iT b (h.Ca b hb)) h.size
   ·exact(h.own k b h1 h2).2.2
  ·have hi:=hkl i (aA.ck h1)
   have o:=h.own _ b (hlive i h1) h2
   refine⟨o.1,fun hb=>?_,o.2.2⟩
   rcases hb with hb|⟨e,_⟩
   ·exact o.2.1 (h.Ca b hb)
   ·rw[hw e]at hi;simp at hi
  ·exact vC hn hb (h.nG _ _ b (hlive i h1) (hlive j h2) h3 h4)
  ·have hi:=hargs c hc k hk
   intro e
   have:=hLr k hi
   rw[e]at this
   refine hmen (bz hs base k) ?_ this
   rw[<-ha,AV.bP,AV.dN]
   exact⟨_,List.mem_map_of_mem hc,AV.o8 hk⟩
  ·have hi:=hmenB i k hk
   intro e
   have:=hLr k hi
   rw[e]at this
   refine h.mb (bz hs base i) (bz hs base k) ?_ this
   have hif:look Hin i≠ .free:=fun e=>by rw[e]at hk;exact hk.elim
   rw[hLr i (hkl i hif)]
   exact aA.o8 hk
 refine(hc.run w F _ _ xs harg).mono fun e w' hpost=>?_
 obtain⟨v,F1,β1,he,R⟩:=hpost
 refine⟨v,he,?_⟩
 have hln:∀k,look Hout k≠ .free->k.key<Hout.length:=fun k hk=>d7 hk
 have hnew:∀i,i<Hout.length->hs.length<=i->fZ L (fk hs base i):=fun i hi hge=>by
  refine hfree _ _ hk (.t (fk hs base i),(Hout[i]).dm (bz hs base)) ?_ (by simp[fk,Nat.not_lt.2 hge,Hd.key])
  exact List.mem_map.2 ⟨(Hout[i],i),by rw[List.mem_zipIdx_iff_getElem?];simp[List.getElem?_eq_getElem hi],rfl⟩
 obtain⟨hL0,hL00⟩:=wP hs base hn hb (aA.dm (bz hs base)) Hout 0 L (fun i B k hi hp=>by
  rw[Nat.zero_add]
  have hil:=(List.getElem?_eq_some_iff.1 hi).1
  rcases Nat.lt_or_ge i hs.length with hi'|hi'
  ·have:=hLr (.r i k) hi'
   simp only[bz]at this
   rw[this,aA.gD]
   apply Classical.byContradiction
   intro hne
   refine R.nf _ hne ?_
   have e:Hout.getD i .free=B:=by simp[List.getD,hi]
   simp only[look,e]
   rw[aA.Bo]at hp
   cases B<;>first|rfl|cases hp
  ·exact(hnew i hil hi').2 k)
 simp only[Nat.zero_add]at hL0 hL00
 have hL1:∀i:Hd,i.key<Hout.length->a6 L (Hout.zipIdx.map fun x=>(.t (fk hs base x.2),x.1.dm (bz hs base))) (bz hs base i)=(look Hout i).dm (bz hs base):=fun i hi=>by
  cases i with
  |t q=>have:=(hL0 q hi).1;rw[aA.wU]at this;exact this
  |r q k=>have:=(hL0 q hi).2 k;rw[aA.CB]at this;simp only[look,aA.l9];exact this
 have hcase:∀k:Hd,(∃i:Hd,i.key<Hout.length/\k=bz hs base i)\/(∀i:Hd,i.key<Hout.length->k≠bz hs base i):=fun k=>by
  by_cases hk:∃i:Hd,i.key<Hout.length/\k=bz hs base i
  ·exact .inl hk
  ·exact .inr fun i hi e=>hk ⟨i,hi,e⟩
 have hL2:∀k:Hd,(∀i:Hd,i.key<Hout.length->k≠bz hs base i)->a6 L (Hout.zipIdx.map fun x=>(.t (fk hs base x.2),x.1.dm (bz hs base))) k=L k:=fun k hk=>by
  refine hL00 k fun i hi e=>?_
  cases k with
  |t q=>exact hk (.t i) hi (by simp only[bz];rw[<-e];rfl)
  |r q j=>exact hk (.r i j) hi (by simp only[bz];rw[<-e];rfl)
 clear hL0 hL00
 generalize hups:(Hout.zipIdx.map fun x=>(Hd.t (fk hs base x.2),x.1.dm (bz hs base)))=ups at hk hL1 hL2
 generalize hL2':a6 L ups=L2 at hL1 hL2
 let β2:Hd->Option Nat×Nat:=fun k=>if h:∃i:Hd,i.key<Hout.length/\bz hs base i=k then β1 h.choose else β k
 have hβ1:∀i:Hd,i.key<Hout.length->β2 (bz hs base i)=β1 i:=fun i hi=>by
  have hex:∃j:Hd,j.key<Hout.length/\bz hs base j=bz hs base i:=⟨i,hi,rfl⟩
  show(if h:∃j:Hd,j.key<Hout.length/\bz hs base j=bz hs base i then β1 h.choose else _)=_
  rw[dif_pos hex]
  rw[vC hn hb hex.choose_spec.2]
 have hβ2:∀k,(∀i:Hd,i.key<Hout.length->k≠bz hs base i)->β2 k=β k:=fun k hk=>by
  show(if h:∃j:Hd,j.key<Hout.length/\bz hs base j=k then β1 h.choose else _)=_
  rw[dif_neg]
  rintro⟨j,hj,e⟩
  exact hk j hj e.symm
 have hnew':∀i:Hd,i.key<Hout.length->hs.length<=i.key->L (bz hs base i)= .free:=fun i hi hge=>by
  have:=hnew i.key hi hge
  cases i with
  |t q=>exact this.1
  |r q k=>exact this.2 k
 have hnobor:∀m b,aM fR F1 m b->aM E.bW F1 m b:=nc (fun b hb=>hb.elim) fun b hb=>hb
 have hnotmine:∀b,(∀i,(look Hin i).live->(β (bz hs base i)).1≠some b)->b<w.heap.size->w'.heap[b]?=w.heap[b]?:=fun b h1 h2=>
  R.same b h2 fun i hi=>h1 i hi
 have kl:∀b,E.qh b->b<w.heap.size:=fun b hb=>Nat.lt_of_lt_of_le (h.iT b hb) h.size
 have hl2:∀k,(L2 k).live->(∃i:Hd,i.key<Hout.length/\k=bz hs base i/\(look Hout i).live)\/((∀i:Hd,i.key<Hout.length->k≠bz hs base i)/\(L k).live):=fun k hk=>by
  rcases hcase k with⟨i,hi,e⟩|hc
  ·subst e
   rw[hL1 i hi,aA.uG]at hk
   exact .inl ⟨i,hi,rfl,hk⟩
  ·rw[hL2 k hc]at hk
   exact .inr ⟨hc,hk⟩
 have hst:cC E n s L2 a w' F1 β2:=by
  refine h.step R.os R.tape R.output R.size R.IJ R.nA (fun b h1 h2=>h.fold b (R.fold b h1 (Nat.lt_of_lt_of_le h2 h.size)) h2)
   (fun b hb=>hnotmine b (fun i hi e=>(h.own _ b (hlive i hi) e).2.1 hb) (kl b hb)) (fun b hb=>hnotmine b (fun i hi e=>(h.own _ b (hlive i hi) e).1 hb) (h.nA b hb))
   (fun k hk=>?_) (fun k hk=>?_) (fun k=>?_) (fun k b h1 h2=>?_) (fun k k' b h1 h2 h3 h4=>?_)
  ·rcases hcase k with⟨i,hi,e⟩|hc
   ·subst e
    rw[hβ1 i hi]
    rcases Nat.lt_or_ge i.key hs.length with hi'|hi'
    ·rw[hLr i hi',Ne,aA.gD]at hk
     exact R.LX i hk
    ·exact(hk (hnew' i hi hi')).elim
   ·exact hβ2 k hc
  ·rcases hcase k with⟨i,hi,e⟩|hc
   ·subst e
    rw[hL1 i hi,Ne,aA.gD]
    rcases Nat.lt_or_ge i.key hs.length with hi'|hi'
    ·rw[hLr i hi',Ne,aA.gD]at hk
     exact R.nf i hk
    ·exact(hk (hnew' i hi hi')).elim
   ·rw[hL2 k hc];exact hk
  ·rcases hcase k with⟨i,hi,e⟩|hc
   ·subst e
    rw[hL1 i hi]
    refine .inr ⟨?_,fun j hj=>?_⟩
    ·have:=(R.d4 i).dm (β':=β2) (ρ:=bz hs base) (fun _=>hβ1 i hi) fun k hk=>hβ1 k (hln k (R.mb i k hk))
     exact this.mono hnobor (fun _ _ _=>rfl) (fun _=>rfl) (fun _ _=>rfl) (fun _ _ _=>rfl)
    ·obtain⟨q,h1,h2⟩:=aA.pt hj
     subst h2
     have hq:=R.mb i q h1
     rw[hL1 q (hln q hq),Ne,aA.gD]
     exact hq
   ·rw[hL2 k hc]
    refine .inl ⟨rfl,fun hl' b hb'=>hnotmine b (fun i hi e=>hc i (hln i (R.nf i (aA.ck hi))) (h.nG k _ b hl' (hlive i hi) hb' e)) (h.own k b hl' hb').2.2⟩
  ·rcases hl2 k h1 with⟨i,hi,e,hlv⟩|⟨hc,hlv⟩
   ·subst e
    rw[hβ1 i hi]at h2
    obtain⟨r1,r2,r3⟩:=R.own i b hlv h2
    refine⟨r1,fun hb'=>?_,r2⟩
    obtain⟨q,hq1,hq2⟩:=r3 (kl b hb')
    exact(h.own _ b (hlive q hq1) hq2).2.1 hb'
   ·rw[hβ2 k hc]at h2
    have o:=h.own k b hlv h2
    exact⟨fun hb'=>o.1 (R.fold b hb' o.2.2),o.2.1,Nat.lt_of_lt_of_le o.2.2 R.size⟩
  ·have mixed:∀i k',(look Hout i).live->(∀j:Hd,j.key<Hout.length->k'≠bz hs base j)->(L k').live->(β1 i).1=some b->(β k').1=some b->False:=by
    intro i k' hli hc hlk e1 e2
    obtain⟨_,_,r3⟩:=R.own i b hli e1
    obtain⟨q,hq1,hq2⟩:=r3 (h.own k' b hlk e2).2.2
    exact hc q (hln q (R.nf q (aA.ck hq1))) (h.nG k' _ b hlk (hlive q hq1) e2 hq2)
   rcases hl2 k h1 with⟨i,hi,e,hli⟩|⟨hc,hlk⟩<;>rcases hl2 k' h2 with⟨i',hi',e',hli'⟩|⟨hc',hlk'⟩
   ·subst e;subst e'
    rw[hβ1 i hi]at h3;rw[hβ1 i' hi']at h4
    rw[R.nG i i' b hli hli' h3 h4]
   ·subst e
    rw[hβ1 i hi]at h3;rw[hβ2 k' hc']at h4
    exact(mixed i k' hli hc' hlk' h3 h4).elim
   ·subst e'
    rw[hβ1 i' hi']at h4;rw[hβ2 k hc]at h3
    exact(mixed i' k hli' hc hlk h4 h3).elim
   ·rw[hβ2 k hc]at h3;rw[hβ2 k' hc']at h4
    exact h.nG k k' b hlk hlk' h3 h4
 refine⟨_,ups,F1,β2,hk,by rw[hL2'];exact hst,?_,fun k hk=>?_⟩
 ·exact(R.rel.dm (β':=β2) (ρ:=bz hs base) fun k hk=>hβ1 k (hln k (R.mr k hk))).mono hnobor (fun _ _ _=>rfl) fun _ _=>rfl
 ·obtain⟨q,h1,h2⟩:=AV.pt hk
  subst h2
  have hq:=R.mr q h1
  rw[hL2',hL1 q (hln q hq),Ne,aA.gD]
  exact hq
end
end
section
section
variable {P:Program} {Γ:oy} {E:Env} {n:Nat} {s:Nat->AV} {L:Hd->aA} {a:Act} {w:World} {F:Nat->Prop} {β:Hd->Option Nat×Nat} {K:AV->List (Hd×aA)->Prop}
 {W:Operand->(AV->Prop)->Prop} {LK:Hd->(aA->Prop)->Prop} {wr:FuncId->Bool} {base:Nat}
theorem sD (hΓ:gW P Γ) {t:TypeId} {K:TypeId->TI->TypeId->TI->Prop} (h:l5 Γ t K):∃k ki e ei,P.underlying t=some (.map k e)/\Γ k=some ki/\Γ e=some ei/\K k ki e ei:=by
 unfold l5 at h
 split at h
 ·rename_i i hi
  split at h
  ·rename_i k e hd
   have hu:=(hΓ t _ hi).desc
   rw[hd]at hu
   split at h
   ·rename_i ki hk
    split at h
    ·rename_i ei he
     exact⟨k,ki,e,ei,hu,hk,he,h⟩
    ·exact h.elim
   ·exact h.elim
  ·exact h.elim
 ·exact h.elim
theorem Lc {w FB}:∀{zs xs ys:List PV} {va vb:List Value},lJ zs xs=true->lJ zs ys=true->va.length=xs.length->vb.length=ys.length->
  (∀(i:Nat) c v,xs[i]?=some c->va[i]?=some v->PR w FB c v)->(∀(i:Nat) c v,ys[i]?=some c->vb[i]?=some v->PR w FB c v)->I3 va vb (PV.x9 xs ys):=by
 intro zs
 induction zs with
 |nil=>
  intro xs ys va vb h1 h2 l1 l2 _ _
  cases xs with
  |cons x xs=>cases x<;>cases h1
  |nil=>
   cases ys with
   |cons y ys=>cases y<;>cases h2
   |nil=>
    cases va with
    |cons=>simp at l1
    |nil=>cases vb with
     |cons=>simp at l2
     |nil=>exact .nil
 |cons z zs ih=>
  intro xs ys va vb h1 h2 l1 l2 r1 r2
  cases xs with
  |nil=>cases z<;>cases h1
  |cons x xs=>
  cases ys with
  |nil=>cases z<;>cases h2
  |cons y ys=>
  cases va with
  |nil=>simp at l1
  |cons u va=>
  cases vb with
  |nil=>simp at l2
  |cons v vb=>
  have a0:=r1 0 x u rfl rfl
  have b0:=r2 0 y v rfl rfl
  have ih':=fun h1 h2=>ih (xs:=xs) (ys:=ys) (va:=va) (vb:=vb) h1 h2 (by simpa using l1) (by simpa using l2) (fun i c v e1 e2=>r1 (i+1) c v (by simpa using e1) (by simpa using e2)) (fun i c v e1 e2=>r2 (i+1) c v (by simpa using e1) (by simpa using e2))
  cases z with
  |int k n=>
   cases x with
   |int k1 n1=>
    cases y with
    |int k2 n2=>
     simp only[lJ,Bool.and_eq_true,decide_eq_true_eq]at h1 h2
     obtain⟨rfl,h1⟩:=h1
     obtain⟨rfl,h2⟩:=h2
     cases a0;cases b0
     simp only[PV.x9,decide_true,Bool.true_and]
     exact .int (ih' h1 h2)
    |_=>cases h2
   |_=>cases h1
  |bool b=>
   cases x with
   |bool b1=>
    cases y with
    |bool b2=>
     cases a0;cases b0
     simp only[PV.x9]
     exact .bool (ih' h1 h2)
    |_=>cases h2
   |_=>cases h1
  |_=>cases x<;>cases h1
theorem DU:∀{xs ys:List PV},PV.x9 xs ys=true->xs=ys:=by
 intro xs
 induction xs with
 |nil=>intro ys h;cases ys with
  |nil=>rfl
  |cons y ys=>cases y<;>cases h
 |cons x xs ih=>
  intro ys h
  cases ys with
  |nil=>cases x<;>cases h
  |cons y ys=>
   cases x with
   |int k a=>
    cases y with
    |int k' b=>
     simp only[PV.x9,Bool.and_eq_true,decide_eq_true_eq,beq_iff_eq]at h
     obtain⟨rfl,rfl,h⟩:=h
     rw[ih h]
    |_=>cases h
   |bool a=>
    cases y with
    |bool b=>
     simp only[PV.x9,Bool.and_eq_true,beq_iff_eq]at h
     obtain⟨rfl,h⟩:=h
     rw[ih h]
    |_=>cases h
   |_=>cases y<;>cases h
theorem Ie {p q:PV} (h:PV.iZ p q=true):p=q:=by
 cases p<;>cases q<;>first|(cases h;done)|skip
 ·simp only[PV.iZ,Bool.and_eq_true,decide_eq_true_eq,beq_iff_eq]at h
  obtain⟨rfl,rfl⟩:=h;rfl
 ·rw[DU h]
theorem E0 {zs:List PV} {xs:List PV} {va vb:List Value} {w FB w' FB'} (h:iB zs va) (h':va.length=xs.length) (h'':vb.length=xs.length) (r1:∀(i:Nat) c v,xs[i]?=some c->va[i]?=some v->PR w FB c v)
  (r2:∀(i:Nat) c v,xs[i]?=some c->vb[i]?=some v->PR w' FB' c v):va=vb:=by
 apply List.ext_getElem qO
 intro i i1 i2
 have e1:va[i]?=some va[i]:=List.getElem?_eq_getElem i1
 have e2:vb[i]?=some vb[i]:=List.getElem?_eq_getElem i2
 have e3:xs[i]?=some xs[i]:=List.getElem?_eq_getElem qO
 have a:=r1 i _ _ e3 e1
 have b:=r2 i _ _ e3 e2
 have key:∀(zs:List PV) (va:List Value),iB zs va->∀(i:Nat) v,va[i]?=some v->(∃k n,v= .int k n)\/∃b,v= .bool b:=by
  intro zs va h
  induction h with
  |nil=>intro i v e;simp at e
  |int h ih=>intro i v e;cases i with
   |zero=>simp at e;exact .inl ⟨_,_,e.symm⟩
   |succ i=>exact ih i v (by simpa using e)
  |bool h ih=>intro i v e;cases i with
   |zero=>simp at e;exact .inr ⟨_,e.symm⟩
   |succ i=>exact ih i v (by simpa using e)
 rcases key zs va h i _ e1 with⟨k,q,e⟩|⟨q,e⟩
 ·rw[e]at a⊢
  generalize xs[i]=p at a b
  generalize vb[i]=v at b
  cases a with
  |int=>cases b;rfl
  |raw _=>cases b;rfl
 ·rw[e]at a⊢
  generalize xs[i]=p at a b
  generalize vb[i]=v at b
  cases a with
  |bool=>cases b;rfl
  |raw _=>cases b;rfl
theorem vg {zs:List PV} {va:List Value} (h:iB zs va) (m:Nat):((va.zip va).all fun x=>Instr.sameBits m x.1 x.2)=true:=by
 induction h with
 |nil=>rfl
 |int h ih=>simp only[List.zip_cons_cons,List.all_cons,ih,Bool.and_true];cases m<;>simp[Instr.sameBits]
 |bool h ih=>simp only[List.zip_cons_cons,List.all_cons,ih,Bool.and_true];cases m<;>simp[Instr.sameBits]
structure j5 (P:Program) (t:TypeId) (i:TI) (w:World) (FB:Bool->Nat->Prop) (p:PV) (v:Value):Prop where
 b:i.ue p=true
 r:PR w FB p v
section
variable {t:TypeId} {i:TI} {FB:Bool->Nat->Prop}
theorem j5.cases {p:PV} {v:Value} (h:j5 P t i w FB p v):(∃k a,i.d= .int k/\p= .int k a/\v= .int k a)\/
  ∃xs vs,p= .agg xs/\v= .agg vs/\(∀k,i.d≠ .int k)/\i.eq=true/\i.d.agg=true/\lJ i.zero xs=true/\vs.size=xs.length/\∀(j:Nat) c u,xs[j]?=some c->vs[j]?=some u->PR w FB c u:=by
 obtain⟨hb,hr⟩:=h
 unfold TI.ue at hb
 split at hb
 ·rename_i k hd
  split at hb
  ·rename_i k' a
   have:k=k':=by simpa using hb
   subst this
   cases hr
   exact .inl ⟨k,a,hd,rfl,rfl⟩
  ·cases hb
 ·rename_i hd
  split at hb
  ·rename_i xs
   simp only[Bool.and_eq_true]at hb
   cases hr with|agg _ vs hone hl hr=>
   exact .inr ⟨xs,vs,rfl,rfl,hd,hb.1,hb.2.1,hb.2.2,hl,hr⟩
  ·cases hb
theorem j5.check (hi:oJ P t i) {p:PV} {v:Value} (h:j5 P t i w FB p v) (b:Bool):(Instr.checkKey b 10000 t v).run P w= .ok () w:=by
 rcases h.cases with⟨k,x,hd,rfl,rfl⟩|⟨xs,vs,rfl,rfl,hd,he,ha,hs,hl,hr⟩
 ·have hu:=hi.desc
  rw[hd]at hu
  have hu:P.underlying t=some (.int k):=hu
  show(Instr.checkKey b (9999+1) t (.int k x)).run P w=_
  unfold Instr.checkKey
  simp[run_underlying hu]
 ·have:=hi.keys he w b vs.toList (px hs (by simpa using hl) fun j c u e1 e2=>hr j c u e1 (by simpa using e2))
  simpa using this
theorem j5.eq (hi:oJ P t i) {p q:PV} {v u:Value} (h:j5 P t i w FB p v) (h':j5 P t i w FB q u):(PV.iZ p q=true->p=q/\v=u)/\
  ((∃k,P.underlying t=some (.int k)/\Instr.sameNow (.int k) v u=some (PV.iZ p q))\/
   ((match P.underlying t with|some (.array _ _)|some (.struct _)=>true|_=>false)=true/\(Op.equal t v u).run P w= .ok (PV.iZ p q) w)):=by
 rcases h.cases with⟨k,x,hd,rfl,rfl⟩|⟨xs,vs,rfl,rfl,hd,he,ha,hs,hl,hr⟩
 ·rcases h'.cases with⟨k',y,hd',rfl,rfl⟩|⟨ys,us,_,_,hd',_⟩
  ·rw[hd]at hd';cases hd'
   refine⟨fun e=>?_,.inl ⟨k,by have:=hi.desc;rw[hd]at this;exact this,by simp[Instr.sameNow,PV.iZ]⟩⟩
   have:=Ie e
   cases this;exact⟨rfl,rfl⟩
  ·exact(hd' k hd).elim
 ·rcases h'.cases with⟨k',y,hd',_⟩|⟨ys,us,rfl,rfl,hd',_,_,hs',hl',hr'⟩
  ·exact(hd k' hd').elim
  ·have kv:=px hs (va:=vs.toList) (by simpa using hl) fun j c u e1 e2=>hr j c u e1 (by simpa using e2)
   refine⟨fun e=>?_,.inr ⟨?_,?_⟩⟩
   ·have e2:=DU (xs:=xs) (ys:=ys) e
    subst e2
    have:=E0 (xs:=xs) (vb:=us.toList) kv (by simpa using hl) (by simpa using hl') (fun j c u e1 e2=>hr j c u e1 (by simpa using e2)) (fun j c u e1 e2=>hr' j c u e1 (by simpa using e2))
    refine⟨rfl,?_⟩
    rw[Array.toList_inj.1 this]
   ·have:=hi.desc
    cases hdd:i.d with
    |struct fs=>rw[hdd]at this;obtain⟨f,h1,_⟩:=this;rw[h1]
    |array n e=>rw[hdd]at this;rw[show P.underlying t=some (.array n e)from this]
    |_=>rw[hdd]at ha;cases ha
   ·have:=(hi.eqs he).2 w vs.toList us.toList _ (Lc (xs:=xs) (ys:=ys) hs hs' (by simpa using hl) (by simpa using hl') (fun j c u e1 e2=>hr j c u e1 (by simpa using e2)) (fun j c u e1 e2=>hr' j c u e1 (by simpa using e2))) kv
    simpa[PV.iZ]using this
theorem j5.stays {p:PV} {v:Value} (h:j5 P t i w FB p v):(Instr.keyThatStays v v).run P w= .ok v w:=by
 have:Instr.sameBits 10000 v v=true:=by
  rcases h.cases with⟨k,x,hd,rfl,rfl⟩|⟨xs,vs,rfl,rfl,hd,he,ha,hs,hl,hr⟩
  ·simp[Instr.sameBits]
  ·have kv:=px hs (va:=vs.toList) (by simpa using hl) fun j c u e1 e2=>hr j c u e1 (by simpa using e2)
   show Instr.sameBits (9999+1) (.agg vs) (.agg vs)=true
   simp only[Instr.sameBits,beq_self_eq_true,Bool.true_and]
   exact vg kv 9999
 simp[Instr.keyThatStays,this]
theorem tH (hi:oJ P t i) {p:PV} {v:Value} (h:j5 P t i w FB p v):∀(es:List (PV×PV)) (en:List MapEntry) (hl:en.length=es.length) (hk:∀(j:Nat) x e,es[j]?=some x->en[j]?=some e->j5 P t i w FB x.1 e.key),
  (∀(j:Nat) x e,es[j]?=some x->en[j]?=some e->PV.iZ p x.1=true->(∀j' x',j'<j->es[j']?=some x'->PV.iZ p x'.1=false)->(Instr.findKey t v en).run P w= .ok (some (j,e.val)) w)/\
  ((∀x∈es,PV.iZ p x.1=false)->(Instr.findKey t v en).run P w= .ok none w):=by
 have now:∀k,(∀q u,j5 P t i w FB q u->Instr.sameNow (.int k) v u=some (PV.iZ p q))->∀(es:List (PV×PV)) (en:List MapEntry) (o:Nat) (hl:en.length=es.length) (hk:∀(j:Nat) x e,es[j]?=some x->en[j]?=some e->j5 P t i w FB x.1 e.key),
   (∀(j:Nat) x e,es[j]?=some x->en[j]?=some e->PV.iZ p x.1=true->(∀j' x',j'<j->es[j']?=some x'->PV.iZ p x'.1=false)->Instr.findNow (.int k) v en o=some (some (o+j,e.val)))/\
   ((∀x∈es,PV.iZ p x.1=false)->Instr.findNow (.int k) v en o=some none):=by
  intro k hs es
  induction es with
  |nil=>intro en o hl hk;cases en with
   |nil=>exact⟨fun j x e h1=>by simp at h1,fun _=>rfl⟩
   |cons=>simp at hl
  |cons x es ih=>
   intro en o hl hk
   cases en with
   |nil=>simp at hl
   |cons e en=>
    obtain⟨i1,i2⟩:=ih en (o+1) (by simpa using hl) fun j x e h1 h2=>hk (j+1) x e (by simpa using h1) (by simpa using h2)
    have h0:=hs _ _ (hk 0 x e rfl rfl)
    refine⟨fun j x' e' h1 h2 h3 h4=>?_,fun h1=>?_⟩
    ·cases j with
     |zero=>simp at h1 h2;subst h1;subst h2;simp[Instr.findNow,h0,h3]
     |succ j=>
      have hf:=h4 0 x qO rfl
      have:=i1 j x' e' (by simpa using h1) (by simpa using h2) h3 fun j' y hj hy=>h4 (j'+1) y qO (by simpa using hy)
      simp only[Instr.findNow,h0,hf,this]
      congr 3;omega
    ·simp only[Instr.findNow,h0,h1 x qS]
     exact i2 fun y hy=>h1 y (by simp[hy])
 have ask:(∀q u,j5 P t i w FB q u->(Op.equal t v u).run P w= .ok (PV.iZ p q) w)->∀(es:List (PV×PV)) (en:List MapEntry) (o:Nat) (hl:en.length=es.length) (hk:∀(j:Nat) x e,es[j]?=some x->en[j]?=some e->j5 P t i w FB x.1 e.key),
   (∀(j:Nat) x e,es[j]?=some x->en[j]?=some e->PV.iZ p x.1=true->(∀j' x',j'<j->es[j']?=some x'->PV.iZ p x'.1=false)->(Instr.findAsking t v en o).run P w= .ok (some (o+j,e.val)) w)/\
   ((∀x∈es,PV.iZ p x.1=false)->(Instr.findAsking t v en o).run P w= .ok none w):=by
  intro hs es
  induction es with
  |nil=>intro en o hl hk;cases en with
   |nil=>exact⟨fun j x e h1=>by simp at h1,fun _=>by simp[Instr.findAsking]⟩
   |cons=>simp at hl
  |cons x es ih=>
   intro en o hl hk
   cases en with
   |nil=>simp at hl
   |cons e en=>
    obtain⟨i1,i2⟩:=ih en (o+1) (by simpa using hl) fun j x e h1 h2=>hk (j+1) x e (by simpa using h1) (by simpa using h2)
    have h0:=hs _ _ (hk 0 x e rfl rfl)
    refine⟨fun j x' e' h1 h2 h3 h4=>?_,fun h1=>?_⟩
    ·cases j with
     |zero=>simp at h1 h2;subst h1;subst h2;simp[Instr.findAsking,h0,h3]
     |succ j=>
      have hf:=h4 0 x qO rfl
      have:=i1 j x' e' (by simpa using h1) (by simpa using h2) h3 fun j' y hj hy=>h4 (j'+1) y qO (by simpa using hy)
      rw[show o+(j+1)=o+1+j by omega]
      simp[Instr.findAsking,h0,hf,this]
    ·have:=i2 fun y hy=>h1 y (by simp[hy])
     simp[Instr.findAsking,h0,h1 x qS,this]
 intro es en hl hk
 rcases(h.eq hi h).2 with⟨k,hu,_⟩|⟨hw,_⟩
 ·have hs:∀q u,j5 P t i w FB q u->Instr.sameNow (.int k) v u=some (PV.iZ p q):=fun q u hq=>by
   rcases(h.eq hi hq).2 with⟨k',hu',e⟩|⟨hw,_⟩
   ·rw[hu]at hu';cases hu';exact e
   ·rw[hu]at hw;cases hw
  obtain⟨n1,n2⟩:=now k hs es en 0 hl hk
  refine⟨fun j x e h1 h2 h3 h4=>?_,fun h1=>?_⟩
  ·have:=n1 j x e h1 h2 h3 h4
   rw[Nat.zero_add]at this
   exact MapKept.run_findKey hu this
  ·exact MapKept.run_findKey hu (n2 h1)
 ·have hs:∀q u,j5 P t i w FB q u->(Op.equal t v u).run P w= .ok (PV.iZ p q) w:=fun q u hq=>by
   rcases(h.eq hi hq).2 with⟨k',hu',e⟩|⟨_,e⟩
   ·rw[hu']at hw;cases hw
   ·exact e
  obtain⟨n1,n2⟩:=ask hs es en 0 hl hk
  rw[run_findKey_eq w hw]
  refine⟨fun j x e h1 h2 h3 h4=>?_,n2⟩
  have:=n1 j x e h1 h2 h3 h4
  rw[Nat.zero_add]at this
  exact this
end
theorem AK (hΓ:gW P Γ) (h:cC E n s L a w F β) (hf:∀v ups,K v ups->∀x∈ups,base<=x.1.key->fZ L x.1.key) {t:TypeId} (hk:aR Γ P wr W LK L base (.makeMap t none) K):Out P E n s L a K ((Instr.makeMap t none).run P w):=by
 simp only[aR]at hk
 obtain⟨_,_,_,_,_,_,_,hk⟩:=sD hΓ hk
 have hfree:L base= .free:=(hf _ _ hk (base,.map []) qS (Nat.le_refl _)).1
 have hr:(Instr.makeMap t none).run P w= .ok (.map (some w.heap.size)) (w.alloc (.map #[] 0)):=by
  have hn:(newObj (.map #[] 0)).run P w= .ok w.heap.size (w.alloc (.map #[] 0)):=rfl
  simp[Instr.makeMap,hn]
 rw[hr]
 have hst:=h.alloc (w':=w.alloc (.map #[] 0)) (.map #[] 0) (.map []) base 0 rfl rfl rfl rfl hfree ⟨w.heap.size,#[],0,by rw[ah],fp w _,rfl,fun i x e e1=>by simp at e1,fun i e e1=>by simp at e1,fun i j e e' e1=>by simp at e1⟩ trivial (fun j hj=>hj.elim)
 refine⟨.map base,_,F,_,hk,hst,.map (by rw[ah]),fun k hk=>?_⟩
 obtain rfl:(base:Hd)=k:=hk
 show a8 L base _ base≠_
 rw[ah];exact fun e=>by cases e
theorem Jk {α:Type} {p:α->Bool}:∀(l:List α),(∃x,x∈l/\p x=true)->∃(i:Nat) (x:α),l[i]?=some x/\p x=true/\∀j:Nat,j<i->∀y,l[j]?=some y->p y=false:=by
 intro l
 induction l with
 |nil=>intro⟨x,h,_⟩;simp at h
 |cons z l ih=>
  intro⟨x,h,hp⟩
  cases hz:p z with
  |true=>exact⟨0,z,rfl,hz,fun j hj=>absurd hj (Nat.not_lt_zero _)⟩
  |false=>
   rcases List.mem_cons.1 h with rfl|h
   ·rw[hz]at hp;cases hp
   ·obtain⟨i,y,h1,h2,h3⟩:=ih ⟨x,h,hp⟩
    refine⟨i+1,y,by simpa using h1,h2,fun j hj w hw=>?_⟩
    cases j with
    |zero=>simp at hw;rw[<-hw];exact hz
    |succ j=>exact h3 j qO w (by simpa using hw)
theorem zM (hL:∀h K,LK h K->K (L h)) (h:cC E n s L a w F β) {v:AV} {x:Value} (hx:VR w (aM E.bW F) β v x) {K':List (PV×PV)->Prop} (hk:kA LK v K'):
  ∃(es es0:List (PV×PV)) (b:Nat) (en:Array MapEntry) (clock:Nat),K' es/\es0.Perm es/\x= .map (some b)/\w.heap[b]?=some (.map en clock)/\en.size=es0.length/\(∀(i:Nat) (x:PV×PV) (e:MapEntry),es0[i]?=some x->en[i]?=some e->PR w (aM E.bW F) x.1 e.key/\PR w (aM E.bW F) x.2 e.val):=by
 unfold kA at hk
 split at hk
 ·rename_i hd
  have hk:=hL hd _ hk
  have hb:=h.d4 hd
  generalize hB:L hd=B at hk hb
  split at hk
  ·rename_i es
   obtain⟨b,en,clock,h1,h2,h3,h4,h5,h6⟩:=hb
   cases hx with|map hb'=>
   rw[h1]at hb';cases hb'
   exact⟨es,es,b,en,clock,hk,List.Perm.refl _,rfl,h2,h3,h4⟩
  ·exact hk.elim
 ·rename_i m es
  cases hx with|p hx=>
  cases hx with|mp _ _ es0 hp b clock en hb hm hl hk' hv hbo hd=>
  exact⟨es,es0,b,en,clock,hk,hp,rfl,hm,hl,fun i x e e1 e2=>⟨hk' i x e e1 e2,hv i x e e1 e2⟩⟩
 ·exact hk.elim
theorem Ii (hΓ:gW P Γ) {e:TypeId} {i:TI} (hi:Γ e=some i) {K':PV->Prop} (hk:sX i K'):∃z zv,K' z/\(∀w,(zeroValue e).run P w= .ok zv w)/\∀w FB,PR w FB z zv:=by
 obtain⟨info,zv,h1,h2,h3,h4,h5,h6,h7⟩:=(hΓ e i hi).info
 have hz:∀w,(zeroValue e).run P w= .ok zv w:=fun w=>by simp[zeroValue,typeInfo,h1,h4]
 have hza:=(hΓ e i hi).Mx info zv h1 h4
 unfold sX at hk
 split at hk
 ·rename_i ha
  obtain⟨arr,rfl⟩:=hza.1 ha
  refine⟨_,_,hk,hz,fun w FB=>.agg _ _ (hΓ e i hi).plain (by rw[h6];exact h5) fun j c v e1 e2=>h7 w FB j c v e1 e2⟩
 ·rename_i ha
  split at hk
  ·rename_i z hz'
   refine⟨z,zv,hk,hz,fun w FB=>h7 w FB 0 z zv (by rw[hz'];rfl) (by rw[hza.2 ha];rfl)⟩
  ·exact hk.elim
theorem BH (hΓ:gW P Γ) (hW:∀x K,W x K->K (cL s x)) (hL:∀h K,LK h K->K (L h)) (h:cC E n s L a w F β) {t:TypeId} {x y:Operand} {ok:Bool} (hk:aR Γ P wr W LK L base (.lookup t x y ok) K):
  Out P E n s L a K ((Instr.lookup t (a.eval x) (a.eval y) ok).run P w):=by
 simp only[aR]at hk
 have hx:=h.ev x
 have hy:=h.ev y
 have hk:=hW y _ (hW x _ hk)
 generalize cL s x=vx at hk hx
 generalize cL s y=vy at hk hy
 generalize a.eval x=ax at hx
 generalize a.eval y=ay at hy
 obtain⟨kt,ki,et,ei,hu,hki,hei,hk⟩:=sD hΓ hk
 obtain⟨key,hk,hp⟩:=j3 hk
 have hkey:=hp _ _ _ _ hy
 obtain⟨hkb,hk⟩:=cond_not hk
 obtain⟨es,es0,b,en,clock,hk,hpm,rfl,hb,hl,hr⟩:=zM hL h hx hk
 obtain⟨hks,hk⟩:=hk
 have kv:j5 P kt ki w (aM E.bW F) key ay:=⟨hkb,hkey⟩
 have hkv:∀(j:Nat) x e,es0[j]?=some x->en.toList[j]?=some e->j5 P kt ki w (aM E.bW F) x.1 e.key:=fun j x e e1 e2=>⟨hks x (hpm.mem_iff.1 (List.mem_of_getElem? e1)),(hr j x e e1 (by simpa using e2)).1⟩
 obtain⟨f1,f2⟩:=tH (hΓ kt ki hki) kv es0 en.toList (by simpa using hl) hkv
 have hck:=kv.check (hΓ kt ki hki) en.isEmpty
 have hget:=MapKept.run_getObj_map (P:=P) hb
 cases hk with
 |yes i0 e h1' he' hf' hk=>
  obtain⟨i,e',h1,he,hf⟩:=Jk (p:=fun x=>PV.iZ key x.1) es0 ⟨e,hpm.mem_iff.2 (List.mem_of_getElem? h1'),he'⟩
  obtain rfl:e'=e:=by
   obtain⟨j,hj⟩:=List.getElem?_of_mem (hpm.mem_iff.1 (List.mem_of_getElem? h1))
   by_cases c:j=i0
   ·subst c;rw[h1']at hj;cases hj;rfl
   ·have:=hf' j e' c hj
    have he2:PV.iZ key e'.1=true:=he
    rw[he2]at this;cases this
  have hf:∀j e'',j<i->es0[j]?=some e''->PV.iZ key e''.1=false:=fun j e'' hj h=>hf j hj e'' h
  have hi:i<en.size:=by rw[hl];exact(List.getElem?_eq_some_iff.1 h1).1
  have h2:en.toList[i]?=some en[i]:=by simp[hi]
  have hfi:=f1 i e' _ h1 h2 he hf
  have hval:=(hr i e' en[i] h1 (by simp[hi])).2
  cases ok with
  |true=>
   have:(Instr.lookup t (.map (some b)) ay true).run P w= .ok (.tuple #[en[i].val,.bool true]) w:=by
    simp[Instr.lookup,run_underlying hu,hget,hck,hfi]
   rw[this]
   refine .same h hk (.bK _ _ rfl fun j c v e1 e2=>?_) fun k hk=>?_
   ·match j,e1,e2 with
    |0,e1,e2=>cases e1;cases e2;exact .p hval
    |1,e1,e2=>cases e1;cases e2;exact .tf true
   ·simp only[AV.aT,AV.bm,or_self]at hk
  |false=>
   have:(Instr.lookup t (.map (some b)) ay false).run P w= .ok en[i].val w:=by
    simp[Instr.lookup,run_underlying hu,hget,hck,hfi]
   rw[this]
   exact .same h hk (.p hval) fun k hk=>by simp only[AV.aT]at hk
 |no h1 hk=>
  have hfi:=f2 fun x hx=>h1 x (hpm.mem_iff.1 hx)
  obtain⟨z,zv,hk,hz,hzr⟩:=Ii hΓ hei hk
  cases ok with
  |true=>
   have:(Instr.lookup t (.map (some b)) ay true).run P w= .ok (.tuple #[zv,.bool false]) w:=by
    simp[Instr.lookup,run_underlying hu,hget,hck,hfi,hz]
   rw[this]
   refine .same h hk (.bK _ _ rfl fun j c v e1 e2=>?_) fun k hk=>?_
   ·match j,e1,e2 with
    |0,e1,e2=>cases e1;cases e2;exact .p (hzr _ _)
    |1,e1,e2=>cases e1;cases e2;exact .tf false
   ·simp only[AV.aT,AV.bm,or_self]at hk
  |false=>
   have:(Instr.lookup t (.map (some b)) ay false).run P w= .ok zv w:=by
    simp[Instr.lookup,run_underlying hu,hget,hck,hfi,hz]
   rw[this]
   exact .same h hk (.p (hzr _ _)) fun k hk=>by simp only[AV.aT]at hk
theorem ua (hΓ:gW P Γ) (hL:∀h K,LK h K->K (L h)) (h:cC E n s L a w F β) {t:TypeId} {vm vk vx:AV} {am ak ax:Value} (hm:VR w (aM E.bW F) β vm am) (hkk:VR w (aM E.bW F) β vk ak) (hx:VR w (aM E.bW F) β vx ax)
  (hk:d6 Γ LK t vm vk vx K):∃w',(Instr.mapUpdate t am ak ax).run P w= .ok () w'/\Out P E n s L a K (.ok Go.undef w'):=by
 unfold d6 at hk
 obtain⟨kt,ki,et,ei,hu,hki,hei,hk⟩:=sD hΓ hk
 obtain⟨key,hk,hp⟩:=j3 hk
 have hkey:=hp _ _ _ _ hkk
 obtain⟨val,hk,hp'⟩:=j3 hk
 have hval:=hp' _ _ _ _ hx
 obtain⟨hkb,hk⟩:=cond_not hk
 split at hk
 ·rename_i hd _ _ _ _
  have hk:=hL hd _ hk
  have hb:=h.d4 hd
  have hlv0:∀es,L hd= .map es->(L hd).live:=fun es e=>by rw[e];trivial
  generalize hB:L hd=B at hk hb
  split at hk
  ·rename_i es
   have hlv:=hlv0 es hB
   obtain⟨b,en,clock,h1,h2,h3,h4,h5,h6⟩:=hb
   cases hm with|map hb'=>
   rw[h1]at hb';cases hb'
   obtain⟨hks,hk⟩:=hk
   have kv:j5 P kt ki w (aM E.bW F) key ak:=⟨hkb,hkey⟩
   have hkv:∀(j:Nat) x e,es[j]?=some x->en.toList[j]?=some e->j5 P kt ki w (aM E.bW F) x.1 e.key:=fun j x e e1 e2=>⟨hks x (List.mem_of_getElem? e1),(h4 j x e e1 (by simpa using e2)).1⟩
   obtain⟨f1,f2⟩:=tH (hΓ kt ki hki) kv es en.toList (by simpa using h3) hkv
   have hck:=kv.check (hΓ kt ki hki) false
   have hget:=MapKept.run_getObj_map (P:=P) h2
   have own:=h.own hd b hlv h1
   have fin:∀(en':Array MapEntry) (clock':Nat) (es':List (PV×PV)),K .undef [(hd,.map es')]->en'.size=es'.length->(∀(i:Nat) (x:PV×PV) (e:MapEntry),es'[i]?=some x->en'[i]?=some e->PR w (aM E.bW F) x.1 e.key/\PR w (aM E.bW F) x.2 e.val)->
     (∀(i:Nat) (e:MapEntry),en'[i]?=some e->e.born<clock')->(∀(i j:Nat) (e e':MapEntry),en'[i]?=some e->en'[j]?=some e'->e.born=e'.born->i=j)->
     Out P E n s L a K (.ok Go.undef {w with heap:=w.heap.setIfInBounds b (.map en' clock')}):=by
    intro en' clock' es' hk q1 q2 q3 q4
    have hh:∀b',b'≠b->(w.heap.setIfInBounds b (.map en' clock'))[b']?=w.heap[b']?:=(MapKept.heap_set h2).2
    have up:∀{p:PV} {x:Value},PR w (aM E.bW F) p x->PR {w with heap:=w.heap.setIfInBounds b (.map en' clock')} (aM E.bW F) p x:=fun hp=>hp.mono (fun _ _=>id) fun m b' hb'=>hh b' (by
     intro e;subst e
     cases m
     ·exact own.1 hb'
     ·exact own.2.1 (h.Ca _ hb'))
    refine⟨.undef,_,F,β,hk,?_,.undef,fun k hk=>by simp only[AV.aT]at hk⟩
    exact h.write (.map es') hd rfl rfl rfl qS h1 hh hlv ⟨b,en',clock',h1,(MapKept.heap_set h2).1,q1,fun i x e e1 e2=>⟨up (q2 i x e e1 e2).1,up (q2 i x e e1 e2).2⟩,q3,q4⟩ trivial (fun j hj=>hj.elim)
   cases hk with
   |iN i e es' g1 ge gf gs hk=>
    subst gs
    have hi:i<en.size:=by rw[h3];exact(List.getElem?_eq_some_iff.1 g1).1
    have g2:en.toList[i]?=some en[i]:=by simp[hi]
    have g2':en[i]?=some en[i]:=by simp[hi]
    have hfi:=f1 i e _ g1 g2 ge gf
    have hee:=(kv.eq (hΓ kt ki hki) (hkv i e _ g1 g2)).1 ge
    have hst:=kv.stays
    have hr:(Instr.mapUpdate t (.map (some b)) ak ax).run P w= .ok () {w with heap:=w.heap.setIfInBounds b (.map (en.modify i fun e=>{e with key:=ak,val:=ax}) clock)}:=by
     simp[Instr.mapUpdate,run_underlying hu,hget,hck,hfi,g2',<-hee.2,hst,MapKept.run_setObj_map _ h2]
    refine⟨_,hr,fin _ _ _ hk (by simp[h3]) (fun j x e' e1 e2=>?_) (fun j e' e1=>?_) (fun j j' e1 e2 q1 q2 q3=>?_)⟩
    ·rw[Array.getElem?_modify]at e2
     by_cases hij:i=j
     ·subst hij
      rw[if_pos rfl,g2']at e2
      rw[List.getElem?_set_self (by rw[<-h3];exact hi)]at e1
      cases e1;cases e2
      exact⟨hkey,hval⟩
     ·rw[if_neg hij]at e2
      rw[List.getElem?_set_ne hij]at e1
      exact h4 j x e' e1 e2
    ·rw[Array.getElem?_modify]at e1
     split at e1
     ·rename_i hij;subst hij;rw[g2']at e1;cases e1;exact h5 i en[i] g2'
     ·exact h5 j e' e1
    ·have born:∀(j:Nat) e',(en.modify i fun e=>{e with key:=ak,val:=ax})[j]?=some e'->∃e'',en[j]?=some e''/\e''.born=e'.born:=by
      intro j e' hj
      rw[Array.getElem?_modify]at hj
      split at hj
      ·rename_i hij;subst hij;rw[g2']at hj;cases hj;exact⟨_,g2',rfl⟩
      ·exact⟨_,hj,rfl⟩
     obtain⟨x1,y1,z1⟩:=born j e1 q1
     obtain⟨x2,y2,z2⟩:=born j' e2 q2
     exact h6 j j' x1 x2 y1 y2 (by rw[z1,z2];exact q3)
   |new es' g1 gs hk=>
    subst gs
    have hfi:=f2 g1
    have hr:(Instr.mapUpdate t (.map (some b)) ak ax).run P w= .ok () {w with heap:=w.heap.setIfInBounds b (.map (en.push {key:=ak,val:=ax,born:=clock}) (clock+1))}:=by
     simp[Instr.mapUpdate,run_underlying hu,hget,hck,hfi,MapKept.run_setObj_map _ h2]
    have get:∀(j:Nat) e',(en.push {key:=ak,val:=ax,born:=clock})[j]?=some e'->(j<en.size/\en[j]?=some e')\/(j=en.size/\e'={key:=ak,val:=ax,born:=clock}):=by
     intro j e' hj
     rw[Array.getElem?_push]at hj
     split at hj
     ·rename_i hij;cases hj;exact .inr ⟨hij,rfl⟩
     ·have:=(Array.getElem?_eq_some_iff.1 hj).1;exact .inl ⟨this,hj⟩
    refine⟨_,hr,fin _ _ _ hk (by simp[h3]) (fun j x e' e1 e2=>?_) (fun j e' e1=>?_) (fun j j' e1 e2 q1 q2 q3=>?_)⟩
    ·rcases get j e' e2 with⟨hj,e2⟩|⟨hj,rfl⟩
     ·rw[List.getElem?_append_left qO]at e1
      exact h4 j x e' e1 e2
     ·rw[List.getElem?_append_right qO]at e1
      have:j-es.length=0:=qO
      rw[this]at e1
      cases e1
      exact⟨hkey,hval⟩
    ·rcases get j e' e1 with⟨hj,e1⟩|⟨hj,rfl⟩
     ·have:=h5 j e' e1;omega
     ·show clock<clock+1;omega
    ·rcases get j e1 q1 with⟨hj,q1⟩|⟨hj,rfl⟩<;>rcases get j' e2 q2 with⟨hj',q2⟩|⟨hj',rfl⟩
     ·exact h6 j j' e1 e2 q1 q2 q3
     ·have:=h5 j e1 q1;simp at q3;omega
     ·have:=h5 j' e2 q2;simp at q3;omega
     ·omega
  ·exact hk.elim
 ·exact hk.elim
theorem Eh (hΓ:gW P Γ) (h:cC E n s L a w F β) (hf:∀v ups,K v ups->∀x∈ups,base<=x.1.key->fZ L x.1.key) {t:TypeId} {v:AV} {x:Value} (hx:VR w (aM E.bW F) β v x) (hk:w5 Γ base t v K):
  Out P E n s L a K ((Instr.range t x).run P w):=by
 unfold w5 at hk
 obtain⟨kt,ki,et,ei,hu,hki,hei,hk⟩:=sD hΓ hk
 split at hk
 ·rename_i m es _
  cases hx with|p hx=>
  cases hx with|mp _ _ es0 hpm b clock en hb hm hl hk' hv hbo hd=>
  have hk:=hk es0 hpm
  have hfree:L base= .free:=(hf _ _ hk (base,.iter m es0 []) qS (Nat.le_refl _)).1
  have hget:=MapKept.run_getObj_map (P:=P) hm
  have hr:(Instr.range t (.map (some b))).run P w= .ok (.pointer (some ⟨w.heap.size,0,none⟩)) (w.alloc (.mapIter (some b) clock #[] clock)):=by
   have hn:(newObj (.mapIter (some b) clock #[] clock)).run P w= .ok w.heap.size (w.alloc (.mapIter (some b) clock #[] clock)):=rfl
   simp[Instr.range,run_underlying hu,hget,hn]
  rw[hr]
  have hold:∀m b,aM E.bW F m b->(w.alloc (.mapIter (some b) clock #[] clock)).heap[b]?=w.heap[b]?:=fun m b hb=>pQ w _ (h.JO m b hb)
  have hst:=h.alloc (w':=w.alloc (.mapIter (some b) clock #[] clock)) (.mapIter (some b) clock #[] clock) (.iter m es0 []) base 0 rfl rfl rfl rfl hfree ⟨w.heap.size,b,en,clock,#[],by rw[ah],fp w _,hb,by rw[pQ w _ (h.JO m b hb)];exact hm,hl,
   fun i x e e1 e2=>⟨h.iG _ (hk' i x e e1 e2),h.iG _ (hv i x e e1 e2)⟩,hbo,hd,fun i e e1=>qS,fun j hj=>by simp at hj⟩ trivial (fun j hj=>hj.elim)
  refine⟨.aC base 0,_,F,_,hk,hst,.aC (by rw[ah]),fun k hk=>?_⟩
  obtain rfl:(base:Hd)=k:=hk
  show a8 L base _ base≠_
  rw[ah];exact fun e=>by cases e
 ·exact hk.elim
theorem rW (P:Program) (w:World) (n:Nat) (hn:0<n):∃r w1,(choose (.mapNext n)).run P w= .ok r w1/\r<n/\w1.heap=w.heap/\w1.os=w.os/\w1.tape=w.tape/\w1.output=w.output:=by
 by_cases h:n<=1
 ·exact⟨0,w,by simp[choose,Sem.run,Question.forced,h],hn,rfl,rfl,rfl,rfl⟩
 ·exact⟨w.tape w.drawn (.mapNext n)%n,{w with drawn:=w.drawn+1},by simp[choose,Sem.run,Question.forced,Question.cut,h],Nat.mod_lt _ hn,rfl,rfl,rfl,rfl⟩
theorem FY (hL:∀h K,LK h K->K (L h)) (h:cC E n s L a w F β) {v:AV} {x:Value} (hx:VR w (aM E.bW F) β v x) (hk:I6 LK v K) (ty:TypeId):
  ∃y w',(Instr.next x false ty).run P w= .ok y w'/\Out P E n s L a K (.ok y w'):=by
 unfold I6 at hk
 split at hk
 ·rename_i hd
  have hk:=hL hd _ hk
  have hb:=h.d4 hd
  have hlv0:∀m es seen,L hd= .iter m es seen->(L hd).live:=fun _ _ _ e=>by rw[e];trivial
  generalize hB:L hd=B at hk hb
  split at hk
  ·rename_i m es seen
   have hlv:=hlv0 _ _ _ hB
   obtain⟨b,mb,en,clock,sb,h1,h2,h3,h4,h5,h6,h7,h8,h9,h10⟩:=hb
   cases hx with|aC hb'=>
   rw[h1]at hb';cases hb'
   have own:=h.own hd b hlv h1
   have hgi:(getObj b).run P w= .ok (.mapIter (some mb) clock sb clock) w:=by simp[getObj,Sem.run,h2]
   have hgm:=MapKept.run_getObj_map (P:=P) h4
   have hall:∀e∈en.toList,e.born<clock:=fun e he=>by
    obtain⟨i,hi⟩:=List.getElem?_of_mem he
    exact h7 i e (by simpa using hi)
   have hold:(en.filter fun e=> !sb.contains e.born).filter (fun e=>decide (e.born<clock))=en.filter fun e=> !sb.contains e.born:=by
    rw[Array.filter_eq_self]
    intro e he
    have:=Array.mem_filter.1 he
    exact decide_eq_true (hall e (Array.mem_toList_iff.2 this.1))
   have hnew:(en.filter fun e=> !sb.contains e.born).filter (fun e=>decide (e.born>=clock))= #[]:=by
    rw[Array.filter_eq_empty_iff]
    intro e he
    have:=Array.mem_filter.1 he
    have:=hall e (Array.mem_toList_iff.2 this.1)
    simp;omega
   have hno:(!sb.isEmpty&& !en.isEmpty&&en.all fun e=>decide (e.born>=clock))=false:=by
    cases he:en.isEmpty with
    |true=>simp
    |false=>
     have:en.all (fun e=>decide (e.born>=clock))=false:=by
      rw[Bool.eq_false_iff]
      intro hall'
      have h0:0<en.size:=by
       rw[Nat.pos_iff_ne_zero];intro e0
       rw[Array.isEmpty_iff_size_eq_zero.2 e0]at he;cases he
      have:=Array.all_eq_true.1 hall' 0 h0
      have hb:=h7 0 en[0] (by simp[h0])
      simp at this;omega
     simp[this]
   obtain⟨hnx,hend⟩:=hk
   generalize hleft:(en.filter fun e=> !sb.contains e.born)=left at hold hnew
   have hmem:∀e∈left.toList,∃i,en[i]?=some e/\i∉seen:=fun e he=>by
    rw[<-hleft]at he
    obtain⟨hm,hs⟩:=Array.mem_filter.1 (Array.mem_toList_iff.1 he)
    obtain⟨i,hi⟩:=List.getElem?_of_mem (Array.mem_toList_iff.2 hm)
    have hi:en[i]?=some e:=by simpa using hi
    refine⟨i,hi,fun hsn=>?_⟩
    rw[(h9 i e hi).2 hsn]at hs
    cases hs
   have hcand:0<((if left.isEmpty then #[none]else #[])++(left++ #[]).map some).size:=by
    cases he:left.isEmpty with
    |true=>simp;omega
    |false=>
     have:0<left.size:=by
      rw[Nat.pos_iff_ne_zero];intro e0
      rw[Array.isEmpty_iff_size_eq_zero.2 e0]at he;cases he
     simp;omega
   obtain⟨r,w1,hr,hrl,e1,e2,e3,e4⟩:=rW P w _ hcand
   cases he:left.isEmpty with
   |true=>
    have hl0:left= #[]:=Array.isEmpty_iff.1 he
    subst hl0
    have hr0:r=0:=by simp at hrl;omega
    subst hr0
    have hrun:(Instr.next (.pointer (some ⟨b,0,none⟩)) false ty).run P w= .ok (.tuple #[.bool false]) w1:=by
     simp only[Instr.next,Sem.run_bind,hgi,Result.andThen_ok,hgm,hno,Bool.false_eq_true,if_false,hleft,hold,hnew]
     simp at hr
     simp[hr]
    refine⟨_,_,hrun,.bK [.tf false],[],F,β,hend fun i hi=>?_,h.still e2 e3 e4 e1,.bK _ _ rfl fun j c v q1 q2=>?_,fun k hk=>by simp only[AV.aT,AV.bm,or_self]at hk⟩
    ·apply Classical.byContradiction
     intro hns
     have hien:i<en.size:=qO
     have hie:en[i]?=some en[i]:=by simp[hien]
     have hc:sb.contains en[i].born=false:=by
      rw[Bool.eq_false_iff];intro hc;exact hns ((h9 i _ hie).1 hc)
     have:en[i]∈(en.filter fun e=> !sb.contains e.born):=Array.mem_filter.2 ⟨Array.getElem_mem hien,by rw[hc];rfl⟩
     rw[hleft]at this
     simp at this
    ·match j,q1,q2 with
     |0,q1,q2=>cases q1;cases q2;exact .tf false
   |false=>
    have hsz:r<left.size:=by simpa[he]using hrl
    obtain⟨i,hi,his⟩:=hmem left[r] (by simp[Array.mem_toList_iff])
    have hies:i<es.length:=by rw[<-h5];exact(Array.getElem?_eq_some_iff.1 hi).1
    have hie:es[i]?=some es[i]:=List.getElem?_eq_getElem hies
    let o':Obj:=.mapIter (some mb) clock (sb.push left[r].born) clock
    have hset:(setObj b o').run P w1= .ok () {w1 with heap:=w1.heap.setIfInBounds b o'}:=by simp[setObj,Sem.run,e1,h2]
    have hrun:(Instr.next (.pointer (some ⟨b,0,none⟩)) false ty).run P w= .ok (.tuple #[.bool true,left[r].key,left[r].val]) {w1 with heap:=w1.heap.setIfInBounds b o'}:=by
     simp only[Instr.next,Sem.run_bind,hgi,Result.andThen_ok,hgm,hno,Bool.false_eq_true,if_false,hleft,hold,hnew]
     rw[he]at hr
     simp at hr
     simp[he,hr,hsz,hset,o']at hset⊢
    have hblt:b<w.heap.size:=(Array.getElem?_eq_some_iff.1 h2).1
    have hh:∀b',b'≠b->(w1.heap.setIfInBounds b o')[b']?=w.heap[b']?:=fun b' hne=>by rw[e1];simp[Ne.symm hne]
    have hsame:(w1.heap.setIfInBounds b o')[b]?=some o':=by rw[e1];simp[hblt]
    have hne:∀m b',aM E.bW F m b'->b'≠b:=fun m b' hb'=>by
     intro e;subst e
     cases m
     ·exact own.1 hb'
     ·exact own.2.1 (h.Ca _ hb')
    have up:∀{p:PV} {x:Value},PR w (aM E.bW F) p x->PR {w1 with heap:=w1.heap.setIfInBounds b o'} (aM E.bW F) p x:=fun hp=>hp.mono (fun _ _=>id) fun m b' hb'=>hh b' (hne m b' hb')
    have hpr:=h6 i es[i] left[r] hie hi
    have hst:=h.write (w':={w1 with heap:=w1.heap.setIfInBounds b o'}) (.iter m es (seen++[i])) hd e2 e3 e4 (by simp[e1]) h1 hh hlv ⟨b,mb,en,clock,sb.push left[r].born,h1,hsame,h3,by rw[show({w1 with heap:=w1.heap.setIfInBounds b o'}:World).heap[mb]?=w.heap[mb]? from hh mb (hne m mb h3)];exact h4,h5,
     fun i x e q1 q2=>⟨up (h6 i x e q1 q2).1,up (h6 i x e q1 q2).2⟩,h7,h8,fun j e q=>by
      rw[Array.contains_push,Bool.or_eq_true,h9 j e q,List.mem_append,List.mem_singleton]
      refine or_congr Iff.rfl ⟨fun hb=>?_,fun hb=>?_⟩
      ·exact h8 j i e left[r] q hi (by simpa using hb)
      ·subst hb;rw[hi]at q;cases q;simp,fun j hj=>by
      rw[List.getLast?_append]at hj
      simp at hj;subst hj
      exact⟨_,hi,qS⟩⟩ trivial (fun j hj=>hj.elim)
    refine⟨_,_,hrun,_,_,F,β,hnx i es[i] hie his,hst,.bK _ _ rfl fun j c v q1 q2=>?_,fun k hk=>by simp only[AV.aT,AV.bm,or_self]at hk⟩
    match j,q1,q2 with
    |0,q1,q2=>cases q1;cases q2;exact .tf true
    |1,q1,q2=>cases q1;cases q2;exact .p (up hpr.1)
    |2,q1,q2=>cases q1;cases q2;exact .p (up hpr.2)
  ·exact hk.elim
 ·exact hk.elim
theorem FA (hL:∀h K,LK h K->K (L h)) (h:cC E n s L a w F β) {v:AV} {x:Value} (hx:VR w (aM E.bW F) β v x) (hk:BU LK v K):Out P E n s L a K ((Instr.entry x).run P w):=by
 unfold BU at hk
 split at hk
 ·rename_i hd
  have hk:=hL hd _ hk
  have hb:=h.d4 hd
  generalize hB:L hd=B at hk hb
  split at hk
  ·rename_i m es seen
   obtain⟨b,mb,en,clock,sb,h1,h2,h3,h4,h5,h6,h7,h8,h9,h10⟩:=hb
   cases hx with|aC hb'=>
   rw[h1]at hb';cases hb'
   obtain⟨j,e,hj,he,hk⟩:=hk
   obtain⟨e',he',hbk⟩:=h10 j hj
   have hgi:(getObj b).run P w= .ok (.mapIter (some mb) clock sb clock) w:=by simp[getObj,Sem.run,h2]
   have hgm:=MapKept.run_getObj_map (P:=P) h4
   have hfind:en.find? (fun x=>x.born==e'.born)=some e':=by
    cases hf:en.find? (fun x=>x.born==e'.born)with
    |none=>
     have:=Array.find?_eq_none.1 hf e' (Array.mem_of_getElem? he')
     simp at this
    |some e''=>
     have h1:=Array.find?_some hf
     obtain⟨i,hi⟩:=Array.getElem?_of_mem (Array.mem_of_find?_eq_some hf)
     have:=h8 i j e'' e' hi he' (by simpa using h1)
     subst this
     rw[he']at hi;cases hi;rfl
   have hr:(Instr.entry (.pointer (some ⟨b,0,none⟩))).run P w= .ok (.tuple #[e'.key,e'.val]) w:=by
    simp[Instr.entry,hgi,hbk,hgm,hfind]
   rw[hr]
   refine⟨.bK [.p e.1,.p e.2],[],F,β,hk,h,.bK _ _ rfl fun i c v q1 q2=>?_,fun k hk=>by simp only[AV.aT,AV.bm,or_self]at hk⟩
   match i,q1,q2 with
   |0,q1,q2=>cases q1;cases q2;exact .p (h6 j e e' he he').1
   |1,q1,q2=>cases q1;cases q2;exact .p (h6 j e e' he he').2
  ·exact hk.elim
 ·exact hk.elim
end
end
section
theorem pJ {α β:Type} {R:α->β->Prop} {l1 l2:List α} {m1 m2:List β} (h1:∀(i:Nat) c x,l1[i]?=some c->m1[i]?=some x->R c x) (hl:m1.length=l1.length) (h2:∀(i:Nat) c x,l2[i]?=some c->m2[i]?=some x->R c x):
  ∀(i:Nat) c x,(l1++l2)[i]?=some c->(m1++m2)[i]?=some x->R c x:=by
 intro i c x e1 e2
 by_cases h:i<l1.length
 ·rw[List.getElem?_append_left h]at e1
  rw[List.getElem?_append_left qO]at e2
  exact h1 i c x e1 e2
 ·rw[List.getElem?_append_right qO]at e1
  rw[List.getElem?_append_right qO,hl]at e2
  exact h2 _ c x e1 e2
def jG (s:Nat->AV) (d:Option Tmp) (v:AV):Nat->AV:=
 match d with
 |some d=>a8 s d v
 |none=>s
section
variable {P:Program} {Γ:oy} {E:Env} {n:Nat} {s:Nat->AV} {L:Hd->aA} {a:Act} {w:World} {K:AV->List (Hd×aA)->Prop}
 {W:Operand->(AV->Prop)->Prop} {LK:Hd->(aA->Prop)->Prop} {wr:FuncId->Bool} {base:Nat}
def jN (E:Env) (n:Nat) (s:Nat->AV) (L:Hd->aA) (d:Option Tmp) (K:AV->List (Hd×aA)->Prop) (a:Act) (w:World):Prop:=
 ∃v ups,K v ups/\St E n (jG s d v) (a6 L ups) a w
theorem jN.qe {d:Option Tmp} (hd:∀t,d=some t->t<n) {x:Value} {w':World} (h:Out P E n s L a K (.ok x w')):jN E n s L d K (a.put d x) w':=by
 obtain⟨v,ups,F,β,hk,hst,hv,hm⟩:=h
 refine⟨v,ups,hk,F,β,?_⟩
 cases d with
 |none=>exact hst
 |some t=>exact hst.put (hd t rfl) hv hm
theorem zN (hΓ:gW P Γ) (hW:∀x K,W x K->K (cL s x)) (hL:∀h K,LK h K->K (L h)) (h:St E n s L a w) (hfree:∀v ups,K v ups->∀x∈ups,base<=x.1.key->fZ L x.1.key) (o:Oper)
  (hd:∀t,o.dst=some t->t<n) (Q:Exit->Act->World->Prop) (hk:aR Γ P wr W LK L base o.op K):o.wp P a w (jN E n s L o.dst K) Q:=by
 obtain⟨F,β,h⟩:=h
 have val:∀sm:Sem Value,(execOp a.eval o).run P w=(do pure (.value (<-sm)):Sem Next).run P w->Out P E n s L a K (sm.run P w)->o.wp P a w (jN E n s L o.dst K) Q:=by
  intro sm e hout
  unfold Oper.wp
  rw[e]
  cases hr:sm.run P w with
  |halt x w'=>rw[hr]at hout;exact hout.elim
  |ok x w'=>
   rw[hr]at hout
   have:(do pure (.value (<-sm)):Sem Next).run P w= .ok (.value x) w':=by simp[hr]
   rw[this]
   exact jN.qe hd hout
 obtain⟨dst,op,ty,pos,after,guard⟩:=o
 cases op<;>simp only[aR]at hk
 case move x=>exact val (pure (a.eval x)) (by simp[execOp]) (by simpa using kB (P:=P) hW h hk)
 case assign x=>exact val (pure (a.eval x)) (by simp[execOp]) (by simpa using kB (P:=P) hW h hk)
 case pick c x y=>exact val (do pure (if<-asBool (a.eval c)then a.eval x else a.eval y)) (by simp only[execOp];cases hb:(asBool (a.eval c)).run P w<;>simp[hb]) (IA (Γ:=Γ) (wr:=wr) (LK:=LK) (base:=base) hW h (by simpa only[aR]using hk))
 case alloc t=>exact val _ rfl (EM (wr:=wr) (W:=W) (LK:=LK) hΓ h hfree (by simpa only[aR]using hk))
 case box t x=>exact val _ rfl (KJ (Γ:=Γ) (wr:=wr) (LK:=LK) hW h hfree (by simpa only[aR]using hk))
 case build t ps=>exact val _ rfl (Eu (wr:=wr) (LK:=LK) (base:=base) hΓ hW h (by simpa only[aR]using hk))
 case buildSlice t m ps=>exact val _ rfl (tz (wr:=wr) (LK:=LK) hΓ hW h hfree (by simpa only[aR]using hk))
 case load t x=>exact val _ rfl (Ga (wr:=wr) (base:=base) hΓ hW hL h (by simpa only[aR]using hk))
 case store t x y=>
  obtain⟨w',hr,hout⟩:=Fl (wr:=wr) (base:=base) hΓ hW hL h (t:=t) (x:=x) (y:=y) (by simpa only[aR]using hk)
  unfold Oper.wp
  have:(execOp a.eval {dst:=dst,op:=.store t x y,type:=ty,pos:=pos,after:=after,guard:=guard}).run P w= .ok .skip w':=by simp[execOp,hr]
  rw[this]
  exact jN.qe hd hout
 case binOp op t x y t'=>
  cases hy:isNil y with
  |true=>
   rw[hy]at hk
   have:y= .const (.slice none 0 0):=by
    unfold isNil at hy
    split at hy
    ·rfl
    ·cases hy
   subst this
   exact val _ rfl (Kl hΓ hW h hk)
  |false=>
   rw[hy]at hk
   exact val _ rfl (JT hΓ hW h hk)
 case unOp op t x=>exact val _ rfl (MD (t:=t) (Γ:=Γ) (wr:=wr) (LK:=LK) (base:=base) hW h (by simpa only[aR]using hk))
 case nilCheck x=>
  have hk:=hW x _ hk
  have hv:=h.ev x
  have hm:=h.AN x
  generalize hrho:cL s x=v at hk hv hm
  have key:∀ad,a.eval x= .pointer (some ad)->K v []->VR w (aM E.bW F) β v (a.eval x)->(∀k,v.aT k->L k≠ .free)->Oper.wp P {dst:=dst,op:=.nilCheck x,type:=ty,pos:=pos,after:=after,guard:=guard} a w (jN E n s L dst K) Q:=fun ad e hk hv hm=>by
   refine val (pure (a.eval x)) (by simp[execOp,e]) ?_
   exact .same h hk hv hm
  cases v with
  |aC hd o=>
   have hv2:=hv
   generalize hx:a.eval x=y at hv2
   cases hv2 with|aC hb=>exact key _ hx hk hv hm
  |dO hd Wd i o=>
   have hv2:=hv
   generalize hx:a.eval x=y at hv2
   cases hv2 with|dO hb=>exact key _ hx hk hv hm
  |p pv=>
   cases pv with
   |f5 m e=>
    have hv2:=hv
    generalize hx:a.eval x=y at hv2
    cases hv2 with|p hv2=>
    cases hv2 with|f5 _ _ b off vals hb hone hv3 hr=>exact key _ hx hk hv hm
   |_=>exact hk.elim
  |_=>exact hk.elim
 case convert src t x=>exact val _ rfl (Aa (wr:=wr) (LK:=LK) (base:=base) hΓ hW h (by simpa only[aR]using hk))
 case makeFunc fn fs cs=>
  cases fn<;>simp only[aR]at hk
  exact val _ rfl (x7 (Γ:=Γ) (wr:=wr) (LK:=LK) (base:=base) hW h (by simpa only[aR]using hk))
 case makeSlice t l c=>exact val _ rfl (Ig (wr:=wr) (LK:=LK) hΓ hW h hfree (by simpa only[aR]using hk))
 case slice t x lo hi mx=>exact val _ rfl (Eg (wr:=wr) (LK:=LK) (base:=base) hΓ hW h (by simpa only[aR]using hk))
 case fieldAddr t x f=>exact val _ rfl (uS (wr:=wr) (LK:=LK) (base:=base) hΓ hW h (by simpa only[aR]using hk))
 case field t x f=>exact val _ rfl (Fy (wr:=wr) (LK:=LK) (base:=base) hΓ hW h (by simpa only[aR]using hk))
 case indexAddr t x i=>exact val _ rfl (u7 (wr:=wr) (LK:=LK) (base:=base) hΓ hW h (by simpa only[aR]using hk))
 case index t x i=>exact val _ rfl (EV (wr:=wr) (LK:=LK) (base:=base) hΓ hW h (by simpa only[aR]using hk))
 case extract x i=>exact val _ rfl (y3 (Γ:=Γ) (wr:=wr) (LK:=LK) (base:=base) hW h (by simpa only[aR]using hk))
 case makeMap t r=>
  cases r with
  |none=>exact val _ rfl (AK (wr:=wr) (W:=W) (LK:=LK) hΓ h hfree (by simpa only[aR]using hk))
  |some r=>exact hk.elim
 case mapUpdate t m k x=>
  obtain⟨w',hr,hout⟩:=ua (Γ:=Γ) hΓ hL h (h.ev m) (h.ev k) (h.ev x) (hW x _ (hW k _ (hW m _ hk)))
  unfold Oper.wp
  have:(execOp a.eval {dst:=dst,op:=.mapUpdate t m k x,type:=ty,pos:=pos,after:=after,guard:=guard}).run P w= .ok .skip w':=by simp[execOp,hr]
  rw[this]
  exact jN.qe hd hout
 case insert t m k x=>
  obtain⟨w',hr,hout⟩:=ua (Γ:=Γ) hΓ hL h (h.ev m) (h.ev k) (h.ev x) (hW x _ (hW k _ (hW m _ hk)))
  unfold Oper.wp
  have:(execOp a.eval {dst:=dst,op:=.insert t m k x,type:=ty,pos:=pos,after:=after,guard:=guard}).run P w= .ok .skip w':=by simp[execOp,hr]
  rw[this]
  exact jN.qe hd hout
 case lookup t x k ok=>exact val _ rfl (BH (wr:=wr) (base:=base) hΓ hW hL h (by simpa only[aR]using hk))
 case range t x=>exact val _ rfl (Eh hΓ h hfree (h.ev x) (hW x _ hk))
 case next x str=>
  cases str with
  |true=>exact hk.elim
  |false=>
   obtain⟨y,w',hr,hout⟩:=FY hL h (h.ev x) (hW x _ hk) ty
   exact val (Instr.next (a.eval x) false ty) rfl (by rw[hr];exact hout)
 case entry x=>exact val _ rfl (FA hL h (h.ev x) (hW x _ hk))
 case call c=>
  obtain⟨f,xs,ts⟩:=c
  cases f with
  |builtin b=>
   obtain⟨v,w',hr,hout⟩:=Ab (wr:=wr) (ty:=ty) (cs:=xs.map fun| .const _=>true|_=>false) hΓ hW hL h hfree (b:=b) (xs:=xs) (ts:=ts) (by simpa only[aR]using hk)
   unfold Oper.wp
   have:(execOp a.eval {dst:=dst,op:=.call ⟨.builtin b,xs,ts⟩,type:=ty,pos:=pos,after:=after,guard:=guard}).run P w= .ok (.value v) w':=by
    simp only[execOp,resolve]
    simp only[Sem.run_bind,Sem.run_pure,Result.andThen_ok,invoke]
    exact hr
   rw[this]
   exact jN.qe hd hout
  |invoke r m=>simp only[aR]at hk
  |value f=>
   simp only[aR]at hk
   have hfv:=h.ev f
   have hfm:=h.AN f
   obtain⟨htl,hk⟩:=d9 hk
   have hk:=hW f _ hk
   generalize cL s f=vf at hk hfv hfm
   have go:∀(fid:FuncId) (fs cs:Array Value) (raw args:List AV) (vals:List Value),a.eval f= .func (.func fid) fs cs->aa P (wr fid) fid raw args L base K->vals=fs.toList++xs.toList.map a.eval++cs.toList->vals.length=args.length->
     (∀(i:Nat) c x,raw[i]?=some c->vals[i]?=some x->VR w (aM E.bW F) β c x)->vals.length=raw.length->
     (∀(i:Nat) c x,args[i]?=some c->vals[i]?=some x->VR w (aM (cR E L β (wr fid)) F) β c x)->(∀k,AV.bm args k->L k≠ .free)->
     Oper.wp P {dst:=dst,op:=.call ⟨.value f,xs,ts⟩,type:=ty,pos:=pos,after:=after,guard:=guard} a w (jN E n s L dst K) Q:=by
    intro fid fs cs raw args vals e1 hc e2 e3 e6 e7 e4 e5
    obtain⟨⟨fn,g1,g2,g3⟩,hcall⟩:=KV h hc hfree vals e3 e6 e7 e4 e5
    unfold Oper.wp
    have hargs:fs++xs.map a.eval++cs=vals.toArray:=by
     rw[e2];apply Array.ext';simp
    have:(execOp a.eval {dst:=dst,op:=.call ⟨.value f,xs,ts⟩,type:=ty,pos:=pos,after:=after,guard:=guard}).run P w= .ok (.enter fid vals.toArray) w:=by
     simp only[execOp,resolve,e1,Deferred.ofValue]
     simp only[Sem.run_bind,Sem.run_pure,Result.andThen_ok,invoke,hargs,callFunc,run_program,g1,g2,g3]
     rfl
    rw[this]
    refine hcall.mono fun e w' hpost=>?_
    obtain⟨v,rfl,hout⟩:=hpost
    exact jN.qe hd hout
   have hev:∀(l:List Operand) (i:Nat) c x,(l.map (cL s))[i]?=some c->(l.map a.eval)[i]?=some x->VR w (aM E.bW F) β c x:=by
    intro l i c x e1 e2
    simp only[List.getElem?_map]at e1 e2
    cases e:l[i]? with
    |none=>rw[e]at e1;cases e1
    |some y=>rw[e]at e1 e2;cases e1;cases e2;exact h.ev y
   have zipr:∀(ts:List TypeId) (l:List AV) (xs:List Value),(∀(i:Nat) c x,l[i]?=some c->xs[i]?=some x->VR w (aM E.bW F) β c x)->∀(i:Nat) c x,(ts.zip l)[i]?=some c->xs[i]?=some x->VR w (aM E.bW F) β c.2 x:=by
    intro ts l xs hr i c x e1 e2
    rw[List.getElem?_zip_eq_some]at e1
    exact hr i c.2 x e1.2 e2
   have zipm:∀(ts:List TypeId) (l:List Operand) c,c∈ts.zip (l.map (cL s))->∀k,c.2.aT k->L k≠ .free:=by
    intro ts l c hc k hk
    obtain⟨x,hx,e⟩:=List.mem_map.1 (List.of_mem_zip hc).2
    rw[<-e]at hk
    exact h.AN x k hk
   split at hk
   ·rename_i fid fs cs
    cases hfe:a.eval f<;>rw[hfe]at hfv<;>try (cases hfv;done)
    rename_i fn fsv csv
    cases hfv with|fn _ _ _ _ _ hfl hf' hcl hc'=>
    have hk:=mF h hW _ _ hk
    have hz:(ts.toList.zip (xs.toList.map (cL s))).length=xs.toList.length:=by simp[htl]
    obtain⟨args,hk,hl1,hl2,hl3⟩:=uF hL h (wr fid) _ (fsv.toList++(xs.toList.map a.eval++csv.toList)) _ hk (by simp[hz,hfl,hcl]) (fun i c x e1 e2=>by
     by_cases h1:i<fs.length
     ·rw[List.getElem?_append_left (by simpa using h1)]at e1
      rw[List.getElem?_append_left (by simp[hfl,h1])]at e2
      rw[List.getElem?_map]at e1
      cases e:fs[i]? with
      |none=>rw[e]at e1;cases e1
      |some d=>rw[e]at e1;cases e1;exact hf' i d x e (by simpa using e2)
     ·rw[List.getElem?_append_right (by simp;omega)]at e1
      rw[List.getElem?_append_right (by simp[hfl];omega)]at e2
      simp only[List.length_map,Array.length_toList,hfl]at e1 e2
      by_cases h2:i-fs.length<xs.toList.length
      ·rw[List.getElem?_append_left (by rw[hz];exact h2)]at e1
       rw[List.getElem?_append_left (by simpa using h2)]at e2
       exact zipr _ _ _ (hev xs.toList) _ c x e1 e2
      ·rw[List.getElem?_append_right (by rw[hz];omega),hz]at e1
       rw[List.getElem?_append_right (by simp at h2⊢;omega)]at e2
       simp only[List.length_map]at e2
       rw[List.getElem?_map]at e1
       cases e:cs[i-fs.length-xs.toList.length]? with
       |none=>rw[e]at e1;cases e1
       |some d=>rw[e]at e1;cases e1;exact hc' _ d x e (by simpa using e2))
    refine go fid fsv csv _ args _ hfe hk qS (by rw[hl1];simp[hz,hfl,hcl]) (pJ (fun i c x e1 e2=>hf' i c x e1 (by simpa using e2)) (by simp[hfl]) (pJ (hev xs.toList) qS fun i c x e1 e2=>hc' i c x e1 (by simpa using e2))) (by simp[hfl,hcl]) hl2 fun k hk=>?_
    obtain⟨c,hc,hcm⟩:=hl3 k hk
    rcases List.mem_append.1 hc with hc|hc
    ·obtain⟨v,hv,rfl⟩:=List.mem_map.1 hc
     exact hfm k (by simp only[AV.aT];exact .inl (AV.bj hv hcm))
    ·rcases List.mem_append.1 hc with hc|hc
     ·exact zipm _ _ c hc k hcm
     ·obtain⟨v,hv,rfl⟩:=List.mem_map.1 hc
      exact hfm k (by simp only[AV.aT];exact .inr (AV.bj hv hcm))
   ·rename_i fid cs
    obtain⟨csv,hfe,hcl,hc'⟩:∃csv,a.eval f= .func (.func fid) #[] csv/\csv.size=cs.length/\∀(i:Nat) c v,cs[i]?=some c->csv[i]?=some v->PR w (aM E.bW F) c v:=by
     generalize a.eval f=fv at hfv
     cases hfv with|p hfv=>cases hfv with|fn _ _ vs hl hr=>exact⟨vs,rfl,hl,hr⟩
    have hk:=mF h hW _ _ hk
    have hz:(ts.toList.zip (xs.toList.map (cL s))).length=xs.toList.length:=by simp[htl]
    obtain⟨args,hk,hl1,hl2,hl3⟩:=uF hL h (wr fid) _ (xs.toList.map a.eval++csv.toList) _ hk (by simp[hz,hcl]) (fun i c x e1 e2=>by
      by_cases h2:i<xs.toList.length
      ·rw[List.getElem?_append_left (by rw[hz];exact h2)]at e1
       rw[List.getElem?_append_left (by simpa using h2)]at e2
       exact zipr _ _ _ (hev xs.toList) _ c x e1 e2
      ·rw[List.getElem?_append_right (by rw[hz];omega),hz]at e1
       rw[List.getElem?_append_right (by simp at h2⊢;omega)]at e2
       simp only[List.length_map]at e2
       rw[List.getElem?_map]at e1
       cases e:cs[i-xs.toList.length]? with
       |none=>rw[e]at e1;cases e1
       |some d=>rw[e]at e1;cases e1;exact .p (hc' _ d x e (by simpa using e2)))
    refine go fid #[] csv _ args _ hfe hk qS (by rw[hl1];simp[hz,hcl]) (by
     refine pJ (hev xs.toList) qS fun i c x e1 e2=>?_
     rw[List.getElem?_map]at e1
     cases e:cs[i]? with
     |none=>rw[e]at e1;cases e1
     |some d=>rw[e]at e1;cases e1;exact .p (hc' i d x e (by simpa using e2))) (by simp[hcl]) hl2 fun k hk=>?_
    obtain⟨c,hc,hcm⟩:=hl3 k hk
    rcases List.mem_append.1 hc with hc|hc
    ·exact zipm _ _ c hc k hcm
    ·obtain⟨v,hv,rfl⟩:=List.mem_map.1 hc
     simp only[AV.aT]at hcm
   ·rename_i fid cs
    obtain⟨csv,hfe,hcl,hc'⟩:∃csv,a.eval f= .func (.func fid) csv #[]/\csv.size=cs.length/\∀(i:Nat) c v,cs[i]?=some c->csv[i]?=some v->PR w (aM E.bW F) c v:=by
     generalize a.eval f=fv at hfv
     cases hfv with|p hfv=>cases hfv with|lp _ _ vs hl hr=>exact⟨vs,rfl,hl,hr⟩
    have hk:=mF h hW _ _ hk
    have hz:(ts.toList.zip (xs.toList.map (cL s))).length=xs.toList.length:=by simp[htl]
    have hcs:∀(i:Nat) c x,(cs.map AV.p)[i]?=some c->csv.toList[i]?=some x->VR w (aM E.bW F) β c x:=fun i c x e1 e2=>by
     rw[List.getElem?_map]at e1
     cases e:cs[i]? with
     |none=>rw[e]at e1;cases e1
     |some d=>rw[e]at e1;cases e1;exact .p (hc' i d x e (by simpa using e2))
    obtain⟨args,hk,hl1,hl2,hl3⟩:=uF hL h (wr fid) _ (csv.toList++(xs.toList.map a.eval++(#[]:Array Value).toList)) _ hk (by simp[hz,hcl]) (fun i c x e1 e2=>by
      rw[List.append_nil]at e2
      have:∀(i:Nat) (c:TypeId×AV) x,((cs.map fun v=>((0:TypeId),AV.p v))++ts.toList.zip (xs.toList.map (cL s)))[i]?=some c->(csv.toList++xs.toList.map a.eval)[i]?=some x->VR w (aM E.bW F) β c.2 x:=
       pJ (R:=fun(c:TypeId×AV) x=>VR w (aM E.bW F) β c.2 x) (fun i c x e1 e2=>by
        rw[List.getElem?_map]at e1
        cases e:cs[i]? with
        |none=>rw[e]at e1;cases e1
        |some d=>rw[e]at e1;cases e1;exact .p (hc' i d x e (by simpa using e2))) (by simp[hcl]) (zipr _ _ _ (hev xs.toList))
      exact this i c x e1 e2)
    refine go fid csv #[] _ args _ hfe hk qS (by rw[hl1];simp[hz,hcl]) (by
     rw[List.append_nil]
     exact pJ hcs (by simp[hcl]) (hev xs.toList)) (by simp[hcl]) hl2 fun k hk=>?_
    obtain⟨c,hc,hcm⟩:=hl3 k hk
    rcases List.mem_append.1 hc with hc|hc
    ·obtain⟨v,hv,rfl⟩:=List.mem_map.1 hc
     simp only[AV.aT]at hcm
    ·exact zipm _ _ c hc k hcm
   ·exact hk.elim
 all_goals exact hk.elim
end
end
section
abbrev Sl:=List (Nat×AV)
abbrev Hp:=List aA
def aP:Sl->Nat->AV
 |[],_=>.any
 |(i,v)::s,t=>cond (Nat.beq i t) v (aP s t)
def lS:Sl->Nat->(AV->Prop)->Prop
 |[],_,K=>K .any
 |(i,v)::s,t,K=>cond (Nat.beq i t) (K v) (lS s t K)
def pB:Hp->Nat->(aA->Prop)->Prop
 |[],_,K=>K .free
 |B::_,0,K=>K B
 |_::H,h+1,K=>pB H h K
inductive eH (rows:List (Option (List PV))) (k:Nat) (K:List PV->Prop):Prop
 |mk (es:List PV) (h:rows[k]?=some (some es)) (hk:K es)
inductive rE (rows:List (Option (List PV))) (k:Nat) (x:Option (List PV)) (K:List (Option (List PV))->Prop):Prop
 |mk (rows':List (Option (List PV))) (hk:k<rows.length) (h:rows.set k x=rows') (hK:K rows')
def nJ (H:Hp) (h:Hd) (K:aA->Prop):Prop:=
 match h with
 | .t n=>pB H n fun B=>match B with
  | .bu _ _ _=>K .dead
  |B=>K B
 | .r n k=>pB H n fun B=>match B with
  | .bu T W rows=>eH rows k fun es=>K (.vec T W es)
  |_=>False
def Ha:Hp->Nat->(aA->(aA->Prop)->Prop)->(Hp->Prop)->Prop
 |[],0,f,K=>f .free fun B=>K [B]
 |[],h+1,f,K=>Ha [] h f fun l=>K (.free::l)
 |B::H,0,f,K=>f B fun B'=>K (B'::H)
 |C::H,h+1,f,K=>Ha H h f fun l=>K (C::l)
def OV (H:Hp) (h:Hd) (B:aA) (K:Hp->Prop):Prop:=
 match h with
 | .t n=>Ha H n (fun C J=>match C with
  | .bu _ _ _=>match B with
   | .bu T W rows=>J (.bu T W rows)
   |_=>False
  |_=>J B) K
 | .r n k=>Ha H n (fun C J=>match C with
  | .bu T W rows=>match B with
   | .vec T' W' es=>cond (Nat.beq T T'&&Nat.beq W W') (rE rows k (some es) fun rows'=>J (.bu T W rows')) False
   | .dead=>rE rows k none fun rows'=>J (.bu T W rows')
   |_=>False
  |_=>False) K
def pe:List (Hd×aA)->Hp->(Hp->Prop)->Prop
 |[],H,K=>K H
 |(h,B)::ups,H,K=>OV H h B fun H'=>pe ups H' K
def nQ:Hp->Nat->(Nat->Prop)->Prop
 |[],n,K=>K n
 |_::H,n,K=>nQ H (n+1) K
def f7 (d:Option Tmp) (v:AV) (s:Sl):Sl:=
 match d with
 |some d=>(d,v)::s
 |none=>s
def WK (s:Sl) (x:Operand) (K:AV->Prop):Prop:=
 match x with
 | .tmp t=>lS s t K
 |x=>K (cL (fun _=>.any) x)
theorem pF {s:Sl} {t:Nat} {K:AV->Prop} (h:lS s t K):K (aP s t):=by
 induction s with
 |nil=>exact h
 |cons x s ih=>
  obtain⟨i,v⟩:=x
  simp only[lS,aP]at h⊢
  cases e:Nat.beq i t<;>rw[e]at h
  ·exact ih h
  ·exact h
theorem I2 (s:Sl) (x:Operand) (K:AV->Prop) (h:WK s x K):K (cL (aP s) x):=by
 cases x with
 |tmp t=>exact pF h
 |_=>exact h
theorem jA (H:Hp) (h:Nat) (K:aA->Prop) (hk:pB H h K):K (H.getD h .free):=by
 induction H generalizing h with
 |nil=>exact hk
 |cons B H ih=>
  cases h with
  |zero=>exact hk
  |succ h=>exact ih h hk
theorem pL (H:Hp) (h:Hd) (K:aA->Prop) (hk:nJ H h K):K (look H h):=by
 cases h with
 |t n=>
  have:=jA _ _ _ hk
  show K (H.getD n .free).top
  generalize H.getD n .free=B at this
  cases B<;>exact this
 |r n k=>
  have:=jA _ _ _ hk
  show K ((H.getD n .free).row k)
  generalize H.getD n .free=B at this
  cases B<;>first|exact this.elim|skip
  obtain⟨es,h,hk⟩:=this
  simp only[aA.row,h]
  exact hk
theorem DL {R:aA->aA->Prop} {f:aA->(aA->Prop)->Prop} (hf:∀C J,f C J->∃B,J B/\R C B) {H:Hp} {n:Nat} {K:Hp->Prop} (hk:Ha H n f K):
  ∃H' B,K H'/\R (H.getD n .free) B/\H.length<=H'.length/\n<H'.length/\∀m,H'.getD m .free=if m=n then B else H.getD m .free:=by
 induction H generalizing n K with
 |nil=>
  induction n generalizing K with
  |zero=>
   obtain⟨B,h1,h2⟩:=hf _ _ hk
   exact⟨_,B,h1,h2,qS,qS,fun m=>by cases m<;>simp⟩
  |succ n ih=>
   obtain⟨H',B,h1,h2,h3,h4,h5⟩:=ih (K:=fun l=>K (.free::l)) hk
   refine⟨_,B,h1,h2,qS,by simp;omega,fun m=>?_⟩
   cases m with
   |zero=>simp
   |succ m=>have:=h5 m;simp at this⊢;exact this
 |cons C H ih=>
  cases n with
  |zero=>
   obtain⟨B,h1,h2⟩:=hf _ _ hk
   exact⟨_,B,h1,h2,qS,qS,fun m=>by cases m<;>simp⟩
  |succ n=>
   obtain⟨H',B,h1,h2,h3,h4,h5⟩:=ih (K:=fun l=>K (C::l)) hk
   refine⟨_,B,h1,h2,by simp;omega,by simp;omega,fun m=>?_⟩
   cases m with
   |zero=>simp
   |succ m=>have:=h5 m;simp at this⊢;exact this
theorem CT {H:Hp} {h:Hd} {B:aA} {K:Hp->Prop} (hk:OV H h B K):∃H',K H'/\look H'=fg (look H) h B/\H.length<=H'.length/\h.key<H'.length:=by
 cases h with
 |t n=>
  obtain⟨H',B',h1,h2,h3,h4,h5⟩:=DL (R:=fun C B'=>B'=B/\(C.mi=true->B.mi=true)) (fun C J hJ=>by
   cases C with
   |bu T W rows=>cases B<;>first|exact hJ.elim|exact⟨_,hJ,rfl,fun _=>rfl⟩
   |_=>exact⟨_,hJ,rfl,fun h=>by cases h⟩) hk
  obtain⟨rfl,h2⟩:=h2
  refine⟨H',h1,?_,h3,h4⟩
  funext g
  by_cases e:g.key=n
  ·cases g with
   |t m=>have e:m=n:=e;subst e;rw[Ck];simp only[look,h5,Hd.key,if_true]
   |r m k=>
    have e:m=n:=e
    subst e
    rw[sT]
    ·simp only[look,h5,Hd.key,if_true]
    ·intro hp
     simp only[look,Hd.key]at h2⊢
     generalize H.getD m .free=C at h2
     cases C<;>first|rfl|(rw[h2 rfl]at hp;cases hp)
  ·rw[ju e]
   cases g<;>simp only[Hd.key]at e<;>simp only[look,h5,if_neg e]
 |r n k=>
  obtain⟨H',B',h1,h2,h3,h4,h5⟩:=DL (R:=fun C B'=>∃T W rows x,C= .bu T W rows/\k<rows.length/\B'= .bu T W (rows.set k x)/\B.mi=false/\B=(match x with|some es=>.vec T W es|none=>.dead)) (fun C J hJ=>by
   cases C with
   |bu T W rows=>
    cases B<;>first|exact hJ.elim|skip
    ·obtain⟨rows',hlt,rfl,hJ⟩:=hJ
     exact⟨_,hJ,T,W,rows,none,rfl,hlt,rfl,rfl,rfl⟩
    ·rename_i T' W' es
     cases hc:(Nat.beq T T'&&Nat.beq W W')with
     |false=>simp only[hc]at hJ;exact hJ.elim
     |true=>
      simp only[hc]at hJ
      simp only[Bool.and_eq_true]at hc
      have e1:=Nat.eq_of_beq_eq_true hc.1
      have e2:=Nat.eq_of_beq_eq_true hc.2
      subst e1;subst e2
      obtain⟨rows',hlt,rfl,hJ⟩:=hJ
      exact⟨_,hJ,T,W,rows,some es,rfl,hlt,rfl,rfl,rfl⟩
   |_=>exact hJ.elim) hk
  obtain⟨T,W,rows,x,h6,hlt,rfl,hnp,hB⟩:=h2
  refine⟨H',h1,?_,h3,h4⟩
  have hu:fg (look H) (.r n k) B=a8 (look H) (.r n k) B:=by cases B<;>first|rfl|cases hnp
  rw[hu]
  funext g
  unfold a8
  cases g with
  |t m=>
   rw[if_neg (fun e=>by cases e)]
   simp only[look,h5]
   split
   ·rename_i e;subst e;rw[h6];rfl
   ·rfl
  |r m j=>
   simp only[look,h5]
   by_cases e:m=n
   ·subst e
    rw[if_pos rfl,h6]
    simp only[aA.row]
    by_cases e:j=k
    ·subst e
     rw[if_pos rfl,List.getElem?_set_self hlt,hB]
     cases x<;>rfl
    ·rw[if_neg (fun h=>by cases h;exact e rfl),List.getElem?_set_ne (fun h=>e h.symm)]
   ·rw[if_neg e,if_neg (fun h=>by cases h;exact e rfl)]
theorem CQ {ups:List (Hd×aA)} {H:Hp} {K:Hp->Prop} (hk:pe ups H K):∃H',K H'/\look H'=a6 (look H) ups:=by
 induction ups generalizing H with
 |nil=>exact⟨H,hk,rfl⟩
 |cons x ups ih=>
  obtain⟨h,B⟩:=x
  obtain⟨H1,hk,e1,_,_⟩:=CT hk
  obtain⟨H2,hk,e2⟩:=ih hk
  exact⟨H2,hk,by rw[e2,e1];rfl⟩
theorem s6 {H:Hp} {n:Nat} {K:Nat->Prop} (h:nQ H n K):K (n+H.length):=by
 induction H generalizing n with
 |nil=>exact h
 |cons B H ih=>have:=ih h;simp only[List.length_cons];rw[show n+(H.length+1)=n+1+H.length by omega];exact this
theorem fD (d:Option Tmp) (v:AV) (s:Sl):aP (f7 d v s)=jG (aP s) d v:=by
 cases d with
 |none=>rfl
 |some d=>
  funext t
  simp only[f7,aP,jG,a8]
  by_cases e:t=d
  ·subst e;simp
  ·have:Nat.beq d t=false:=by
    cases hb:Nat.beq d t with
    |false=>rfl
    |true=>exact(e (Nat.eq_of_beq_eq_true hb).symm).elim
   rw[this];simp[e]
def Hm (x:Operand) (b:Bool) (s:Sl):Sl:=
 match x with
 | .tmp t=>(t,.tf b)::s
 |_=>s
section
variable (Γ:oy) (P:Program) (wr:FuncId->Bool)
def qH (all:Array Oper) (o:Oper) (ih:(Sl->Hp->Prop)->Sl->Hp->Prop) (K:Sl->Hp->Prop) (s:Sl) (H:Hp):Prop:=
  let run:=fun(s:Sl)=>nQ H 0 fun base=>aR Γ P wr (WK s) (nJ H) (look H) base o.op fun v ups=>pe ups H fun H'=>ih K (f7 o.dst v s) H'
  let skip:=fun(s:Sl)=>ih K (f7 o.dst .undef s) H
  match o.guard with
  |none=>run s
  |some (j,want)=>match(all[j]?).bind (·.dst)with
   |none=>False
   |some t=>lS s t fun v=>match v with
    | .tf b=>cond (b==want) (run s) (skip s)
    | .undef=>skip s
    | .p (.bool b)=>iK b (cond (true==want) (run ((t,.tf true)::s)) (skip ((t,.tf true)::s))) (cond (false==want) (run ((t,.tf false)::s)) (skip ((t,.tf false)::s)))
    |_=>False
noncomputable def rl (all:Array Oper) (l:List Oper):(Sl->Hp->Prop)->Sl->Hp->Prop:=
 List.rec (motive:=fun _=>(Sl->Hp->Prop)->Sl->Hp->Prop) (fun K s H=>K s H) (fun o _ ih=>qH Γ P wr all o ih) l
def fm:Op->Bool
 | .move _| .assign _| .pick .. | .alloc _| .box .. | .build .. | .buildSlice .. | .load .. | .nilCheck _| .binOp .. | .unOp .. | .convert .. | .makeFunc .. | .makeSlice .. | .slice .. | .fieldAddr .. | .field .. | .indexAddr .. | .index .. | .extract .. =>true
 | .call ⟨.builtin .len,_,_⟩| .call ⟨.builtin .max,_,_⟩| .call ⟨.builtin .min,_,_⟩=>true
 | .call ⟨.builtin .append,_,_⟩=>true
 | .call ⟨.value _,_,_⟩=>true
 | .store .. =>true
 | .lookup .. | .makeMap _ none| .mapUpdate .. | .insert .. =>true
 |_=>false
def F2 (all:Array Oper):Op->Bool
 | .call ⟨.builtin .append,xs,_⟩=>match xs.toList with
  | .tmp t::_=>all.toList.any fun o=>match o.dst,o.op with
   |some d,.buildSlice _ 0 _=>Nat.beq d t
   |_,_=>false
  |_=>false
 | .store .. | .mapUpdate .. | .insert .. =>false
 |_=>true
def quiet (all:Array Oper) (op:Op):Bool:=fm op&&F2 all op
def Hd.from (base:Nat):Hd->Bool
 | .t n=>Nat.ble base n
 | .r _ _=>false
inductive e9 (F:(AV->List (Hd×aA)->Prop)->Prop) (q:Bool) (base:Nat) (K:AV->List (Hd×aA)->Prop):Prop
 |mk (v:AV) (ups:List (Hd×aA)) (h:F fun v' ups'=>v'=v/\ups'=ups) (hb:(!q||ups.all fun x=>Hd.from base x.1)=true) (hk:K v ups)
inductive pD (b:Bool) (K:Prop) (b2:Bool) (K2:Prop):Prop
 |mk (h:b=true) (hk:K)
 |Oo (h:b2=true) (hk:K2)
inductive vo (b:Bool) (K:Prop) (b2:Bool) (K2:Prop):Prop
 |mk (h:b=true) (hk:K)
 |P9 (h:b2=true) (hk:K2)
inductive O8 (n:Nat) (B:aA) (K:aA->Prop):Prop
 |mk (es:List (PV×PV)) (hB:B= .map es) (hn:es.length=n) (hk:∀es':List (PV×PV),es'.Perm es->K (.map es'))
def tx:Op->Bool
 | .insert .. =>true
 |_=>false
def p5 (ops:Array Oper) (k:Nat):Bool:=match ops[k]? with
 |some o=>tx o.op
 |none=>false
def gC (ops:Array Oper) (D:Nat->Bool) (m:Nat):List Nat:=(List.range m).filter fun k=>D k&&p5 ops k
def k8 (acc:List Nat):List Edge->Nat
 |[]=>0
 |e::es=>bif Region.binds .any e then Nat.lor (Nat.lor (2^e.on) (acc.getD e.on 0)) (k8 acc es)else k8 acc es
def jM:List Oper->List Nat->List Nat
 |[],acc=>acc
 |o::os,acc=>jM os (acc++[k8 acc o.after.toList])
def xo (ops:Array Oper):Bool:=
 let ms:=jM ops.toList []
 (ops.toList.zipIdx.all fun y=>(y.1.after.toList.all fun e=> !(Region.binds .any e)||Nat.blt e.on y.2)&&
  ops.toList.zipIdx.all fun x=> !(Nat.blt x.2 y.2)||((x.1.apart ops y.1&&(quiet ops x.1.op&&quiet ops y.1.op))||(ms.getD y.2 0).testBit x.2))
def oc (all:Array Oper) (o:Oper) (ih:(Sl->Hp->Prop)->Sl->Hp->Prop) (K:Sl->Hp->Prop) (s:Sl) (H:Hp):Prop:=
  let run:=nQ H 0 fun base=>e9 (fun K'=>aR Γ P (fun _=>false) (WK s) (nJ H) (look H) base o.op K') (quiet all o.op) base fun v ups=>pe ups H fun H'=>ih K (f7 o.dst v s) H'
  let skip:=ih K (f7 o.dst .undef s) H
  match o.guard with
  |none=>run
  |some (j,want)=>match(all[j]?).bind (·.dst)with
   |none=>False
   |some t=>lS s t fun v=>match v with
    | .tf b=>cond (b==want) run skip
    | .undef=>skip
    | .p (.bool b)=>cond (b==want) run skip
    |_=>False
noncomputable def mn (all:Array Oper) (l:List Oper):(Sl->Hp->Prop)->Sl->Hp->Prop:=
 List.rec (motive:=fun _=>(Sl->Hp->Prop)->Sl->Hp->Prop) (fun K s H=>K s H) (fun o _ ih=>oc Γ P all o ih) l
mutual
def AV.CY:AV->List Nat
 | .aC h _| .dO h _ _ _| .vec h _ _ _| .map h=>[h.key]
 | .agg cs| .bK cs=>AV.gy cs
 | .fn _ fs cs=>AV.gy fs++AV.gy cs
 | .any| .undef| .tf _| .emp| .rB _ _ _| .p _=>[]
def AV.gy:List AV->List Nat
 |[]=>[]
 |c::cs=>c.CY++AV.gy cs
end
def HU (a b:List Nat×List Nat):Bool:=
 (a.2.all fun h=>b.2.all fun g=> !(Nat.beq h g))&&((a.2.all fun h=>b.1.all fun g=> !(Nat.beq h g))&&(b.2.all fun h=>a.1.all fun g=> !(Nat.beq h g)))
def ld (ops:Array Oper):Bool:=
 let ms:=jM ops.toList []
 (ops.toList.zipIdx.all fun y=>(y.1.after.toList.all fun e=> !(Region.binds .any e)||Nat.blt e.on y.2)&&
  ops.toList.zipIdx.all fun x=> !(Nat.blt x.2 y.2)||((x.1.apart ops y.1&&(fm x.1.op&&fm y.1.op))||(ms.getD y.2 0).testBit x.2))
def Dg (ops:Array Oper) (acc:List (List Nat×List Nat)):Bool:=
 let ms:=jM ops.toList []
 ops.toList.zipIdx.all fun y=>ops.toList.zipIdx.all fun x=> !(Nat.blt x.2 y.2)||((quiet ops x.1.op&&quiet ops y.1.op)||((ms.getD y.2 0).testBit x.2||HU (acc.getD x.2 ([],[])) (acc.getD y.2 ([],[]))))
abbrev Acc:=List (List Nat×List Nat)
def aA.NL:aA->List Nat
 | .rows _ cs| .box _ cs=>AV.gy cs
 |_=>[]
def jk (H:Hp) (l:List Nat):List Nat:=l++l.flatMap fun k=>(H.getD k .free).NL
def Cb (H:Hp) (l:List Nat):List Nat:=jk H (jk H l)
def looks:Op->Bool
 | .load .. | .store .. | .lookup .. | .mapUpdate .. | .insert .. | .next .. | .entry .. | .range .. | .mapEntry .. | .entryStore .. =>true
 | .call ⟨.builtin .len,_,_⟩| .call ⟨.builtin .max,_,_⟩| .call ⟨.builtin .min,_,_⟩=>false
 | .call _| .go _| .defer _=>true
 |_=>false
def deep:Op->Bool
 | .call ⟨.value _,_,_⟩=>true
 |_=>false
def tQ (op:Op) (H:Hp) (l:List Nat):List Nat:=cond (looks op) (cond (deep op) (Cb H l) l) []
def L3 (t0:TypeId) (b:Nat) (o:Oper) (a:List Nat×List Nat):Bool:=
 o.guard.isNone&&match o.op with
 | .insert t _ _ _=>Nat.beq t t0&&(o.dst.isNone&&(match a.2 with|[c]=>Nat.beq c b|_=>false))
 | .build .. | .move _| .assign _=>a.2.isEmpty
 |_=>false
def zH (ops:Array Oper) (acc:List (List Nat×List Nat)):Bool:=ld ops&&(Nat.beq acc.length ops.toList.length&&match ops.toList,acc with
 |o::os,(_,[b])::bs=>o.guard.isNone&&match o.op with
  | .makeMap t none=>(os.zip bs).all fun x=>L3 t b x.1 x.2
  |_=>false
 |_,_=>false)
def I8 (ops:Array Oper) (acc:List (List Nat×List Nat)) (H:Hp) (K:Hp->Prop):Prop:=match acc with
 |(_,[b])::_=>pB H b fun B=>O8 (gC ops (fun _=>true) ops.size).length B fun B'=>pe [(.t b,B')] H K
 |_=>False
def lY (all:Array Oper) (o:Oper) (ih:(Acc->Sl->Hp->Prop)->Acc->Sl->Hp->Prop) (K:Acc->Sl->Hp->Prop) (acc:Acc) (s:Sl) (H:Hp):Prop:=
  let run:=gg (WK s) o.op.operands.toList fun vs=>nQ H 0 fun base=>e9 (fun K'=>aR Γ P (fun _=>false) (WK s) (nJ H) (look H) base o.op K') (quiet all o.op) base fun v ups=>pe ups H fun H'=>ih K (acc++[(tQ o.op H (AV.gy vs),ups.map fun x=>x.1.key)]) (f7 o.dst v s) H'
  let skip:=ih K (acc++[([],[])]) (f7 o.dst .undef s) H
  match o.guard with
  |none=>run
  |some (j,want)=>match(all[j]?).bind (·.dst)with
   |none=>False
   |some t=>lS s t fun v=>match v with
    | .tf b=>cond (b==want) run skip
    | .undef=>skip
    | .p (.bool b)=>cond (b==want) run skip
    |_=>False
noncomputable def jS (all:Array Oper) (l:List Oper):(Acc->Sl->Hp->Prop)->Acc->Sl->Hp->Prop:=
 List.rec (motive:=fun _=>(Acc->Sl->Hp->Prop)->Acc->Sl->Hp->Prop) (fun K acc s H=>K acc s H) (fun o _ ih=>lY Γ P all o ih) l
inductive Ex where
 |normal
 |exit (id:Nat)
 |ret
theorem cD {a b:Nat}:Nat.blt a b=true↔a<b:=iff_of_eq Nat.blt_eq
def vp (n:Nat):Nat:=n%1000
@[simp] def gp (n:Nat):List Nat:=if n<1000 then[n]else[n%1000,n/1000-1]
def aA.K8:aA->Option Nat
 | .bu _ _ rs=>some rs.length
 |_=>none
def aD (H:Hp) (i:Nat):Nat:=
 match H.getD i .free with
 | .bu _ _ rows=>rows.length
 |_=>0
def dy (hs:List Nat) (p:Hp):Hd->Hd
 | .t i=>.t (vp (hs.getD i 0))
 | .r i k=>cond (Nat.blt (hs.getD i 0) 1000) (.r (hs.getD i 0) k) (cond (Nat.blt (k+1) (aD p i)) (.r (hs.getD i 0%1000) k) (.t (hs.getD i 0/1000-1)))
def vP (ρ:Hd->Hd) (s:Sl):Sl->Prop
 |[]=>True
 |(t,v)::p=>(lS s t fun u=>v.dm ρ=u)/\vP ρ s p
def rq (Q:Prop) (hs:List Nat) (ρ:Hd->Hd) (H:Hp):Hp->Nat->Prop
 |[],_=>Q
 |B::p,i=>(cond (Nat.blt (hs.getD i 0) 1000) (pB H (hs.getD i 0) fun C=>B.dm ρ=C)
   (pB H (hs.getD i 0%1000) fun C=>pB H (hs.getD i 0/1000-1) fun D=>∃T W rows es,C= .bu T W rows/\D= .vec T W es/\B= .bu T W (rows++[some es])))/\rq Q hs ρ H p (i+1)
def oV:List (Option Nat)->Hp->Prop->Prop
 |[],_,Q=>Q
 |none::ns,H,Q=>oV ns H.tail Q
 |some n::ns,H,Q=>match H with
  | .bu _ _ rows::H=>n<=rows.length/\oV ns H Q
  |_=>False
def Ht (p:Hp) (h:Hd) (Q:Prop):Prop:=
 match h with
 | .t _=>Q
 | .r i k=>(pB p i fun B=>match B with
  | .bu _ _ rows=>k<rows.length
  |_=>False)/\Q
def D9 (p:Hp) (v:AV) (Q:Prop):Prop:=
 match v with
 | .aC h _| .dO h _ _ _| .vec h _ _ _| .map h=>Ht p h Q
 |_=>Q
def sA (p:Hp):Sl->Prop->Prop
 |[],Q=>Q
 |(_,v)::s,Q=>D9 p v (sA p s Q)
def mY (p:Hp):Hp->Prop->Prop
 |[],Q=>Q
 | .rows _ cs::H,Q=>(∀c∈cs,∀h,c.aT h->look p h≠ .free)/\mY p H Q
 |_::H,Q=>mY p H Q
end
mutual
def AV.under (k:Nat):AV->Bool
 | .aC (.t h) _| .dO (.t h) _ _ _| .vec (.t h) _ _ _| .map (.t h)=>Nat.blt h k
 | .aC _ _| .dO _ _ _ _| .vec _ _ _ _| .map _=>false
 | .agg cs| .bK cs=>AV.n9 k cs
 | .fn _ fs cs=>AV.n9 k fs&&AV.n9 k cs
 | .any| .undef| .tf _| .emp| .rB _ _ _| .p _=>true
def AV.n9 (k:Nat):List AV->Bool
 |[]=>true
 |c::cs=>c.under k&&AV.n9 k cs
end
theorem AV.ku {k:Nat}:∀{c:AV},c.under k=true->∀j,c.aT j->∃i,j= .t i/\i<k:=by
 have key:∀(m:Nat) (c:AV),SizeOf.sizeOf c<=m->c.under k=true->∀j,c.aT j->∃i,j= .t i/\i<k:=by
  intro m
  induction m with
  |zero=>intro c hc;cases c<;>simp at hc
  |succ m ih=>
   intro c hc hb j hj
   have list:∀cs:List AV,SizeOf.sizeOf cs<=m->AV.n9 k cs=true->AV.bm cs j->∃i,j= .t i/\i<k:=by
    intro cs
    induction cs with
    |nil=>intro _ _ h;simp only[AV.bm]at h
    |cons d cs ih2=>
     intro hs hb hj
     simp only[AV.n9,Bool.and_eq_true]at hb
     simp only[AV.bm]at hj
     simp at hs
     rcases hj with hj|hj
     ·exact ih d qO hb.1 j hj
     ·exact ih2 qO hb.2 hj
   cases c<;>simp only[AV.aT]at hj
   case aC h o=>subst hj;cases h<;>simp only[AV.under]at hb<;>first|exact⟨_,rfl,by simpa using hb⟩|cases hb
   case dO h _ _ _=>subst hj;cases h<;>simp only[AV.under]at hb<;>first|exact⟨_,rfl,by simpa using hb⟩|cases hb
   case vec h _ _ _=>subst hj;cases h<;>simp only[AV.under]at hb<;>first|exact⟨_,rfl,by simpa using hb⟩|cases hb
   case map h=>subst hj;cases h<;>simp only[AV.under]at hb<;>first|exact⟨_,rfl,by simpa using hb⟩|cases hb
   case agg cs=>simp only[AV.under]at hb;exact list cs (by simp at hc;omega) hb hj
   case bK cs=>simp only[AV.under]at hb;exact list cs (by simp at hc;omega) hb hj
   case fn f fs cs=>
    simp only[AV.under,Bool.and_eq_true]at hb
    rcases hj with hj|hj
    ·exact list fs (by simp at hc;omega) hb.1 hj
    ·exact list cs (by simp at hc;omega) hb.2 hj
 exact fun{c}=>key _ c (Nat.le_refl _)
def AV.xA (k:Nat) (v:AV):Bool:=
 match v with
 | .aC (.r _ _) _| .dO (.r _ _) _ _ _| .vec (.r _ _) _ _ _| .map (.r _ _)=>true
 |v=>v.under k
def aA.under (k:Nat):aA->Bool
 | .free=>false
 | .box _ cs=>AV.n9 k cs
 |_=>true
def tJ (k:Nat):Sl->Bool
 |[]=>true
 |(_,v)::s=>v.xA k&&tJ k s
def sH (k:Nat):Hp->Bool
 |[]=>true
 |B::H=>B.under k&&sH k H
structure Ev (nin:List (Option Nat)) (hs:List Nat) (p:Sl×Hp) (s:Sl) (H:Hp):Prop where
 pre:hs.take nin.length=List.range nin.length
 nd:(hs.flatMap gp).Nodup
 len:hs.length=p.2.length
 bs:tJ p.2.length p.1=true
 bh:sH p.2.length p.2=true
 ss:vP (dy hs p.2) s p.1
 sh:rq (sA p.2 p.1 (mY p.2 p.2 (oV nin p.2 True))) hs (dy hs p.2) H p.2 0
theorem vP.get {ρ:Hd->Hd} {s p:Sl} (h:vP ρ s p) (t:Nat):aP p t= .any\/(aP p t).dm ρ=aP s t:=by
 induction p with
 |nil=>exact .inl rfl
 |cons x p ih=>
  obtain⟨i,v⟩:=x
  simp only[vP]at h
  simp only[aP]
  cases e:Nat.beq i t with
  |false=>exact ih h.2
  |true=>
   have:=Nat.eq_of_beq_eq_true e
   subst this
   exact .inr (pF h.1)
theorem rq.base {Q:Prop} {hs:List Nat} {ρ:Hd->Hd} {H p:Hp} {i:Nat} (h:rq Q hs ρ H p i):Q:=by
 induction p generalizing i with
 |nil=>exact h
 |cons B p ih=>exact ih h.2
def Ch (ρ:Hd->Hd) (H:Hp) (B:aA) (n:Nat):Prop:=
 (n<1000/\B.dm ρ=H.getD n .free)\/(1000<=n/\∃T W rows es,H.getD (n%1000) .free= .bu T W rows/\H.getD (n/1000-1) .free= .vec T W es/\B= .bu T W (rows++[some es]))
theorem rq.get {Q:Prop} {hs:List Nat} {ρ:Hd->Hd} {H p:Hp} {i:Nat} (h:rq Q hs ρ H p i) (k:Nat) (hk:k<p.length):Ch ρ H (p.getD k .free) (hs.getD (i+k) 0):=by
 induction p generalizing i k with
 |nil=>simp at hk
 |cons B p ih=>
  simp only[rq]at h
  cases k with
  |zero=>
   obtain⟨h,_⟩:=h
   show Ch ρ H B (hs.getD i 0)
   generalize hs.getD i 0=n at h
   cases hn:Nat.blt n 1000 with
   |true=>
    rw[hn]at h
    exact .inl ⟨cD.1 hn,jA _ _ _ h⟩
   |false=>
    rw[hn]at h
    have h1:=jA _ _ _ h
    have h2:=jA _ _ _ h1
    obtain⟨T,W,rows,es,e1,e2,e3⟩:=h2
    refine .inr ⟨?_,T,W,rows,es,e1,e2,e3⟩
    rcases Nat.lt_or_ge n 1000 with h|h
    ·rw[cD.2 h]at hn;cases hn
    ·exact h
  |succ k=>
   have:=ih h.2 k (by simpa using hk)
   rw[show i+1+k=i+(k+1) by omega]at this
   exact this
theorem Iu {p:Hp} {h:Hd} {Q:Prop} (hq:Ht p h Q):Q/\∀i k,h= .r i k->look p h≠ .free:=by
 cases h with
 |t n=>exact⟨hq,fun i k e=>by cases e⟩
 |r i k=>
  refine⟨hq.2,fun i' k' e=>?_⟩
  have:=jA _ _ _ hq.1
  show(p.getD i .free).row k≠ .free
  generalize p.getD i .free=B at this
  cases B<;>first|exact this.elim|skip
  rename_i T W rows
  have hlt:k<rows.length:=this
  simp only[aA.row,List.getElem?_eq_getElem hlt]
  cases rows[k]<;>exact fun e=>by cases e
theorem Ct {p:Hp} {v:AV} {Q:Prop} (hq:D9 p v Q):Q/\∀j,v.aT j->v.xA p.length=true->(∃i,j= .t i/\i<p.length)\/look p j≠ .free:=by
 have un:v.under p.length=true->∀j,v.aT j->(∃i,j= .t i/\i<p.length)\/look p j≠ .free:=fun h j hj=>.inl (AV.ku h j hj)
 have go:∀h:Hd,Ht p h Q->(∀j,v.aT j->h=j)->(∀n,h= .t n->v.xA p.length=v.under p.length)->Q/\∀j,v.aT j->v.xA p.length=true->(∃i,j= .t i/\i<p.length)\/look p j≠ .free:=by
  intro h hq hm hu
  obtain⟨q,hr⟩:=Iu hq
  refine⟨q,fun j hj hb=>?_⟩
  have:=hm j hj
  subst this
  cases h with
  |t n=>rw[hu n rfl]at hb;exact un hb _ hj
  |r i k=>exact .inr (hr i k rfl)
 cases v
 case aC h o=>exact go h hq (fun j hj=>hj) (fun n e=>by subst e;rfl)
 case dO h _ _ _=>exact go h hq (fun j hj=>hj) (fun n e=>by subst e;rfl)
 case vec h _ _ _=>exact go h hq (fun j hj=>hj) (fun n e=>by subst e;rfl)
 case map h=>exact go h hq (fun j hj=>hj) (fun n e=>by subst e;rfl)
 all_goals exact⟨hq,fun j hj hb=>un hb j hj⟩
theorem B6 {p:Hp} {s:Sl} {Q:Prop} (h:tJ p.length s=true) (hq:sA p s Q):Q/\∀(t:Nat) (j:Hd),(aP s t).aT j->(∃i,j= .t i/\i<p.length)\/look p j≠ .free:=by
 induction s with
 |nil=>exact⟨hq,fun t j hj=>by simp only[aP,AV.aT]at hj⟩
 |cons x s ih=>
  obtain⟨i,v⟩:=x
  simp only[tJ,Bool.and_eq_true]at h
  obtain⟨hq,hv⟩:=Ct hq
  obtain⟨hq,hs⟩:=ih h.2 hq
  refine⟨hq,fun t j hj=>?_⟩
  simp only[aP]at hj
  cases e:Nat.beq i t<;>rw[e]at hj
  ·exact hs t j hj
  ·exact hv j hj h.1
theorem oi {k:Nat} {p:Hp} (h:sH k p=true) (i:Nat) (hi:i<p.length):(p.getD i .free).under k=true:=by
 induction p generalizing i with
 |nil=>simp at hi
 |cons B p ih=>
  simp only[sH,Bool.and_eq_true]at h
  cases i with
  |zero=>exact h.1
  |succ i=>exact ih h.2 i (by simpa using hi)
theorem yB {p q:Hp} {Q:Prop} (h:mY p q Q):Q/\∀i T cs,q.getD i .free= .rows T cs->∀c∈cs,∀h,c.aT h->look p h≠ .free:=by
 induction q with
 |nil=>exact⟨h,fun i T cs e=>by simp at e⟩
 |cons B q ih=>
  have:mY p q Q/\∀T cs,B= .rows T cs->∀c∈cs,∀h,c.aT h->look p h≠ .free:=by
   cases B<;>first|exact⟨h,fun T cs e=>by cases e⟩|exact⟨h.2,fun T cs e=>by cases e;exact h.1⟩
  obtain⟨h1,h2⟩:=ih this.1
  refine⟨h1,fun i T cs e=>?_⟩
  cases i with
  |zero=>exact this.2 T cs (by simpa using e)
  |succ i=>exact h2 i T cs (by simpa using e)
def PG (nin:List (Option Nat)):Hd->Prop
 | .t i=>i<nin.length
 | .r i k=>∃n,nin[i]?=some (some n)/\k<n
theorem zW {nin:List (Option Nat)} {p:Hp} {Q:Prop} (h:oV nin p Q):Q/\∀i n,nin[i]?=some (some n)->n<=aD p i:=by
 induction nin generalizing p with
 |nil=>exact⟨h,fun i n e=>by simp at e⟩
 |cons x nin ih=>
  cases x with
  |none=>
   obtain⟨h1,h2⟩:=ih h
   refine⟨h1,fun i n e=>?_⟩
   cases i with
   |zero=>simp at e
   |succ i=>
    have:=h2 i n (by simpa using e)
    cases p<;>simpa[aD]using this
  |some m=>
   cases p with
   |nil=>exact h.elim
   |cons B p=>
    cases B<;>first|exact h.elim|skip
    obtain⟨h1,h2⟩:=ih h.2
    refine⟨h1,fun i n e=>?_⟩
    cases i with
    |zero=>simp at e;subst e;exact h.1
    |succ i=>have:=h2 i n (by simpa using e);simpa[aD]using this
theorem kI {p:Hp} {i k:Nat} (h:k<aD p i):look p (.r i k)≠ .free:=by
 simp only[look]
 unfold aD at h
 split at h
 ·rename_i T W rows e
  rw[e]
  simp only[aA.row,List.getElem?_eq_getElem h]
  cases rows[k]<;>exact fun e=>by cases e
 ·omega
theorem jQ {p:Hp} {i k:Nat} (h:look p (.r i k)≠ .free):k<aD p i:=by
 simp only[look]at h
 unfold aD
 cases hB:p.getD i .free<;>rw[hB]at h<;>first|exact(h rfl).elim|skip
 rename_i T W rows
 simp only
 rcases Nat.lt_or_ge k rows.length with h'|h'
 ·exact h'
 ·simp[aA.row,List.getElem?_eq_none h']at h
theorem aA.ku {k:Nat} {B:aA} (h:B.under k=true):B≠ .free/\∀j,B.aT j->(∃i,j= .t i/\i<k)\/∃T cs,B= .rows T cs/\AV.bm cs j:=by
 cases B with
 |free=>cases h
 |box T cs=>
  refine⟨(fun e=>by cases e),fun j hj=>?_⟩
  have this:(AV.agg cs).under k=true:=h
  exact .inl (AV.ku this j (show(AV.agg cs).aT j from hj))
 |rows T cs=>exact⟨(fun e=>by cases e),fun j hj=>.inr ⟨T,cs,rfl,hj⟩⟩
 |_=>exact⟨(fun e=>by cases e),fun j hj=>hj.elim⟩
theorem v7 {hs:List Nat} {i j:Nat} (hnd:(hs.flatMap gp).Nodup) (hi:i<hs.length) (hj:j<hs.length) (hij:i≠j):∀x,x∈gp (hs.getD i 0)->x∉gp (hs.getD j 0):=by
 induction hs generalizing i j with
 |nil=>simp at hi
 |cons a hs ih=>
  rw[List.flatMap_cons,List.nodup_append]at hnd
  have mem:∀q,q<hs.length->∀x,x∈gp (hs.getD q 0)->x∈hs.flatMap gp:=fun q hq x hx=>by
   rw[List.mem_flatMap]
   exact⟨hs[q],List.getElem_mem hq,by
    have e:hs.getD q 0=hs[q]:=by simp[List.getD,List.getElem?_eq_getElem hq]
    rw[e]at hx;exact hx⟩
  intro x hx hx'
  cases i with
  |zero=>
   cases j with
   |zero=>exact hij rfl
   |succ j=>exact hnd.2.2 x hx x (mem j (by simpa using hj) x hx') rfl
  |succ i=>
   cases j with
   |zero=>exact hnd.2.2 x hx' x (mem i (by simpa using hi) x hx) rfl
   |succ j=>exact ih hnd.2.1 (by simpa using hi) (by simpa using hj) qO x hx hx'
theorem BR {hs:List Nat} {i:Nat} (hnd:(hs.flatMap gp).Nodup) (hi:i<hs.length):(gp (hs.getD i 0)).Nodup:=by
 induction hs generalizing i with
 |nil=>simp at hi
 |cons a hs ih=>
  rw[List.flatMap_cons,List.nodup_append]at hnd
  cases i with
  |zero=>exact hnd.1
  |succ i=>exact ih hnd.2.1 (by simpa using hi)
section
variable {E:Env} {n:Nat} {a:Act} {w:World}
theorem St.w8 {nin:List (Option Nat)} (hIn:∀h,E.In h->PG nin h) {hs:List Nat} {p:Sl×Hp} {s:Sl} {H:Hp} (h:St E n (aP s) (look H) a w) (hw:Ev nin hs p s H):St E n (aP p.1) (look p.2) a w:=by
 obtain⟨F,β,h⟩:=h
 refine⟨F,fun k=>β (dy hs p.2 k),?_⟩
 obtain⟨hq,hslot⟩:=B6 hw.bs hw.sh.base
 obtain⟨hq,hrows⟩:=yB hq
 obtain⟨_,hpools⟩:=zW hq
 have hget:∀i,i<p.2.length->Ch (dy hs p.2) H (p.2.getD i .free) (hs.getD i 0):=fun i hi=>by have:=hw.sh.get i hi;rw[Nat.zero_add]at this;exact this
 have hH:∀k:Hd,look p.2 k≠ .free->(k.key<p.2.length/\((look p.2 k).live\/(∃i j,k= .r i j)->(look p.2 k).dm (dy hs p.2)=look H (dy hs p.2 k)))/\look H (dy hs p.2 k)≠ .free:=by
  intro k hk
  have hkl:=d7 hk
  cases k with
  |t i=>
   have hi:i<p.2.length:=hkl
   rcases hget i hi with⟨hn,e⟩|⟨hn,T,W,rows,es,e1,e2,e3⟩
   ·have ept:vp (hs.getD i 0)=hs.getD i 0:=Nat.mod_eq_of_lt hn
    have e':(look p.2 (.t i)).dm (dy hs p.2)=look H (dy hs p.2 (.t i)):=by
     simp only[look,dy,ept,<-e,aA.wU]
    refine⟨⟨hi,fun _=>e'⟩,?_⟩
    rw[<-e',Ne,aA.gD];exact hk
   ·refine⟨⟨hi,fun hl=>?_⟩,?_⟩
    ·rcases hl with hl|⟨i',j',e⟩
     ·simp only[look,e3]at hl;exact hl.elim
     ·cases e
    ·simp only[dy,look,vp,e1]
     exact fun e=>by cases e
  |r i k=>
   have hi:i<p.2.length:=hkl
   rcases hget i hi with⟨hn,e⟩|⟨hn,T,W,rows,es,e1,e2,e3⟩
   ·have eb:Nat.blt (hs.getD i 0) 1000=true:=cD.2 hn
    have e':(look p.2 (.r i k)).dm (dy hs p.2)=look H (dy hs p.2 (.r i k)):=by
     simp only[look,dy,eb,cond_true,<-e,aA.CB,aA.l9]
    refine⟨⟨hi,fun _=>e'⟩,?_⟩
    rw[<-e',Ne,aA.gD];exact hk
   ·have eb:Nat.blt (hs.getD i 0) 1000=false:=by
     cases hb:Nat.blt (hs.getD i 0) 1000 with
     |false=>rfl
     |true=>have:=cD.1 hb;omega
    have hkr:=jQ hk
    have epl:aD p.2 i=rows.length+1:=by unfold aD;rw[e3];simp
    have e':(look p.2 (.r i k)).dm (dy hs p.2)=look H (dy hs p.2 (.r i k)):=by
     rw[epl]at hkr
     by_cases hkk:k+1<rows.length+1
     ·have e4:Nat.blt (k+1) (rows.length+1)=true:=cD.2 hkk
      simp only[dy,eb,epl,e4,cond_false,cond_true,look,e1,e3,aA.l9]
      simp only[aA.row]
      rw[List.getElem?_append_left qO]
     ·have e4:Nat.blt (k+1) (rows.length+1)=false:=by
       cases hb:Nat.blt (k+1) (rows.length+1)with
       |false=>rfl
       |true=>have:=cD.1 hb;omega
      have:k=rows.length:=qO
      subst this
      simp only[dy,eb,epl,e4,cond_false,look,e2,e3,aA.l9]
      simp[aA.row,aA.top]
    refine⟨⟨hi,fun _=>e'⟩,?_⟩
    rw[<-e',Ne,aA.gD];exact hk
 have lv:∀k,(look p.2 k).live->(look H (dy hs p.2 k)).live:=fun k hk=>by
  rw[<-(hH k (aA.ck hk)).1.2 (.inl hk),aA.uG];exact hk
 have inj:∀k k':Hd,(look p.2 k).live->(look p.2 k').live->dy hs p.2 k=dy hs p.2 k'->k=k':=by
  intro k k' hk hk' e
  have k1:k.key<hs.length:=by rw[hw.len];exact(hH k (aA.ck hk)).1.1
  have k2:k'.key<hs.length:=by rw[hw.len];exact(hH k' (aA.ck hk')).1.1
  have us:∀k:Hd,(look p.2 k).live->(dy hs p.2 k).key∈gp (hs.getD k.key 0):=by
   intro k hk
   have hkl:k.key<p.2.length:=(hH k (aA.ck hk)).1.1
   rcases hget k.key hkl with⟨hn,_⟩|⟨hn,T,W,rows,es,e1,e2,e3⟩
   ·have eb:Nat.blt (hs.getD k.key 0) 1000=true:=cD.2 hn
    cases k with
    |t i=>
     have hn:hs.getD i 0<1000:=hn
     show vp (hs.getD i 0)∈gp (hs.getD i 0)
     generalize hs.getD i 0=q at hn
     simp[gp,vp,hn,Nat.mod_eq_of_lt hn]
    |r i j=>
     have hn:hs.getD i 0<1000:=hn
     have eb:Nat.blt (hs.getD i 0) 1000=true:=eb
     show(dy hs p.2 (.r i j)).key∈gp (hs.getD i 0)
     simp only[dy,eb,cond_true,Hd.key]
     generalize hs.getD i 0=q at hn
     simp[gp,hn]
   ·have eb:Nat.blt (hs.getD k.key 0) 1000=false:=by
     cases hb:Nat.blt (hs.getD k.key 0) 1000 with
     |false=>rfl
     |true=>have:=cD.1 hb;omega
    cases k with
    |t i=>simp only[look]at hk;rw[show p.2.getD i .free=_ from e3]at hk;exact hk.elim
    |r i j=>
     have hn:1000<=hs.getD i 0:=hn
     have eb:Nat.blt (hs.getD i 0) 1000=false:=eb
     show(dy hs p.2 (.r i j)).key∈gp (hs.getD i 0)
     simp only[dy,eb,cond_false]
     generalize hs.getD i 0=q at hn
     have hn':¬q<1000:=qO
     cases Nat.blt (j+1) (aD p.2 i)<;>simp[gp,hn',Hd.key]
  have hkk:k.key=k'.key:=by
   apply Classical.byContradiction
   intro hne
   have h1:=us k hk
   have h2:=us k' hk'
   rw[e]at h1
   exact v7 hw.nd k1 k2 hne _ h1 h2
  have hkl:k.key<p.2.length:=(hH k (aA.ck hk)).1.1
  cases k with
  |t i=>
   cases k' with
   |t i'=>cases hkk;rfl
   |r i' j'=>
    cases hkk
    have hp:∃T W rows,p.2.getD i .free= .bu T W rows:=by
     simp only[look]at hk'
     cases hB:p.2.getD i .free<;>rw[hB]at hk'<;>first|exact hk'.elim|exact⟨_,_,_,rfl⟩
    obtain⟨T,W,rows,hB⟩:=hp
    simp only[look,hB]at hk
    exact hk.elim
  |r i j=>
   cases k' with
   |t i'=>
    cases hkk
    have hp:∃T W rows,p.2.getD i .free= .bu T W rows:=by
     simp only[look]at hk
     cases hB:p.2.getD i .free<;>rw[hB]at hk<;>first|exact hk.elim|exact⟨_,_,_,rfl⟩
    obtain⟨T,W,rows,hB⟩:=hp
    simp only[look,hB]at hk'
    exact hk'.elim
   |r i' j'=>
    cases hkk
    have hnd:=BR hw.nd k1
    simp only[Hd.key]at hnd
    rcases hget i hkl with⟨hn,_⟩|⟨hn,T,W,rows,es,e1,e2,e3⟩
    ·have eb:Nat.blt (hs.getD i 0) 1000=true:=cD.2 hn
     simp only[dy,eb,cond_true,Hd.r.injEq]at e
     rw[e.2]
    ·have eb:Nat.blt (hs.getD i 0) 1000=false:=by
      cases hb:Nat.blt (hs.getD i 0) 1000 with
      |false=>rfl
      |true=>have:=cD.1 hb;omega
     have l1:=jQ (aA.ck hk)
     have l2:=jQ (aA.ck hk')
     simp only[dy,eb,cond_false]at e
     cases b1:Nat.blt (j+1) (aD p.2 i)<;>cases b2:Nat.blt (j'+1) (aD p.2 i)<;>rw[b1,b2]at e
     ·have n1:¬j+1<aD p.2 i:=fun h=>by rw[cD.2 h]at b1;cases b1
      have n2:¬j'+1<aD p.2 i:=fun h=>by rw[cD.2 h]at b2;cases b2
      rw[show j=j' by omega]
     ·cases e
     ·cases e
     ·simp only[cond_true,Hd.r.injEq]at e;rw[e.2]
 have nf:∀j:Hd,(∃i,j= .t i/\i<p.2.length)\/look p.2 j≠ .free->look p.2 j≠ .free:=by
  rintro j (⟨i,rfl,hi⟩|hj)
  ·exact aA.uq (aA.ku (oi hw.bh i hi)).1
  ·exact hj
 exact{
  os:=h.os,tape:=h.tape,output:=h.output,size:=h.size,p9:=h.p9,iT:=h.iT,Ca:=h.Ca,nA:=h.nA,fold:=h.fold
  own:=fun k b h1 h2=>h.own _ b (lv k h1) h2
  nG:=fun k k' b h1 h2 h3 h4=>inj k k' h1 h2 (h.nG _ _ b (lv k h1) (lv k' h2) h3 h4)
  len:=h.len
  iD:=fun t=>by
   rcases hw.ss.get t with e|e
   ·rw[e];exact .any _
   ·have:=h.iD t
    rw[<-e]at this
    exact this.sU rfl
  d4:=fun k=>by
   by_cases hl:(look p.2 k).live
   ·have:=h.d4 (dy hs p.2 k)
    rw[<-(hH k (aA.ck hl)).1.2 (.inl hl)]at this
    exact rK.sU this
   ·cases hB:look p.2 k<;>rw[hB]at hl<;>first|trivial|exact(hl trivial).elim
  ms:=fun t k hk=>nf k (hslot t k hk)
  mb:=fun i k hk=>by
   cases i with
   |r i j=>exact(aA.mR _ _ _ hk).elim
   |t i=>
    have hk':(p.2.getD i .free).top.aT k:=hk
    have hif:look p.2 (.t i)≠ .free:=fun e=>by rw[show(p.2.getD i .free).top=look p.2 (.t i)from rfl,e]at hk';exact hk'.elim
    have hi:i<p.2.length:=d7 hif
    have hmen:(p.2.getD i .free).aT k:=by revert hk';cases p.2.getD i .free<;>first|exact id|exact fun h=>h.elim
    rcases(aA.ku (oi hw.bh i hi)).2 k hmen with h|⟨T,cs,e,hm⟩
    ·exact nf k (.inl h)
    ·rw[AV.dN]at hm
     obtain⟨c,hc,hm⟩:=hm
     exact hrows i T cs e c hc k hm
  defers:=h.defers
  L6:=h.L6
  bin:=fun i hi=>by
   have hN:=hIn i hi
   have hpre:∀q,q<nin.length->hs.getD q 0=q/\q<p.2.length:=fun q hq=>by
    have hp:(hs.take nin.length)[q]?=some q:=by rw[hw.pre,List.getElem?_range hq]
    rw[List.getElem?_take_of_lt hq]at hp
    exact⟨by simp[List.getD,hp],by rw[<-hw.len];exact(List.getElem?_eq_some_iff.1 hp).1⟩
   have h1000:∀q,q<nin.length->q<1000\/False:=fun q hq=>by
    have:=hpre q hq
    rcases hget q this.2 with⟨hn,_⟩|⟨hn,T,W,rows,es,e1,e2,e3⟩
    ·rw[this.1]at hn;exact .inl hn
    ·rw[this.1]at hn e1
     exfalso
     have hq':q%1000<nin.length:=qO
     have hq2:=hpre (q%1000) hq'
     have u1:q%1000∈gp (hs.getD q 0):=by rw[this.1];simp only[gp];rw[if_neg qO];simp
     have u2:q%1000∈gp (hs.getD (q%1000) 0):=by rw[hq2.1];simp only[gp];rw[if_pos (Nat.mod_lt _ qO)];simp
     exact v7 hw.nd (by rw[hw.len];exact this.2) (by rw[hw.len];exact hq2.2) qO _ u1 u2
   cases i with
   |t q=>
    have hq:q<nin.length:=hN
    obtain⟨e,hlt⟩:=hpre q hq
    have hq1:=(h1000 q hq).resolve_right id
    refine⟨?_,aA.uq (aA.ku (oi hw.bh q hlt)).1⟩
    show β (.t (vp (hs.getD q 0)))=_
    rw[e,vp,Nat.mod_eq_of_lt hq1];exact(h.bin _ hi).1
   |r q k=>
    obtain⟨m,hm,hkm⟩:=hN
    have hq:q<nin.length:=(List.getElem?_eq_some_iff.1 hm).1
    obtain⟨e,hlt⟩:=hpre q hq
    have hq1:=(h1000 q hq).resolve_right id
    refine⟨?_,kI (by have:=hpools q m hm;omega)⟩
    show β (dy hs p.2 (.r q k))=_
    simp only[dy,e,cD.2 hq1,cond_true]
    exact(h.bin _ hi).1}
end
theorem cC.Kn {E:Env} {n:Nat} {s:Nat->AV} {L:Hd->aA} {a:Act} {w:World} {F:Nat->Prop} {β:Hd->Option Nat×Nat} (h:cC E n s L a w F β) {t base W:Nat} (B:aA) (hl:B.live) (hO:∀w FB (β:Hd->Option Nat×Nat) h,β h=(none,0)->rK w FB β h B) (hm:∀k,¬B.aT k)
  (ht:s t= .emp) (hfree:L base= .free):cC E n (a8 s t (.vec base W 0 0)) (a8 L base B) a w F (a8 β base (none,0)):=by
 have ne:∀k,L k≠ .free->k≠base:=fun k hk e=>hk (e▸hfree)
 have h1:cC E n s (a8 L base B) a w F (a8 β base (none,0)):=by
  refine h.step rfl rfl rfl (Nat.le_refl _) (fun _=>id) h.nA h.fold (fun _ _=>rfl) (fun _ _=>rfl) (fun k hk=>aj _ _ (ne k hk)) (fun k hk=>by rw[aj _ _ (ne k hk)];exact hk) (fun k=>?_) (fun k b g1 g2=>?_) (fun k k' b g1 g2 g3 g4=>?_)
  ·by_cases e:k=base
   ·subst e;rw[ah]
    exact .inr ⟨hO _ _ _ _ (ah _ _ _),fun j hj=>(hm j hj).elim⟩
   ·rw[aj _ _ e];exact .inl ⟨rfl,fun _ _ _=>rfl⟩
  ·by_cases e:k=base
   ·subst e;rw[ah]at g2;cases g2
   ·rw[aj _ _ e]at g1 g2;exact h.own k b g1 g2
  ·by_cases e:k=base
   ·subst e;rw[ah]at g3;cases g3
   ·by_cases e':k'=base
    ·subst e';rw[ah]at g4;cases g4
    ·rw[aj _ _ e]at g1 g3;rw[aj _ _ e']at g2 g4;exact h.nG k k' b g1 g2 g3 g4
 refine{h1 with iD:=fun t'=>?_,ms:=St.CM h1.ms fun k hk=>?_,defers:=h1.defers}
 ·unfold a8
  by_cases e:t'=t
  ·subst e
   rw[if_pos rfl]
   have hs:=h.iD t'
   rw[ht]at hs
   generalize a.tmps.getD t' Go.undef=v at hs
   cases hs with
   |lu=>exact .jZ none qS
   |emp ad=>exact .jZ (some ad) qS
  ·rw[if_neg e];exact h1.iD t'
 ·obtain rfl:(base:Hd)=k:=hk
  rw[ah];exact fun e=>by rw[e]at hl;exact hl
inductive wK:Sl->Hp->Sl->Hp->Prop
 |done (s:Sl) (H:Hp):wK s H s H
 |step {s:Sl} {H:Hp} {s':Sl} {H':Hp} (t:Tmp) (T:TypeId) (W:Nat) (h:aP s t= .emp) (hr:wK ((t,.vec H.length W 0 0)::s) (H++[.vec T W []]) s' H'):wK s H s' H'
 |rows {s:Sl} {H:Hp} {s':Sl} {H':Hp} (t:Tmp) (T:TypeId) (h:aP s t= .emp) (hr:wK ((t,.vec H.length 1 0 0)::s) (H++[.rows T []]) s' H'):wK s H s' H'
 |bu {s:Sl} {H:Hp} {s':Sl} {H':Hp} (T:TypeId) (W:Nat) (hr:wK s (H++[.bu T W []]) s' H'):wK s H s' H'
theorem mh (H:Hp) (B:aA):look (H++[B])=fg (look H) (.t H.length) B:=by
 have get:∀m,(H++[B]).getD m .free=if m=H.length then B else H.getD m .free:=fun m=>by
  by_cases e:m=H.length
  ·subst e;simp
  ·rw[if_neg e]
   rcases Nat.lt_or_ge m H.length with h|h
   ·simp[List.getD,List.getElem?_append_left h]
   ·rw[eJ H _ h,eJ (H++[B]) _ (by simp;omega)]
 funext g
 by_cases e:g.key=H.length
 ·cases g with
  |t m=>have e:m=H.length:=e;subst e;rw[Ck];simp only[look,get,if_true]
  |r m k=>
   have e:m=H.length:=e
   subst e
   rw[sT fun _=>c7 (Nat.le_refl _)]
   simp only[look,get,if_true]
 ·rw[ju e]
  cases g<;>simp only[Hd.key]at e<;>simp only[look,get,if_neg e]
theorem St.Kn {E:Env} {n:Nat} {a:Act} {w:World} {s:Sl} {H:Hp} {s':Sl} {H':Hp} (t:wK s H s' H') (h:St E n (aP s) (look H) a w):St E n (aP s') (look H') a w:=by
 induction t with
 |done s H=>exact h
 | @step s H _ _ t T W ht _ ih=>
  refine ih ?_
  obtain⟨F,β,h⟩:=h
  have:=h.Kn (base:=H.length) (W:=W) (.vec T W []) trivial (fun w FB β h e=>⟨fun e he=>by simp at he,qS,.inl (by rw[e];exact⟨rfl,rfl⟩)⟩) (fun k hk=>hk) ht (c7 (Nat.le_refl _))
  refine⟨F,a8 β H.length (none,0),?_⟩
  have e:=fD (some t) (.vec H.length W 0 0) s
  simp only[f7]at e
  rw[e,mh]
  exact this
 | @rows s H _ _ t T ht _ ih=>
  refine ih ?_
  obtain⟨F,β,h⟩:=h
  have:=h.Kn (base:=H.length) (W:=1) (.rows T []) trivial (fun w FB β h e=>⟨fun e he=>by simp at he,qS,.inl (by rw[e];exact⟨rfl,rfl⟩)⟩) (fun k (hk:AV.bm [] k)=>by simp only[AV.bm]at hk) ht (c7 (Nat.le_refl _))
  refine⟨F,a8 β H.length (none,0),?_⟩
  have e:=fD (some t) (.vec H.length 1 0 0) s
  simp only[f7]at e
  rw[e,mh]
  exact this
 | @bu s H _ _ T W _ ih=>
  refine ih ?_
  obtain⟨F,β,h⟩:=h
  refine⟨F,β,?_⟩
  have e:look (H++[.bu T W []])=a8 (look H) (.t H.length) .dead:=by
   rw[mh]
   funext g
   unfold a8
   cases g with
   |t m=>simp only[fg,gE,Hd.t.injEq]
   |r m k=>
    have ne:(Hd.r m k:Hd)≠ .t H.length:=fun e=>by cases e
    rw[if_neg ne]
    by_cases e:m=H.length
    ·subst e
     rw[c7 (H:=H) (h:=.r H.length k) (Nat.le_refl _)]
     simp[fg,gE,aA.row]
    ·simp only[fg,gE,if_neg e]
  rw[e]
  exact h.kill _
inductive aJ (nin:List (Option Nat)) (body:(Ex->Sl->Hp->Prop)->Sl->Hp->Prop) (K:Ex->Sl->Hp->Prop) (s:Sl) (H:Hp):Prop
 |yu (X:Type) (st:X->Sl×Hp) (φ:X->Prop) (μ:X->Nat) (x0:X) (hs0:List Nat) (s1:Sl) (H1:Hp) (th:wK s H s1 H1) (h0:φ x0) (w0:Ev nin hs0 (st x0) s1 H1)
   (hr:∀x,φ x->body (fun e s' H'=>match e with
    | .normal=>∃x' hs',φ x'/\μ x'<μ x/\Ev nin hs' (st x') s' H'
    |e=>K e s' H') (st x).1 (st x).2):aJ nin body K s H
theorem aJ.mk {nin:List (Option Nat)} {body:(Ex->Sl->Hp->Prop)->Sl->Hp->Prop} {K:Ex->Sl->Hp->Prop} {s:Sl} {H:Hp} (X:Type) (st:X->Sl×Hp) (φ:X->Prop) (μ:X->Nat) (x0:X) (hs0:List Nat) (h0:φ x0) (w0:Ev nin hs0 (st x0) s H)
  (hr:∀x,φ x->body (fun e s' H'=>match e with
   | .normal=>∃x' hs',φ x'/\μ x'<μ x/\Ev nin hs' (st x') s' H'
   |e=>K e s' H') (st x).1 (st x).2):aJ nin body K s H:=.yu X st φ μ x0 hs0 s H (.done s H) h0 w0 hr
section
variable (Γ:oy) (P:Program) (wr:FuncId->Bool) (nin:List (Option Nat))
noncomputable def VC (c:Code):(Ex->Sl->Hp->Prop)->Sl->Hp->Prop:=
 Code.rec (motive:=fun _=>(Ex->Sl->Hp->Prop)->Sl->Hp->Prop)
  (fun K s H=>K .normal s H)
  (fun _ ops draw K s H=>match draw with
   |false=>rl Γ P wr ops ops.toList (fun s H=>K .normal s H) s H
   |true=>pD (xo ops) (mn Γ P ops ops.toList (fun s H=>K .normal s H) s H) (ld ops) (jS Γ P ops ops.toList (fun acc s H=>vo (Dg ops acc) (K .normal s H) (zH ops acc) (I8 ops acc H fun H=>K .normal s H)) [] s H))
  (fun _ _ ihx ihy K s H=>ihx (fun e s H=>match e with
   | .normal=>ihy K s H
   |e=>K e s H) s H)
  (fun c _ _ ihx ihy K s H=>WK s c fun v=>match v with
   | .tf true=>ihx K s H
   | .tf false=>ihy K s H
   | .p (.bool b)=>iK b (ihx K (Hm c true s) H) (ihy K (Hm c false s) H)
   |_=>False)
  (fun id _ ih K s H=>ih (fun e s H=>match e with
   | .exit id'=>cond (Nat.beq id' id) (K .normal s H) (K (.exit id') s H)
   |e=>K e s H) s H)
  (fun _ ih K s H=>aJ nin ih K s H)
  (fun _ _ _ _ _ _ _ _ _=>False)
  (fun id K s H=>K (.exit id) s H)
  (fun _ _ _ _ _=>False)
  (fun _ _ _ _=>False)
  (fun _ _ _ _=>False)
  (fun K s H=>K .ret s H)
  (fun _ _ _ _=>False) c
def nT (n:Nat) (ops:List Oper):Bool:=ops.all fun o=>match o.dst with
 |some d=>Nat.blt d n
 |none=>true
def fits (n:Nat):Code->Bool
 | .skip| .exit _| .ret=>true
 | .region _ ops _=>nT n ops.toList
 | .seq x y=>fits n x&&fits n y
 | .cond _ x y=>fits n x&&fits n y
 | .block _ x| .loop x=>fits n x
 |_=>false
end
end
end Go.Proofs.YtiakeknbdclaoaaGreat
