/- FTCert: what its proof needs, part 3. -/
import Derived.Test.YtiakeknbdclaoaaGreatMTCert2
set_option linter.unusedVariables false
set_option linter.unusedSimpArgs false
namespace Go.Proofs.YtiakeknbdclaoaaGreat
open Go
set_option maxRecDepth 10000
section
def aI {σ:Type} (app:σ->Nat->σ) (D:Nat->Bool) (x:σ):Nat->σ
 |0=>x
 |k+1=>bif D k then app (aI app D x k) k else aI app D x k
def fS (D:Nat->Bool) (k:Nat):Nat->Bool:=fun j=>D j||Nat.beq j k
def bg:Nat->Bool:=fun _=>true
theorem iL {σ:Type} {app:σ->Nat->σ} {D D':Nat->Bool} {x:σ}:∀(n:Nat),(∀j,j<n->D j=D' j)->aI app D x n=aI app D' x n:=by
 intro n
 induction n with
 |zero=>intro _;rfl
 |succ n ih=>
  intro h
  simp only[aI]
  rw[ih fun j hj=>h j qO,h n qO]
theorem Bq {i j:Nat} (h:i≠j):Nat.beq i j=false:=by
 cases e:Nat.beq i j with
 |false=>rfl
 |true=>exact(h (Nat.eq_of_beq_eq_true e)).elim
theorem jI {D:Nat->Bool} {k j:Nat} (h:j≠k):fS D k j=D j:=by simp[fS,Bq h]
theorem km {D:Nat->Bool} {k:Nat}:fS D k k=true:=by simp[fS]
theorem qv {σ:Type} {app:σ->Nat->σ} {D:Nat->Bool} {x:σ} {k:Nat} (hk:D k=false):∀n,k<n->(∀j,k<j->j<n->D j=true->∀y,app (app y k) j=app (app y j) k)->aI app (fS D k) x n=app (aI app D x n) k:=by
 intro n
 induction n with
 |zero=>intro h;omega
 |succ n ih=>
  intro hn hc
  simp only[aI]
  by_cases e:k=n
  ·subst e
   rw[km,hk,iL (D':=D) k fun j hj=>jI qO]
   rfl
  ·rw[jI qO,ih qO fun j h1 h2=>hc j h1 qO]
   cases hd:D n with
   |false=>rfl
   |true=>exact hc n qO qO hd _
theorem dJ {σ:Type} {app:σ->Nat->σ} {x:σ}:∀n,aI app bg x (n+1)=aI (fun y k=>app y (k+1)) bg (app x 0) n:=by
 intro n
 induction n with
 |zero=>rfl
 |succ n ih=>
  rw[aI,ih]
  rfl
def gI (ops:List Oper) (D:Nat->Bool):Prop:=∀j o,D j=true->ops[j]?=some o->∀e∈o.after.toList,Region.binds .any e=true->D e.on=true
theorem FJ {ops:List Oper} {D:Nat->Bool} (hD:gI ops D) {acc:List Nat} (hacc:∀j,j<acc.length->D j=true->∀i,(acc.getD j 0).testBit i=true->D i=true):∀(es:List Edge),(∀e∈es,Region.binds .any e=true->D e.on=true)->∀i,(k8 acc es).testBit i=true->D i=true:=by
 intro es
 induction es with
 |nil=>intro _ i h;simp[k8]at h
 |cons e es ih=>
  intro hes i h
  simp only[k8]at h
  cases hb:Region.binds .any e with
  |false=>rw[hb]at h;exact ih (fun e he=>hes e (List.mem_cons_of_mem _ he)) i h
  |true=>
   rw[hb]at h
   have hon:=hes e List.mem_cons_self hb
   have h:((2^e.on|||acc.getD e.on 0)|||k8 acc es).testBit i=true:=h
   rw[Nat.testBit_or,Nat.testBit_or,Bool.or_eq_true,Bool.or_eq_true]at h
   rcases h with(h|h)|h
   ·rw[Nat.testBit_two_pow]at h
    have:e.on=i:=by simpa using h
    rw[<-this];exact hon
   ·rcases Nat.lt_or_ge e.on acc.length with hlt|hge
    ·exact hacc _ hlt hon i h
    ·rw[eJ _ _ hge]at h;simp at h
   ·exact ih (fun e he=>hes e (List.mem_cons_of_mem _ he)) i h
theorem tZ {ops:List Oper} {D:Nat->Bool} (hD:gI ops D):∀(rest:List Oper) (acc:List Nat),ops.drop acc.length=rest->(∀j,j<acc.length->D j=true->∀i,(acc.getD j 0).testBit i=true->D i=true)->
  ∀j,D j=true->∀i,((jM rest acc).getD j 0).testBit i=true->D i=true:=by
 intro rest
 induction rest with
 |nil=>
  intro acc _ hacc j hj i h
  simp only[jM]at h
  rcases Nat.lt_or_ge j acc.length with hlt|hge
  ·exact hacc j hlt hj i h
  ·rw[eJ _ _ hge]at h;simp at h
 |cons o rest ih=>
  intro acc hd hacc j hj i h
  simp only[jM]at h
  have ho:ops[acc.length]?=some o:=by
   have:=congrArg (fun l=>l[0]?) hd
   simpa[List.getElem?_drop]using this
  refine ih (acc++[k8 acc o.after.toList]) ?_ ?_ j hj i h
  ·have:=congrArg (List.drop 1) hd
   rw[List.drop_drop]at this
   simpa using this
  ·intro j hlt hj i h
   by_cases e:j<acc.length
   ·refine hacc j e hj i ?_
    simpa[List.getD,List.getElem?_append_left e]using h
   ·have:j=acc.length:=by simp at hlt;omega
    subst this
    have h:(k8 acc o.after.toList).testBit i=true:=by simpa[List.getD]using h
    exact FJ hD hacc _ (fun e he hb=>hD _ o hj ho e he hb) i h
section
variable {P:Program} {Γ:oy} {E:Env} {n:Nat}
theorem Cp {ops:Array Oper} (h:xo ops=true) {j:Nat} {o:Oper} (ho:ops[j]?=some o):∀e∈o.after.toList,Region.binds .any e=true->e.on<j:=by
 intro e he hb
 have hm:(o,j)∈ops.toList.zipIdx:=by rw[List.mem_zipIdx_iff_getElem?];simpa using ho
 have:=List.all_eq_true.1 h _ hm
 rw[Bool.and_eq_true]at this
 have:=List.all_eq_true.1 this.1 e he
 rw[hb]at this
 simpa using this
theorem yQ {ops:Array Oper} (h:xo ops=true) {i j:Nat} {x y:Oper} (hx:ops[i]?=some x) (hy:ops[j]?=some y) (hij:i<j):
  (x.apart ops y=true/\quiet ops x.op=true/\quiet ops y.op=true)\/∀D,gI ops.toList D->D j=true->D i=true:=by
 have hmx:(x,i)∈ops.toList.zipIdx:=by rw[List.mem_zipIdx_iff_getElem?];simpa using hx
 have hmy:(y,j)∈ops.toList.zipIdx:=by rw[List.mem_zipIdx_iff_getElem?];simpa using hy
 have:=List.all_eq_true.1 h _ hmy
 rw[Bool.and_eq_true]at this
 have:=List.all_eq_true.1 this.2 _ hmx
 have hlt:Nat.blt i j=true:=by simpa using hij
 simp only[hlt,Bool.not_true,Bool.false_or,Bool.or_eq_true,Bool.and_eq_true]at this
 rcases this with h1|h2
 ·exact .inl h1
 ·exact .inr fun D hD hj=>tZ hD _ [] rfl (fun j hj=>absurd hj (Nat.not_lt_zero _)) j hj i h2
theorem rp {ops:Array Oper} (h:ld ops=true) {j:Nat} {o:Oper} (ho:ops[j]?=some o):∀e∈o.after.toList,Region.binds .any e=true->e.on<j:=by
 intro e he hb
 have hm:(o,j)∈ops.toList.zipIdx:=by rw[List.mem_zipIdx_iff_getElem?];simpa using ho
 have:=List.all_eq_true.1 h _ hm
 rw[Bool.and_eq_true]at this
 have:=List.all_eq_true.1 this.1 e he
 rw[hb]at this
 simpa using this
theorem xZ {ops:Array Oper} {acc:Acc} (h:ld ops=true) (hdy:Dg ops acc=true) {i j:Nat} {x y:Oper} (hx:ops[i]?=some x) (hy:ops[j]?=some y) (hij:i<j):
  (x.apart ops y=true/\((quiet ops x.op=true/\quiet ops y.op=true)\/(fm x.op=true/\fm y.op=true/\HU (acc.getD i ([],[])) (acc.getD j ([],[]))=true)))\/∀D,gI ops.toList D->D j=true->D i=true:=by
 have hmx:(x,i)∈ops.toList.zipIdx:=by rw[List.mem_zipIdx_iff_getElem?];simpa using hx
 have hmy:(y,j)∈ops.toList.zipIdx:=by rw[List.mem_zipIdx_iff_getElem?];simpa using hy
 have:=List.all_eq_true.1 h _ hmy
 rw[Bool.and_eq_true]at this
 have h1:=List.all_eq_true.1 this.2 _ hmx
 have h2:=List.all_eq_true.1 (List.all_eq_true.1 hdy _ hmy) _ hmx
 have hlt:Nat.blt i j=true:=by simpa using hij
 simp only[hlt,Bool.not_true,Bool.false_or,Bool.or_eq_true,Bool.and_eq_true]at h1 h2
 have ord:((jM ops.toList []).getD j 0).testBit i=true->∀D,gI ops.toList D->D j=true->D i=true:=fun h2 D hD hj=>tZ hD _ [] rfl (fun j hj=>absurd hj (Nat.not_lt_zero _)) j hj i h2
 rcases h1 with⟨ha,hq⟩|h1
 ·rcases h2 with h2|h2|h2
  ·exact .inl ⟨ha,.inl h2⟩
  ·exact .inr (ord h2)
  ·exact .inl ⟨ha,.inr ⟨hq.1,hq.2,h2⟩⟩
 ·exact .inr (ord h1)
theorem AV.GY:∀{c:AV} {h:Hd},c.aT h->h.key∈c.CY:=by
 have key:∀(m:Nat) (c:AV),SizeOf.sizeOf c<=m->∀h,c.aT h->h.key∈c.CY:=by
  intro m
  induction m with
  |zero=>intro c hc;cases c<;>simp at hc
  |succ m ih=>
   intro c hc h hm
   have list:∀cs:List AV,SizeOf.sizeOf cs<=m->AV.bm cs h->h.key∈AV.gy cs:=by
    intro cs
    induction cs with
    |nil=>intro _ h;simp only[AV.bm]at h
    |cons d cs ih2=>
     intro hs hj
     simp only[AV.bm]at hj
     simp at hs
     simp only[AV.gy,List.mem_append]
     rcases hj with hj|hj
     ·exact .inl (ih d qO h hj)
     ·exact .inr (ih2 qO hj)
   cases c<;>simp only[AV.aT]at hm<;>simp only[AV.CY]
   case aC g o=>subst hm;simp
   case dO g _ _ _=>subst hm;simp
   case vec g _ _ _=>subst hm;simp
   case map g=>subst hm;simp
   case agg cs=>exact list cs (by simp at hc;omega) hm
   case bK cs=>exact list cs (by simp at hc;omega) hm
   case fn f fs cs=>
    rw[List.mem_append]
    rcases hm with hm|hm
    ·exact .inl (list fs (by simp at hc;omega) hm)
    ·exact .inr (list cs (by simp at hc;omega) hm)
 exact fun{c h}=>key _ c (Nat.le_refl _) h
theorem AV.qu {cs:List AV} {c:AV} {h:Hd} (hc:c∈cs) (hm:c.aT h):h.key∈AV.gy cs:=by
 induction cs with
 |nil=>cases hc
 |cons d cs ih=>
  simp only[AV.gy,List.mem_append]
  rcases List.mem_cons.1 hc with rfl|hc
  ·exact .inl (AV.GY hm)
  ·exact .inr (ih hc)
abbrev W0 (s:Nat->AV) (x:Operand) (K:AV->Prop):Prop:=K (cL s x)
abbrev i4 (L:Hd->aA) (h:Hd) (K:aA->Prop):Prop:=K (L h)
theorem pW {s:Sl} {t:Nat} {K:AV->Prop}:lS s t K=K (aP s t):=by
 induction s with
 |nil=>rfl
 |cons x s ih=>
  obtain⟨i,v⟩:=x
  simp only[lS,aP]
  cases e:Nat.beq i t
  ·exact ih
  ·rfl
theorem DV (s:Sl):WK s=W0 (aP s):=by
 funext x K
 cases x with
 |tmp t=>exact pW
 |_=>rfl
section
variable {s s':Nat->AV} {L L':Hd->aA} {base:Nat}
theorem AI:∀(xs:List Operand) (K:List AV->Prop),(∀x∈xs,cL s x=cL s' x)->gg (W0 s) xs K=gg (W0 s') xs K:=by
 intro xs
 induction xs with
 |nil=>intro K _;rfl
 |cons x xs ih=>
  intro K h
  simp only[gg,W0]
  rw[h x List.mem_cons_self,ih _ fun y hy=>h y (List.mem_cons_of_mem _ hy)]
theorem jt:∀(xs:List Operand) (K:List AV->Prop),gg (W0 s) xs K=K (xs.map (cL s)):=by
 intro xs
 induction xs with
 |nil=>intro K;rfl
 |cons x xs ih=>intro K;simp only[gg,W0];rw[ih];rfl
theorem xb {place:Nat->Option (Nat×TypeId)}:∀(ps:List (Nat×Operand)) (cs:List AV) (K:List AV->Prop),(∀x∈ps,cL s x.2=cL s' x.2)->gK Γ (W0 s) place ps cs K=gK Γ (W0 s') place ps cs K:=by
 intro ps
 induction ps with
 |nil=>intro cs K _;rfl
 |cons x ps ih=>
  intro cs K h
  obtain⟨i,x⟩:=x
  have e:=h (i,x) List.mem_cons_self
  simp only[gK,W0]
  simp only at e
  rw[e]
  have ih':∀cs',gK Γ (W0 s) place ps cs' K=gK Γ (W0 s') place ps cs' K:=fun cs'=>ih cs' K fun y hy=>h y (List.mem_cons_of_mem _ hy)
  simp only[ih']
theorem xO {e:TypeId} {size:Nat}:∀(ps:List (Nat×Operand)) (m:Nat) (K:List PV->Prop),(∀x∈ps,cL s x.2=cL s' x.2)->ga Γ (W0 s) e size m ps K=ga Γ (W0 s') e size m ps K:=by
 intro ps
 induction ps with
 |nil=>intro m K _;rfl
 |cons x ps ih=>
  intro m K h
  obtain⟨i,x⟩:=x
  have e:=h (i,x) List.mem_cons_self
  simp only[ga,W0]
  simp only at e
  rw[e]
  have ih':∀K',ga Γ (W0 s) _ size (m+1) ps K'=ga Γ (W0 s') _ size (m+1) ps K':=fun K'=>ih (m+1) K' fun y hy=>h y (List.mem_cons_of_mem _ hy)
  simp only[ih']
theorem yY {e:TypeId}:∀(ps:List (Nat×Operand)) (m:Nat) (K:List AV->Prop),(∀x∈ps,cL s x.2=cL s' x.2)->jP Γ (W0 s) e m ps K=jP Γ (W0 s') e m ps K:=by
 intro ps
 induction ps with
 |nil=>intro m K _;rfl
 |cons x ps ih=>
  intro m K h
  obtain⟨i,x⟩:=x
  have e:=h (i,x) List.mem_cons_self
  simp only[jP,W0]
  simp only at e
  rw[e]
  have ih':∀K',jP Γ (W0 s) _ (m+1) ps K'=jP Γ (W0 s') _ (m+1) ps K':=fun K'=>ih (m+1) K' fun y hy=>h y (List.mem_cons_of_mem _ hy)
  simp only[ih']
theorem ob (x:Option Operand) (d:Int) (K:Int->Prop) (h:∀y,x=some y->cL s y=cL s' y):iQ (W0 s) x d K=iQ (W0 s') x d K:=by
 cases x with
 |none=>rfl
 |some y=>simp only[iQ,W0];rw[h y rfl]
def Reach (L:Hd->aA) (v:AV) (h:Hd):Prop:=v.aT h\/(∃k,v.aT k/\(L k).aT h)\/∃k k',v.aT k/\(L k).aT k'/\(L k').aT h
theorem py.congr {c:AV} {p:PV} (hL:∀h,c.aT h->L h≠ .free->L' h=L h) (h:py L c p):py L' c p:=by
 cases h with
 |p v ho=>exact .p _ ho
 |vec hB hl=>exact .vec ((hL _ rfl (by rw[hB];exact fun e=>by cases e)).trans hB) hl
theorem ie.congr {cs:List AV} {len:Nat} {K K':List PV->Prop} (hL:∀h,AV.bm cs h->L h≠ .free->L' h=L h) (hK:∀l,K l->K' l) (h:ie L cs len K):ie L' cs len K':=by
 obtain⟨ps,h1,h2,h3,h4⟩:=h
 exact⟨ps,h1,h2,fun i c p e1 e2=>(h3 i c p e1 e2).congr fun h hm=>hL h (AV.bj (List.mem_of_getElem? e1) hm),hK _ h4⟩
theorem y5 {LK:Hd->(aA->Prop)->Prop} (hLK:∀h K,LK h K->K (L h)) {c:AV} {K K':PV->Prop} (hL:∀h,c.aT h\/(∃k,c.aT k/\(L k).aT h)->L h≠ .free->L' h=L h) (hK:∀v,K v->K' v) (hk:vE L LK c K):vE L' (i4 L') c K':=by
 unfold vE at hk⊢
 split at hk
 ·rename_i h W off len
  have e:=hL h (.inl rfl)
  have hR:=fun g hg=>hL g (.inr ⟨h,rfl,hg⟩)
  simp only[i4]at hk⊢
  have hk:=hLK _ _ hk
  cases hB:L h with
  |vec T W' es=>
   rw[e (by rw[hB];exact fun e=>by cases e),hB]
   rw[hB]at hk
   simp only at hk⊢
   cases hw:Nat.beq W W' with
   |false=>rw[hw]at hk;exact hk.elim
   |true=>
    rw[hw]at hk
    obtain⟨es',h1,h2,h3⟩:=hk
    exact⟨es',h1,h2,hK _ h3⟩
  |rows T cs=>
   rw[e (by rw[hB];exact fun e=>by cases e),hB]
   rw[hB]at hk hR
   simp only at hk⊢
   cases hw:(Nat.beq W 1&&Nat.beq off 0)with
   |false=>rw[hw]at hk;exact hk.elim
   |true=>rw[hw]at hk;exact ie.congr hR (fun l=>hK _) hk
  |_=>rw[hB]at hk;exact hk.elim
 ·rename_i h
  have e:=hL h (.inl rfl)
  simp only[i4]at hk⊢
  have hk:=hLK _ _ hk
  cases hB:L h with
  |map es=>
   rw[e (by rw[hB];exact fun e=>by cases e),hB]
   rw[hB]at hk
   exact hK _ hk
  |_=>rw[hB]at hk;exact hk.elim
 ·rename_i v
  cases ho:v.one with
  |true=>rw[ho]at hk;exact hK _ hk
  |false=>rw[ho]at hk;exact hk.elim
 ·exact hK _ hk
 ·exact hk.elim
theorem rT {LK:Hd->(aA->Prop)->Prop} (hLK:∀h K,LK h K->K (L h)):∀(cs:List AV) (K K':List PV->Prop),(∀h,AV.bm cs h\/(∃k,AV.bm cs k/\(L k).aT h)->L h≠ .free->L' h=L h)->(∀l,K l->K' l)->g7 L LK cs K->g7 L' (i4 L') cs K':=by
 intro cs
 induction cs with
 |nil=>intro K K' _ hK h;exact hK _ h
 |cons c cs ih=>
  intro K K' hL hK h
  simp only[g7]at h⊢
  refine y5 hLK (fun h hm=>hL h ?_) (fun v hv=>ih _ _ (fun h hm=>hL h ?_) (fun l=>hK _) hv) h
  ·rcases hm with hm|⟨k,hm,h2⟩
   ·exact .inl (.inl hm)
   ·exact .inr ⟨k,.inl hm,h2⟩
  ·rcases hm with hm|⟨k,hm,h2⟩
   ·exact .inl (.inr hm)
   ·exact .inr ⟨k,.inr hm,h2⟩
theorem g9:∀(cs:List AV) (A A':List PV->Prop) (B B':List AV->Prop),(∀l,A l->A' l)->(∀l,B l->B' l)->ij cs A B->ij cs A' B':=by
 intro cs
 induction cs with
 |nil=>intro A A' B B' hA hB h;simp only[ij]at h⊢;exact hA _ h
 |cons c cs ih=>
  intro A A' B B' hA hB h
  have reb:∀(cs:List AV) (B B':List AV->Prop),(∀l,B l->B' l)->ij.rebuild cs B->ij.rebuild cs B':=by
   intro cs
   induction cs with
   |nil=>intro B B' hB h;exact hB _ h
   |cons c cs ih=>intro B B' hB h;exact ih _ _ (fun l=>hB _) h
  cases c<;>first
   |exact ih _ _ _ _ (fun l=>hA _) (fun l=>hB _) h
   |exact reb _ _ _ (fun l=>hB _) h
theorem Bc:∀(cs:List AV) (A A':List PV->Prop) (B B':List AV->Prop),(∀l,A l->A' l)->(B cs->B' cs)->ij cs A B->ij cs A' B':=by
 intro cs
 induction cs with
 |nil=>intro A A' B B' hA hB h;simp only[ij]at h⊢;exact hA _ h
 |cons c cs ih=>
  intro A A' B B' hA hB h
  have reb:∀(cs:List AV) (B B':List AV->Prop),(B cs->B' cs)->ij.rebuild cs B->ij.rebuild cs B':=by
   intro cs
   induction cs with
   |nil=>intro B B' hB h;exact hB h
   |cons c cs ih=>intro B B' hB h;exact ih (fun l=>B (c::l)) (fun l=>B' (c::l)) hB h
  cases c with
  |p v=>exact ih (fun l=>A (v::l)) (fun l=>A' (v::l)) (fun l=>B (.p v::l)) (fun l=>B' (.p v::l)) (fun l=>hA _) hB h
  |tf b=>exact ih (fun l=>A (.bool b::l)) (fun l=>A' (.bool b::l)) (fun l=>B (.tf b::l)) (fun l=>B' (.tf b::l)) (fun l=>hA _) hB h
  |_=>exact reb cs (fun l=>B (_::l)) (fun l=>B' (_::l)) hB h
theorem i5 {LK:Hd->(aA->Prop)->Prop} (hLK:∀h K,LK h K->K (L h)) {t:TypeId} {v:AV} {K K':AV->Prop} (hL:∀h,Reach L v h->L h≠ .free->L' h=L h) (hK:∀v,K v->K' v) (hk:gJ Γ L LK t v K):gJ Γ L' (i4 L') t v K':=by
 have mono:∀w:AV,uO Γ t w (fun v=>K (.p v))->uO Γ t w (fun v=>K' (.p v)):=by
  intro w hw
  unfold uO at hw⊢
  cases w<;>simp only at hw⊢<;>first
   |exact hK _ hw
   |exact hw.elim
   |(split at hw<;>first|(split at hw<;>first|exact hK _ hw|exact hw.elim)|exact hw.elim)
   |exact g9 _ _ _ _ _ (fun l=>hK _) (fun l h=>h) hw
   |skip
  case fn f fs cs=>
   cases fs with
   |nil=>exact g9 _ _ _ _ _ (fun l=>hK _) (fun l h=>h) hw
   |cons _ _=>cases cs with
    |nil=>exact g9 _ _ _ _ _ (fun l=>hK _) (fun l h=>h) hw
    |cons _ _=>exact hw.elim
 cases v with
 |vec h W off len=>
  simp only[gJ,i4]at hk⊢
  have hk:=hLK _ _ hk
  have e:=hL h (.inl rfl)
  cases hB:L h with
  |vec T W' es=>
   rw[e (by rw[hB];simp)]
   rw[hB]at hk⊢
   simp only at hk⊢
   cases hw:Nat.beq W W' with
   |false=>rw[hw]at hk;exact hk.elim
   |true=>
    rw[hw]at hk
    obtain⟨es',h1,h2,h3⟩:=hk
    exact⟨es',h1,h2,hK _ h3⟩
  |_=>rw[hB]at hk;exact hk.elim
 |aC h o=>
  cases o with
  |succ o=>simp only[gJ]at hk;exact(mono _ hk)
  |zero=>
   simp only[gJ,i4]at hk⊢
   have hk:=hLK _ _ hk
   have e:=hL h (.inl rfl)
   cases hB:L h with
   |box T cs=>
    have hC:∀g,AV.bm cs g\/(∃k,AV.bm cs k/\(L k).aT g)->L g≠ .free->L' g=L g:=fun g hg=>hL g (by
     have hbm:∀g,AV.bm cs g->(L h).aT g:=fun g hg=>by rw[hB];exact hg
     rcases hg with hg|⟨k,hk,hg⟩
     ·exact .inr (.inl ⟨h,rfl,hbm g hg⟩)
     ·exact .inr (.inr ⟨h,k,rfl,hbm k hk,hg⟩))
    rw[e (by rw[hB];simp)]
    rw[hB]at hk⊢
    simp only at hk⊢
    cases hΓ:Γ T with
    |none=>rw[hΓ]at hk;exact hk.elim
    |some i=>
     rw[hΓ]at hk
     simp only at hk⊢
     cases ha:i.d.agg with
     |true=>
      rw[ha]at hk
      exact Bc cs _ _ _ _ (fun l=>hK _) (fun h=>rT hLK cs _ _ hC (fun l=>hK _) h) hk
     |false=>
      rw[ha]at hk
      refine g9 _ _ _ _ _ (fun l hl=>?_) (fun l h=>h) hk
      match l,hl with
      |[c],hl=>
       simp only at hl⊢
       cases ho:c.one with
       |true=>rw[ho]at hl;exact hK _ hl
       |false=>rw[ho]at hl;exact hl.elim
      |[],hl=>exact hl.elim
      |_::_::_,hl=>exact hl.elim
   |_=>rw[hB]at hk;exact hk.elim
 |map h=>
  simp only[gJ,i4]at hk⊢
  have hk:=hLK _ _ hk
  have e:=hL h (.inl rfl)
  cases hB:L h with
  |map es=>
   rw[e (by rw[hB];simp)]
   rw[hB]at hk⊢
   exact hK _ hk
  |_=>rw[hB]at hk;exact hk.elim
 |_=>simp only[gJ]at hk⊢;exact mono _ hk
theorem Reach.of {v w:AV} (hm:∀h,v.aT h->w.aT h) {h:Hd} (hr:Reach L v h):Reach L w h:=by
 rcases hr with hr|⟨k,h1,h2⟩|⟨k,k',h1,h2,h3⟩
 ·exact .inl (hm h hr)
 ·exact .inr (.inl ⟨k,hm k h1,h2⟩)
 ·exact .inr (.inr ⟨k,k',hm k h1,h2,h3⟩)
theorem jr {LK:Hd->(aA->Prop)->Prop} (hLK:∀h K,LK h K->K (L h)):∀(cs:List AV) (K K':List PV->Prop),(∀c∈cs,∀h,Reach L c h->L h≠ .free->L' h=L h)->(∀l,K l->K' l)->fA Γ L LK cs K->fA Γ L' (i4 L') cs K':=by
 intro cs
 induction cs with
 |nil=>intro K K' _ hK h;exact hK _ h
 |cons c cs ih=>
  intro K K' hL hK h
  simp only[fA]at h⊢
  refine i5 hLK (hL c qS) (fun v hv=>?_) h
  cases v<;>first|exact ih _ _ (fun c hc=>hL c (by simp[hc])) (fun l=>hK _) hv|exact hv.elim
theorem zF {LK:Hd->(aA->Prop)->Prop} (hLK:∀h K,LK h K->K (L h)) {t:TypeId} {v:AV} {K K':AV->Prop} (hL:∀h,Reach L v h->L h≠ .free->L' h=L h) (hK:∀v,K v->K' v) (hk:sJ Γ L LK t v K):sJ Γ L' (i4 L') t v K':=by
 cases v with
 |fn f fs cs=>
  cases fs with
  |nil=>exact jr hLK cs _ _ (fun c hc h hr=>hL h (hr.of fun h hm=>by simp only[AV.aT];exact .inr (AV.bj hc hm))) (fun l=>hK _) hk
  |cons c0 fs=>
   cases cs with
   |nil=>
    have hk:fA Γ L LK (c0::fs) (fun l=>K (.p (.lp f l))):=hk
    show fA Γ L' (i4 L') (c0::fs) (fun l=>K' (.p (.lp f l)))
    exact jr hLK (c0::fs) _ _ (fun c hc h hr=>hL h (hr.of fun h hm=>by simp only[AV.aT];exact .inl (AV.bj hc hm))) (fun l=>hK _) hk
   |cons _ _=>exact i5 (Γ:=Γ) (t:=t) hLK hL hK hk
 |agg cs=>
  refine jr hLK cs _ _ (fun c hc h hr=>hL h (hr.of fun h hm=>by simp only[AV.aT];exact AV.bj hc hm)) (fun l hl=>?_) hk
  cases ho:l.all PV.one with
  |false=>rw[ho]at hl;exact hl.elim
  |true=>rw[ho]at hl;exact hK _ hl
 |vec h W o len=>
  by_cases hc:W=1/\o=0
  ·obtain⟨rfl,rfl⟩:=hc
   simp only[sJ,i4]at hk⊢
   have hk:=hLK _ _ hk
   have e:=hL h (.inl rfl)
   have hR:=fun g hg=>hL g (.inr (.inl ⟨h,rfl,hg⟩))
   cases hB:L h with
   |vec T W' es=>
    rw[e (by rw[hB];simp)]
    rw[hB]at hk⊢
    simp only at hk⊢
    cases hw:Nat.beq 1 W' with
    |false=>rw[hw]at hk;exact hk.elim
    |true=>
     rw[hw]at hk
     obtain⟨es',h1,h2,h3⟩:=hk
     exact⟨es',h1,h2,hK _ h3⟩
   |rows T cs=>
    rw[e (by rw[hB];simp)]
    rw[hB]at hk hR⊢
    exact ie.congr hR (fun l=>hK _) hk
   |_=>rw[hB]at hk;exact hk.elim
  ·have e:∀(L:Hd->aA) (M:Hd->(aA->Prop)->Prop) (K:AV->Prop),sJ Γ L M t (.vec h W o len) K=gJ Γ L M t (.vec h W o len) K:=by
    intro L M K
    match W,o,hc with
    |0,_,_=>rfl
    |1,0,hc=>exact absurd ⟨rfl,rfl⟩ hc
    |1,_+1,_=>rfl
    |_+2,_,_=>rfl
   rw[e]at hk⊢
   exact i5 (Γ:=Γ) (t:=t) hLK hL hK hk
 |_=>exact i5 (Γ:=Γ) (t:=t) hLK hL hK hk
theorem lR {LK:Hd->(aA->Prop)->Prop} (hLK:∀h K,LK h K->K (L h)):∀(l:List (TypeId×AV)) (K K':List AV->Prop),(∀x∈l,∀h,Reach L x.2 h->L h≠ .free->L' h=L h)->(∀l,K l->K' l)->lE Γ L LK false l K->lE Γ L' (i4 L') false l K':=by
 intro l
 induction l with
 |nil=>intro K K' _ hK h;exact hK _ h
 |cons x l ih=>
  intro K K' hL hK h
  simp only[lE]at h⊢
  exact zF hLK (hL x List.mem_cons_self) (fun v hv=>ih _ _ (fun y hy=>hL y (List.mem_cons_of_mem _ hy)) (fun l=>hK _) hv) h
theorem aa.congr {f:FuncId} {raw args:List AV} {K:AV->List (Hd×aA)->Prop} (h:aa P false f raw args L base K):aa P false f raw args L' base K:=by
 cases h with
 |FH pvs r e hc hk=>exact .FH pvs r e hc hk
 |mk hs args' r Hin Hout hw hn hb ha hin0 hin hl hm hlen' hfree' hargs hc hk=>
 have:hs=[]:=hw rfl
 subst this
 have:Hin=[]:=List.length_eq_zero_iff.1 hin0
 subst this
 exact .mk [] args' r [] Hout hw hn hb ha rfl (fun i h B e=>by simp at e) (fun B hB=>by simp at hB) (fun B hB=>by simp at hB) hlen' hfree' hargs hc hk
theorem tm {LK:Hd->(aA->Prop)->Prop} (hLK:∀h K,LK h K->K (L h)) {v:AV} {K K':List (PV×PV)->Prop} (hL:∀h,v.aT h->L h≠ .free->L' h=L h) (hK:∀es,K es->K' es) (hk:kA LK v K):kA (i4 L') v K':=by
 unfold kA at hk⊢
 split at hk
 ·rename_i h
  have e:=hL h rfl
  simp only[i4]at hk⊢
  have hk:=hLK _ _ hk
  cases hB:L h with
  |map es=>
   rw[e (by rw[hB];exact fun e=>by cases e),hB]
   rw[hB]at hk
   exact hK _ hk
  |_=>rw[hB]at hk;exact hk.elim
 ·exact hK _ hk
 ·exact hk.elim
theorem vZ {t:TypeId} {K K':TypeId->TI->TypeId->TI->Prop} (hK:∀a b c d,K a b c d->K' a b c d) (hk:l5 Γ t K):l5 Γ t K':=by
 unfold l5 at hk⊢
 split at hk
 ·split at hk
  ·split at hk
   ·split at hk
    ·exact hK _ _ _ _ hk
    ·exact hk.elim
   ·exact hk.elim
  ·exact hk.elim
 ·exact hk.elim
theorem uL {t:TypeId} {w:AV} {K K':PV->Prop} (hK:∀v,K v->K' v) (hw:uO Γ t w K):uO Γ t w K':=by
 unfold uO at hw⊢
 cases w<;>simp only at hw⊢<;>first
  |exact hK _ hw
  |exact hw.elim
  |(split at hw<;>first|(split at hw<;>first|exact hK _ hw|exact hw.elim)|exact hw.elim)
  |exact g9 _ _ _ _ _ (fun l=>hK _) (fun l h=>h) hw
  |skip
 case fn f fs cs=>
  cases fs with
  |nil=>exact g9 _ _ _ _ _ (fun l=>hK _) (fun l h=>h) hw
  |cons _ _=>cases cs with
   |nil=>exact g9 _ _ _ _ _ (fun l=>hK _) (fun l h=>h) hw
   |cons _ _=>exact hw.elim
theorem u9 {LK:Hd->(aA->Prop)->Prop} (hLK:∀h K,LK h K->K (L h)) {t:TypeId} {x k:AV} {ok:Bool} {K:AV->List (Hd×aA)->Prop} (hL:∀h,x.aT h->L h≠ .free->L' h=L h) (hk:r8 Γ LK t x k ok K):r8 Γ (i4 L') t x k ok K:=by
 unfold r8 at hk⊢
 refine vZ (fun kt ki et ei hk=>uL (fun key hk=>?_) hk) hk
 cases hb:ki.ue key with
 |false=>rw[hb]at hk;exact hk.elim
 |true=>rw[hb]at hk;exact tm hLK hL (fun _ h=>h) hk
theorem nP {LK:Hd->(aA->Prop)->Prop} (hLK:∀h K,LK h K->K (L h)) {t:TypeId} {m k x:AV} {K:AV->List (Hd×aA)->Prop} (hL:∀h,m.aT h->L h≠ .free->L' h=L h) (hk:d6 Γ LK t m k x K):d6 Γ (i4 L') t m k x K:=by
 unfold d6 at hk⊢
 refine vZ (fun kt ki et ei hk=>uL (fun key hk=>uL (fun val hk=>?_) hk) hk) hk
 cases hb:ki.ue key with
 |false=>rw[hb]at hk;exact hk.elim
 |true=>
  rw[hb]at hk
  simp only[cond_true]at hk⊢
  split at hk
  ·rename_i h _ _ _
   have e:=hL h rfl
   simp only[i4]at hk⊢
   have hk:=hLK _ _ hk
   cases hB:L h with
   |map es=>
    rw[e (by rw[hB];exact fun e=>by cases e),hB]
    rw[hB]at hk
    exact hk
   |_=>rw[hB]at hk;exact hk.elim
  ·exact hk.elim
theorem xF {LK:Hd->(aA->Prop)->Prop} (hLK:∀h K,LK h K->K (L h)) {v:AV} {K K':Nat->List PV->Prop} (hL:∀h,v.aT h->L h≠ .free->L' h=L h) (hK:∀W es,K W es->K' W es) (hk:qT LK v K):qT (i4 L') v K':=by
 cases v with
 |vec h W off len=>
  simp only[qT,i4]at hk⊢
  have hk:=hLK _ _ hk
  have e:=hL h rfl
  cases hB:L h with
  |vec T W' es=>
   rw[e (by rw[hB];simp)]
   rw[hB]at hk⊢
   simp only at hk⊢
   cases hw:Nat.beq W W' with
   |false=>rw[hw]at hk;exact hk.elim
   |true=>
    rw[hw]at hk
    obtain⟨es',h1,h2,h3⟩:=hk
    exact⟨es',h1,h2,hK _ _ h3⟩
  |_=>rw[hB]at hk;exact hk.elim
 |emp=>exact hK _ _ hk
 |p v=>
  cases v with
  |sl m W es=>exact hK _ _ hk
  |_=>exact hk.elim
 |_=>exact hk.elim
theorem kT {LK:Hd->(aA->Prop)->Prop} (hLK:∀h K,LK h K->K (L h)) {size:Nat} {v:AV} {K K':List PV->Prop} (hL:∀h,v.aT h->L h≠ .free->L' h=L h) (hK:∀es,K es->K' es) (hk:lM LK size v K):lM (i4 L') size v K':=by
 unfold lM at hk⊢
 refine xF hLK hL (fun W es h=>?_) hk
 have cc:cond (Nat.beq W size) (K es) False->cond (Nat.beq W size) (K' es) False:=by
  cases Nat.beq W size with
  |true=>exact hK _
  |false=>exact id
 cases v with
 |emp=>exact hK _ h
 |_=>exact cc h
theorem ve {LK:Hd->(aA->Prop)->Prop} (hLK:∀h K,LK h K->K (L h)) {e0:TypeId} {i:TI} {x y:AV} {K:AV->List (Hd×aA)->Prop} (hx:∀h,x.aT h->L h≠ .free->L' h=L h) (hy:∀h,y.aT h->L h≠ .free->L' h=L h)
  (hk:m8 LK base e0 i x y K):m8 (i4 L') base e0 i x y K:=by
 unfold m8 at hk⊢
 cases h1:Nat.ble 1 i.size with
 |false=>rw[h1]at hk;exact hk.elim
 |true=>
  rw[h1]at hk
  simp only[cond_true]at hk⊢
  cases x with
  |emp=>exact kT hLK hy (fun _=>id) hk
  |rB m W es=>
   simp only at hk⊢
   cases hc:Nat.beq W i.size with
   |false=>rw[hc]at hk;exact hk.elim
   |true=>
    rw[hc]at hk
    simp only[cond_true]at hk⊢
    exact kT hLK hy (fun _=>id) hk
  |vec h W o len=>
   cases o with
   |succ o=>exact hk.elim
   |zero=>
    simp only at hk⊢
    cases hc:(Nat.beq W i.size&&xe h y)with
    |false=>rw[hc]at hk;exact hk.elim
    |true=>
     rw[hc]at hk
     simp only[cond_true,i4]at hk⊢
     have hk:=hLK _ _ hk
     have e:=hx h rfl
     cases hB:L h with
     |vec T W' es=>
      rw[e (by rw[hB];simp)]
      rw[hB]at hk⊢
      simp only at hk⊢
      cases hw:(Nat.beq W W'&&Nat.beq T e0)with
      |false=>rw[hw]at hk;exact hk.elim
      |true=>
       rw[hw]at hk
       obtain⟨h2,h3⟩:=hk
       exact⟨h2,kT hLK hy (fun _=>id) h3⟩
     |_=>rw[hB]at hk;exact hk.elim
  |_=>exact hk.elim
theorem xL {LK:Hd->(aA->Prop)->Prop} (hLK:∀h K,LK h K->K (L h)) {y:AV} {J J':Option (List AV)->Prop} (hy:∀h,y.aT h->L h≠ .free->L' h=L h) (hJ:∀o,J o->J' o) (hk:qf LK y J):qf (i4 L') y J':=by
 unfold qf at hk⊢
 split at hk
 ·rename_i h len
  have e:=hy h rfl
  simp only[i4]at hk⊢
  have hk:=hLK _ _ hk
  cases hB:L h with
  |vec T W' es=>
   rw[e (by rw[hB];simp)]
   rw[hB]at hk⊢
   exact hJ none hk
  |rows T cs=>
   rw[e (by rw[hB];simp)]
   rw[hB]at hk⊢
   simp only at hk⊢
   cases hw:Nat.beq len cs.length with
   |false=>rw[hw]at hk;exact hk.elim
   |true=>rw[hw]at hk;exact hJ _ hk
  |_=>rw[hB]at hk;exact hk.elim
 ·exact hJ none hk
theorem u4 {LK:Hd->(aA->Prop)->Prop} (hLK:∀h K,LK h K->K (L h)) {e0:TypeId} {i:TI} {x y:AV} {xs:List AV} {K:AV->List (Hd×aA)->Prop} (hx:∀h,x.aT h->L h≠ .free->L' h=L h)
  (hk:mW LK base e0 i x y xs K):mW (i4 L') base e0 i x y xs K:=by
 unfold mW at hk⊢
 cases h1:(Nat.beq i.size 1&& !xs.isEmpty)with
 |false=>rw[h1]at hk;exact hk.elim
 |true=>
  rw[h1]at hk
  simp only[cond_true]at hk⊢
  split at hk
  ·exact hk
  ·rename_i h len
   have e:=hx h rfl
   simp only[i4]at hk⊢
   have hk:=hLK _ _ hk
   cases hB:L h with
   |rows T cs=>
    rw[e (by rw[hB];simp)]
    rw[hB]at hk⊢
    exact hk
   |_=>rw[hB]at hk;exact hk.elim
  ·exact hk.elim
theorem u6 {LK:Hd->(aA->Prop)->Prop} (hLK:∀h K,LK h K->K (L h)) {e0:TypeId} {i:TI} {x y:AV} {K:AV->List (Hd×aA)->Prop} (hx:∀h,x.aT h->L h≠ .free->L' h=L h) (hy:∀h,y.aT h->L h≠ .free->L' h=L h)
  (hk:rZ LK base e0 i x y K):rZ (i4 L') base e0 i x y K:=
 xL hLK hy (fun o hk=>match o,hk with
  |none,hk=>ve hLK hx hy hk
  |some _,hk=>u4 hLK hx hk) hk
theorem vv {LK:Hd->(aA->Prop)->Prop} (hLK:∀h K,LK h K->K (L h)) {t t':TypeId} {ts':List TypeId} {x y:AV} {K:AV->List (Hd×aA)->Prop} (hx:∀h,x.aT h->L h≠ .free->L' h=L h) (hy:∀h,y.aT h->L h≠ .free->L' h=L h)
  (hk:mg Γ LK base .append (t::t'::ts') [x,y] K):mg Γ (i4 L') base .append (t::t'::ts') [x,y] K:=by
 simp only[mg]at hk⊢
 cases hc:(Nat.beq t t'&&ts'.isEmpty)with
 |false=>
  rw[hc]at hk
  exact hk.elim
 |true=>
  rw[hc]at hk
  simp only[cond_true]at hk⊢
  unfold iX at hk⊢
  split at hk
  ·rename_i i h1
   split at hk
   ·rename_i e h2
    split at hk
    ·exact u6 hLK (fun h hm=>hx h (AV.I9 hm)) hy hk
    ·exact hk.elim
   ·exact hk.elim
  ·exact hk.elim
def OQ (op:Op) (L:Hd->aA) (v:AV) (h:Hd):Prop:=v.aT h\/(deep op=true/\Reach L v h)
theorem rk {LK:Hd->(aA->Prop)->Prop} (hLK:∀h K,LK h K->K (L h)) {op:Op} {K:AV->List (Hd×aA)->Prop} (hq:fm op=true) (hs:∀x∈op.operands.toList,cL s x=cL s' x) (hA:looks op=true->∀x∈op.operands.toList,∀h,OQ op L (cL s' x) h->L h≠ .free->L' h=L h)
  (hk:aR Γ P (fun _=>false) (W0 s) LK L base op K):aR Γ P (fun _=>false) (W0 s') (i4 L') L' base op K:=by
 have hL:looks op=true->∀x∈op.operands.toList,∀h,(cL s' x).aT h->L h≠ .free->L' h=L h:=fun hl x hx h hm=>hA hl x hx h (.inl hm)
 cases op<;>first|(simp only[fm]at hq;exact absurd hq qD)|skip
 case move x=>simp only[aR,W0]at hk⊢;rw[<-hs x (by simp[Op.operands])];exact hk
 case assign x=>simp only[aR,W0]at hk⊢;rw[<-hs x (by simp[Op.operands])];exact hk
 case pick c x y=>simp only[aR,W0]at hk⊢;rw[<-hs c (by simp[Op.operands]),<-hs x (by simp[Op.operands]),<-hs y (by simp[Op.operands])];exact hk
 case alloc t=>exact hk
 case box t x=>simp only[aR,W0]at hk⊢;rw[<-hs x (by simp[Op.operands])];exact hk
 case build t ps=>
  have e:∀place cs K,gK Γ (W0 s) place ps.toList cs K=gK Γ (W0 s') place ps.toList cs K:=fun place cs K=>xb _ _ _ fun x hx=>hs _ (by simp only[Op.operands];exact List.mem_map_of_mem hx)
  simp only[aR,e]at hk⊢
  exact hk
 case buildSlice t m ps=>
  have e:∀ee size m K,ga Γ (W0 s) ee size m ps.toList K=ga Γ (W0 s') ee size m ps.toList K:=fun ee size m K=>xO _ _ _ fun x hx=>hs _ (by simp only[Op.operands];exact List.mem_map_of_mem hx)
  have e2:∀ee m K,jP Γ (W0 s) ee m ps.toList K=jP Γ (W0 s') ee m ps.toList K:=fun ee m K=>yY _ _ _ fun x hx=>hs _ (by simp only[Op.operands];exact List.mem_map_of_mem hx)
  have e3:∀K,gg (W0 s) (ps.toList.map (·.2)) K=gg (W0 s') (ps.toList.map (·.2)) K:=fun K=>AI _ _ fun x hx=>hs _ (by simp only[Op.operands];exact hx)
  simp only[aR,e,e2,e3]at hk⊢
  exact hk
 case load t x=>
  have e:=hs x (by simp[Op.operands])
  have hL:=hL rfl x (by simp[Op.operands])
  simp only[aR,W0]at hk⊢
  rw[e]at hk
  generalize cL s' x=v at hk hL
  cases v with
  |aC h off=>
   have hk:=hLK h _ (show LK h _ from hk)
   by_cases hfr:L h= .free
   ·rw[hfr]at hk;exact hk.elim
   ·show i4 L' h _
    unfold i4
    rw[hL h rfl hfr];exact hk
  |dO h W i off=>
   have hk:=hLK h _ (show LK h _ from hk)
   by_cases hfr:L h= .free
   ·rw[hfr]at hk;exact hk.elim
   ·show i4 L' h _
    unfold i4
    rw[hL h rfl hfr];exact hk
  |p v=>cases v<;>exact hk
  |_=>exact hk
 case store t x y=>
  have e:=hs x (by simp[Op.operands])
  have e2:=hs y (by simp[Op.operands])
  have hL:=hL rfl x (by simp[Op.operands])
  simp only[aR,W0]at hk⊢
  rw[e,e2]at hk
  generalize cL s' x=v at hk hL
  cases v with
  |aC h off=>
   have hk:=hLK h _ (show LK h _ from hk)
   by_cases hfr:L h= .free
   ·rw[hfr]at hk;exact hk.elim
   ·show i4 L' h _
    unfold i4
    rw[hL h rfl hfr];exact hk
  |dO h W i off=>
   cases off with
   |zero=>
    have hk:=hLK h _ (show LK h _ from hk)
    by_cases hfr:L h= .free
    ·rw[hfr]at hk;exact hk.elim
    ·show i4 L' h _
     unfold i4
     rw[hL h rfl hfr];exact hk
   |succ off=>exact hk
  |_=>exact hk
 case binOp op t x y ty=>simp only[aR,W0]at hk⊢;rw[<-hs x (by simp[Op.operands]),<-hs y (by simp[Op.operands])];exact hk
 case unOp op t x=>simp only[aR,W0]at hk⊢;rw[<-hs x (by simp[Op.operands])];exact hk
 case nilCheck x=>simp only[aR,W0]at hk⊢;rw[<-hs x (by simp[Op.operands])];exact hk
 case convert src dst x=>simp only[aR,W0]at hk⊢;rw[<-hs x (by simp[Op.operands])];exact hk
 case makeFunc f fs cs=>
  cases f with
  |func f=>
   simp only[aR]at hk⊢
   rw[jt]at hk⊢
   rw[jt]at hk⊢
   have e1:fs.toList.map (cL s)=fs.toList.map (cL s'):=List.map_congr_left fun x hx=>hs x (by simp only[Op.operands,Array.toList_append];exact List.mem_append_left _ hx)
   have e2:cs.toList.map (cL s)=cs.toList.map (cL s'):=List.map_congr_left fun x hx=>hs x (by simp only[Op.operands,Array.toList_append];exact List.mem_append_right _ hx)
   rw[e1,e2]at hk
   exact hk
  |_=>exact hk
 case makeMap t r=>
  cases r with
  |none=>exact hk
  |some r=>simp only[fm]at hq;exact absurd hq qD
 case lookup t x k ok=>
  simp only[aR,W0]at hk⊢
  rw[<-hs x (by simp[Op.operands]),<-hs k (by simp[Op.operands])]
  exact u9 hLK (by rw[hs x (by simp[Op.operands])];exact hL rfl x (by simp[Op.operands])) hk
 case mapUpdate t m k x=>
  simp only[aR,W0]at hk⊢
  rw[<-hs m (by simp[Op.operands]),<-hs k (by simp[Op.operands]),<-hs x (by simp[Op.operands])]
  exact nP hLK (by rw[hs m (by simp[Op.operands])];exact hL rfl m (by simp[Op.operands])) hk
 case insert t m k x=>
  simp only[aR,W0]at hk⊢
  rw[<-hs m (by simp[Op.operands]),<-hs k (by simp[Op.operands]),<-hs x (by simp[Op.operands])]
  exact nP hLK (by rw[hs m (by simp[Op.operands])];exact hL rfl m (by simp[Op.operands])) hk
 case makeSlice t l c=>
  simp only[aR,W0]at hk⊢
  cases hz:sq l with
  |true=>simp only[hz]at hk⊢;rw[<-hs c (by simp[Op.operands])];exact hk
  |false=>simp only[hz]at hk⊢;rw[<-hs l (by simp[Op.operands]),<-hs c (by simp[Op.operands])];exact hk
 case slice t x lo hi mx=>
  have e:=hs x (by simp[Op.operands])
  have e1:∀d K,iQ (W0 s) lo d K=iQ (W0 s') lo d K:=fun d K=>ob _ _ _ fun y hy=>hs y (by subst hy;simp[Op.operands])
  have e2:∀d K,iQ (W0 s) hi d K=iQ (W0 s') hi d K:=fun d K=>ob _ _ _ fun y hy=>hs y (by subst hy;simp[Op.operands])
  have e3:∀d K,iQ (W0 s) mx d K=iQ (W0 s') mx d K:=fun d K=>ob _ _ _ fun y hy=>hs y (by subst hy;simp[Op.operands])
  simp only[aR]at hk⊢
  have hk:tU Γ (W0 s) t (cL s x) lo hi mx K:=hk
  show tU Γ (W0 s') t (cL s' x) lo hi mx K
  rw[e]at hk
  unfold tU at hk⊢
  simp only[e1,e2,e3]at hk
  exact hk
 case fieldAddr t x f=>simp only[aR,W0]at hk⊢;rw[<-hs x (by simp[Op.operands])];exact hk
 case field t x f=>simp only[aR,W0]at hk⊢;rw[<-hs x (by simp[Op.operands])];exact hk
 case indexAddr t x i=>simp only[aR,W0]at hk⊢;rw[<-hs x (by simp[Op.operands]),<-hs i (by simp[Op.operands])];exact hk
 case index t x i=>simp only[aR,W0]at hk⊢;rw[<-hs x (by simp[Op.operands]),<-hs i (by simp[Op.operands])];exact hk
 case extract x i=>simp only[aR,W0]at hk⊢;rw[<-hs x (by simp[Op.operands])];exact hk
 case call c=>
  obtain⟨f,xs,ts⟩:=c
  cases f with
  |builtin b=>
   have hmem:∀x∈xs.toList,x∈(Op.call ⟨.builtin b,xs,ts⟩).operands.toList:=fun x hx=>by simp only[Op.operands,Call.operands];simpa using hx
   have e1:xs.toList.map (cL s)=xs.toList.map (cL s'):=List.map_congr_left fun x hx=>hs x (hmem x hx)
   simp only[aR]at hk⊢
   rw[jt]at hk⊢
   rw[e1]at hk
   generalize hvs:xs.toList.map (cL s')=vs at hk
   generalize ts.toList=tl at hk
   have hLv:looks (Op.call ⟨.builtin b,xs,ts⟩)=true->∀v∈vs,∀h,v.aT h->L h≠ .free->L' h=L h:=fun hl v hv h hm hne=>by
    obtain⟨x,hx,e⟩:=List.mem_map.1 (hvs▸hv)
    exact hL hl x (hmem x hx) h (by rw[e];exact hm) hne
   rcases vs with _|⟨x,_|⟨y,_|⟨z,vs⟩⟩⟩<;>rcases tl with _|⟨t,_|⟨t',ts'⟩⟩<;>cases b<;>first|(simp only[fm]at hq;exact absurd hq qD)|exact hk|skip
   exact vv hLK (hLv rfl x qS) (hLv rfl y qS) hk
  |invoke r m=>cases hq
  |value f=>
   have hf:f∈(Op.call ⟨.value f,xs,ts⟩).operands.toList:=by simp[Op.operands,Call.operands]
   have hmem:∀x∈xs.toList,x∈(Op.call ⟨.value f,xs,ts⟩).operands.toList:=fun x hx=>by simp only[Op.operands,Call.operands];simp at hx⊢;exact .inr hx
   have e1:xs.toList.map (cL s)=xs.toList.map (cL s'):=List.map_congr_left fun x hx=>hs x (hmem x hx)
   simp only[aR,W0]at hk⊢
   rw[hs f hf]at hk
   have hA:=fun x hx h hr=>hA rfl x hx h (.inr ⟨rfl,hr⟩)
   have hLf:=hA f hf
   cases hlen:Nat.beq ts.toList.length xs.toList.length with
   |false=>rw[hlen]at hk;exact hk.elim
   |true=>
    rw[hlen]at hk
    simp only[cond_true]at hk⊢
    have hvs:∀x∈ts.toList.zip (xs.toList.map (cL s')),∀h,Reach L x.2 h->L h≠ .free->L' h=L h:=fun x hx h hm hne=>by
     have:=(List.of_mem_zip hx).2
     obtain⟨y,hy,e⟩:=List.mem_map.1 this
     exact hA y (hmem y hy) h (by rw[e];exact hm) hne
    generalize cL s' f=vf at hk hLf
    cases vf with
    |fn fid fs cs=>
     simp only at hk⊢
     rw[jt]at hk⊢
     rw[e1]at hk
     refine lR hLK _ _ _ (fun x hx h hm hne=>?_) (fun l=>aa.congr) hk
     rcases List.mem_append.1 hx with hx|hx
     ·obtain⟨v,hv,rfl⟩:=List.mem_map.1 hx
      exact hLf h (hm.of fun h hm=>by simp only[AV.aT,AV.dN];exact .inl ⟨v,hv,hm⟩) hne
     ·rcases List.mem_append.1 hx with hx|hx
      ·exact hvs x hx h hm hne
      ·obtain⟨v,hv,rfl⟩:=List.mem_map.1 hx
       exact hLf h (hm.of fun h hm=>by simp only[AV.aT,AV.dN];exact .inr ⟨v,hv,hm⟩) hne
    |p v=>
     cases v with
     |fn fid cs=>
      simp only at hk⊢
      rw[jt]at hk⊢
      rw[e1]at hk
      refine lR hLK _ _ _ (fun x hx h hm hne=>?_) (fun l=>aa.congr) hk
      rcases List.mem_append.1 hx with hx|hx
      ·exact hvs x hx h hm hne
      ·obtain⟨v,hv,rfl⟩:=List.mem_map.1 hx
       have no:∀k,¬(AV.p v).aT k:=fun k hk=>by simp only[AV.aT]at hk
       rcases hm with hm|⟨k,h1,_⟩|⟨k,_,h1,_⟩
       ·exact(no _ hm).elim
       ·exact(no _ h1).elim
       ·exact(no _ h1).elim
     |lp fid cs=>
      simp only at hk⊢
      rw[jt]at hk⊢
      rw[e1]at hk
      refine lR hLK _ _ _ (fun x hx h hm hne=>?_) (fun l=>aa.congr) hk
      rcases List.mem_append.1 hx with hx|hx
      ·obtain⟨v,hv,rfl⟩:=List.mem_map.1 hx
       have no:∀k,¬(AV.p v).aT k:=fun k hk=>by simp only[AV.aT]at hk
       rcases hm with hm|⟨k,h1,_⟩|⟨k,_,h1,_⟩
       ·exact(no _ hm).elim
       ·exact(no _ h1).elim
       ·exact(no _ h1).elim
      ·exact hvs x hx h hm hne
     |_=>exact hk.elim
    |_=>exact hk.elim
end
end
end
section
abbrev tO:=List (Hd×aA)
abbrev cv (dst:Nat->Option Tmp) (v:Nat->AV):(Nat->AV)->Nat->(Nat->AV):=fun s k=>jG s (dst k) (v k)
abbrev cM (ups:Nat->tO):(Hd->aA)->Nat->(Hd->aA):=fun L k=>a6 L (ups k)
theorem cQ {s:Nat->AV} {d:Option Tmp} {v:AV} {t:Nat} (h:d≠some t):jG s d v t=s t:=by
 cases d with
 |none=>rfl
 |some d=>exact aj _ _ (fun e=>h (by rw[e]))
theorem ji {s:Nat->AV} {v:AV} {t:Nat}:jG s (some t) v t=v:=ah _ _ _
theorem wm {s:Nat->AV} {d d':Option Tmp} {v v':AV} (h:∀t,d=some t->d'≠some t):jG (jG s d v) d' v'=jG (jG s d' v') d v:=by
 funext t
 by_cases e1:d=some t
 ·rw[cQ (h t e1),e1,ji,ji]
 ·by_cases e2:d'=some t
  ·rw[e2,ji,cQ e1,ji]
  ·rw[cQ e2,cQ e1,cQ e1,cQ e2]
theorem HN {L:Hd->aA} {g h:Hd} {B:aA} (hk:g.key≠h.key):fg L g B h=L h:=by
 cases g with
 |t n=>exact ju (fun e=>hk (by rw[e];rfl))
 |r n k=>
  have ne:h≠ .r n k:=fun e=>hk (by rw[e])
  cases B<;>exact aj _ _ ne
theorem DI (g h:Hd) (B:aA):(∀L,fg L g B h=L h)\/∀L L',fg L g B h=fg L' g B h:=by
 have up:∀B:aA,(∀L:Hd->aA,a8 L g B h=L h)\/∀L L':Hd->aA,a8 L g B h=a8 L' g B h:=fun B=>by
  by_cases e:h=g
  ·subst e;exact .inr fun L L'=>by rw[ah,ah]
  ·exact .inl fun L=>aj _ _ e
 cases B with
 |bu T W rows=>
  cases g with
  |r n k=>exact up _
  |t n=>
   cases h with
   |t m=>
    by_cases e:m=n
    ·exact .inr fun L L'=>by simp[fg,gE,e]
    ·exact .inl fun L=>by simp[fg,gE,e]
   |r m k=>
    by_cases e:m=n
    ·exact .inr fun L L'=>by simp[fg,gE,e]
    ·exact .inl fun L=>by simp[fg,gE,e]
 |_=>exact up _
theorem du {L:Hd->aA} {ups:tO} {h:Hd}:(∀x∈ups,x.1.key≠h.key)->a6 L ups h=L h:=by
 induction ups generalizing L with
 |nil=>intro _;rfl
 |cons x ups ih=>
  intro hh
  show a6 (fg L x.1 x.2) ups h=_
  rw[ih fun y hy=>hh y (List.mem_cons_of_mem _ hy)]
  exact HN (hh x List.mem_cons_self)
theorem nR {L L':Hd->aA} {ups:tO} {h:Hd}:L h=L' h->a6 L ups h=a6 L' ups h:=by
 induction ups generalizing L L' with
 |nil=>exact id
 |cons x ups ih=>
  intro hh
  show a6 (fg L x.1 x.2) ups h=a6 (fg L' x.1 x.2) ups h
  refine ih ?_
  rcases DI x.1 h x.2 with e|e
  ·rw[e,e];exact hh
  ·exact e _ _
theorem yX (ups:tO) (h:Hd):(∀L,a6 L ups h=L h)\/∀L L',a6 L ups h=a6 L' ups h:=by
 induction ups with
 |nil=>exact .inl fun L=>rfl
 |cons x ups ih=>
  rcases ih with ih|ih
  ·rcases DI x.1 h x.2 with e|e
   ·exact .inl fun L=>(ih _).trans (e L)
   ·exact .inr fun L L'=>by
     show a6 (fg L x.1 x.2) ups h=a6 (fg L' x.1 x.2) ups h
     rw[ih,ih];exact e _ _
  ·exact .inr fun L L'=>ih _ _
theorem vd {L:Hd->aA} {u u':tO} (h:∀x∈u,∀y∈u',x.1.key≠y.1.key):a6 (a6 L u) u'=a6 (a6 L u') u:=by
 funext k
 by_cases e1:∃x∈u,x.1.key=k.key
 ·have e2:∀y∈u',y.1.key≠k.key:=fun y hy e=>by obtain⟨x,hx,e'⟩:=e1;exact h x hx y hy (e'.trans e.symm)
  rw[du e2]
  exact nR (du e2).symm
 ·have e1':∀x∈u,x.1.key≠k.key:=fun x hx e=>e1 ⟨x,hx,e⟩
  rw[du (L:=a6 L u') e1']
  exact nR (du e1')
theorem Ai {ups:tO} {H:Hp} {K:Hp->Prop} (hk:pe ups H K):∃H',K H'/\look H'=a6 (look H) ups/\H.length<=H'.length/\∀x∈ups,x.1.key<H'.length:=by
 induction ups generalizing H with
 |nil=>exact⟨H,hk,rfl,Nat.le_refl _,qS⟩
 |cons x ups ih=>
  obtain⟨h,B⟩:=x
  obtain⟨H1,hk,e1,l1,m1⟩:=CT hk
  obtain⟨H2,hk,e2,l2,m2⟩:=ih hk
  refine⟨H2,hk,by rw[e2,e1];rfl,qO,fun y hy=>?_⟩
  rcases List.mem_cons.1 hy with rfl|hy
  ·exact Nat.lt_of_lt_of_le m1 l2
  ·exact m2 y hy
section
variable {P:Program} {Γ:oy} {E:Env} {n:Nat}
structure Cf (P:Program) (Γ:oy) (all:Array Oper) (o:Oper) (s:Nat->AV) (L:Hd->aA) (base base':Nat) (v:AV) (ups:tO) (run:Bool):Prop where
 guard:match o.guard with
  |none=>run=true
  |some (j,want)=>∃t,(all[j]?).bind (·.dst)=some t/\((∃b,(s t= .tf b\/s t= .p (.bool b))/\run=(b==want))\/(s t= .undef/\run=false))
 Ov:run=true->(∃LK:Hd->(aA->Prop)->Prop,(∀h K,LK h K->K (L h))/\aR Γ P (fun _=>false) (W0 s) LK L base o.op (fun v' ups'=>v'=v/\ups'=ups))/\(quiet all o.op=true->∀x∈ups,base<=x.1.key)
 not:run=false->v= .undef/\ups=[]
 le:base<=base'
 lt:∀x∈ups,x.1.key<base'
 free:∀h,base<=h.key->L h= .free
theorem wG (all:Array Oper):∀(rest:List Oper) (K:Sl->Hp->Prop) (s:Sl) (H:Hp),mn Γ P all rest K s H->
  ∃(v:Nat->AV) (ups:Nat->tO) (base:Nat->Nat) (run:Nat->Bool),(∀k o,rest[k]?=some o->Cf P Γ all o (aI (cv (fun k=>(rest[k]?).bind (·.dst)) v) bg (aP s) k) (aI (cM ups) bg (look H) k) (base k) (base (k+1)) (v k) (ups k) (run k))/\
   ∃s' H',K s' H'/\aP s'=aI (cv (fun k=>(rest[k]?).bind (·.dst)) v) bg (aP s) rest.length/\look H'=aI (cM ups) bg (look H) rest.length/\base 0=H.length:=by
 intro rest
 induction rest with
 |nil=>intro K s H hk;exact⟨fun _=>.undef,fun _=>[],fun _=>H.length,fun _=>true,qS,s,H,hk,rfl,rfl,rfl⟩
 |cons o rest ih=>
  intro K s H hk
  have step:∀(v0:AV) (u0:tO) (r0:Bool) (H1:Hp),look H1=a6 (look H) u0->Cf P Γ all o (aP s) (look H) H.length H1.length v0 u0 r0->mn Γ P all rest K (f7 o.dst v0 s) H1->
    ∃(v:Nat->AV) (ups:Nat->tO) (base:Nat->Nat) (run:Nat->Bool),(∀k o',(o::rest)[k]?=some o'->Cf P Γ all o' (aI (cv (fun k=>((o::rest)[k]?).bind (·.dst)) v) bg (aP s) k) (aI (cM ups) bg (look H) k) (base k) (base (k+1)) (v k) (ups k) (run k))/\
     ∃s' H',K s' H'/\aP s'=aI (cv (fun k=>((o::rest)[k]?).bind (·.dst)) v) bg (aP s) (o::rest).length/\look H'=aI (cM ups) bg (look H) (o::rest).length/\base 0=H.length:=by
   intro v0 u0 r0 H1 eL hstp hk
   obtain⟨v,ups,base,run,h1,s',H',hK,e1,e2,hb0⟩:=ih K _ H1 hk
   refine⟨fun k=>match k with|0=>v0|k+1=>v k,fun k=>match k with|0=>u0|k+1=>ups k,fun k=>match k with|0=>H.length|k+1=>base k,fun k=>match k with|0=>r0|k+1=>run k,?_,s',H',hK,?_,?_,rfl⟩
   ·intro k o' ho'
    cases k with
    |zero=>
     simp only[List.getElem?_cons_zero,Option.some.injEq]at ho'
     subst ho'
     show Cf P Γ all o (aP s) (look H) H.length (base 0) v0 u0 r0
     rw[hb0];exact hstp
    |succ k=>
     have:=h1 k o' (by simpa using ho')
     rw[dJ,dJ]
     have e:jG (aP s) o.dst v0=aP (f7 o.dst v0 s):=(fD _ _ _).symm
     show Cf P Γ all o' (aI _ bg (jG (aP s) o.dst v0) k) (aI _ bg (a6 (look H) u0) k) (base k) (base (k+1)) (v k) (ups k) (run k)
     rw[e,<-eL]
     exact this
   ·rw[List.length_cons,dJ]
    have e:jG (aP s) o.dst v0=aP (f7 o.dst v0 s):=(fD _ _ _).symm
    show aP s'=aI _ bg (jG (aP s) o.dst v0) rest.length
    rw[e];exact e1
   ·rw[List.length_cons,dJ]
    show look H'=aI _ bg (a6 (look H) u0) rest.length
    rw[<-eL];exact e2
  have run:(nQ H 0 fun base=>e9 (fun K'=>aR Γ P (fun _=>false) (WK s) (nJ H) (look H) base o.op K') (quiet all o.op) base fun v ups=>pe ups H fun H'=>mn Γ P all rest K (f7 o.dst v s) H')->
    ∃v0 u0 H1,look H1=a6 (look H) u0/\H.length<=H1.length/\(∀x∈u0,x.1.key<H1.length)/\((∃LK:Hd->(aA->Prop)->Prop,(∀h K,LK h K->K (look H h))/\aR Γ P (fun _=>false) (W0 (aP s)) LK (look H) H.length o.op (fun v' ups'=>v'=v0/\ups'=u0))/\(quiet all o.op=true->∀x∈u0,H.length<=x.1.key))/\mn Γ P all rest K (f7 o.dst v0 s) H1:=by
   intro hk
   have hk:=s6 hk
   rw[Nat.zero_add]at hk
   obtain⟨v0,u0,h1,hb,hk⟩:=hk
   obtain⟨H1,hk,e1,l1,m1⟩:=Ai hk
   refine⟨v0,u0,H1,e1,l1,m1,⟨?_,fun hq x hx=>?_⟩,hk⟩
   ·rw[DV]at h1;exact⟨_,fun h K hk=>pL H h K hk,h1⟩
   ·rw[hq]at hb
    have hb:(u0.all fun x=>Hd.from H.length x.1)=true:=hb
    have:=List.all_eq_true.1 hb x hx
    cases hx1:x.1<;>rw[hx1]at this<;>first|exact Nat.le_of_ble_eq_true this|cases this
  have hk:oc Γ P all o (mn Γ P all rest) K s H:=hk
  simp only[oc]at hk
  cases hg:o.guard with
  |none=>
   rw[hg]at hk
   obtain⟨v0,u0,H1,e1,l1,m1,hr,hk⟩:=run hk
   exact step v0 u0 true H1 e1 ⟨by rw[hg],fun _=>hr,(fun h=>by cases h),l1,m1,fun h hh=>c7 hh⟩ hk
  |some jw=>
   obtain⟨j,want⟩:=jw
   rw[hg]at hk
   simp only at hk
   cases ht:(all[j]?).bind (·.dst)with
   |none=>rw[ht]at hk;exact hk.elim
   |some t=>
    rw[ht]at hk
    simp only at hk
    rw[pW]at hk
    have skip:(∃b,(aP s t= .tf b\/aP s t= .p (.bool b))/\false=(b==want))\/(aP s t= .undef/\false=false)->mn Γ P all rest K (f7 o.dst .undef s) H->_:=fun hc hk=>
     step .undef [] false H rfl ⟨by rw[hg];exact⟨t,ht,hc⟩,(fun h=>by cases h),fun _=>⟨rfl,rfl⟩,Nat.le_refl _,qS,fun h hh=>c7 hh⟩ hk
    cases hv:aP s t with
    |tf b=>
     rw[hv]at hk
     simp only at hk
     cases hbw:(b==want)with
     |true=>
      rw[hbw]at hk
      obtain⟨v0,u0,H1,e1,l1,m1,hr,hk⟩:=run hk
      exact step v0 u0 true H1 e1 ⟨by rw[hg];exact⟨t,ht,.inl ⟨b,.inl hv,hbw.symm⟩⟩,fun _=>hr,(fun h=>by cases h),l1,m1,fun h hh=>c7 hh⟩ hk
     |false=>rw[hbw]at hk;exact skip (.inl ⟨b,.inl hv,hbw.symm⟩) hk
    |undef=>rw[hv]at hk;exact skip (.inr ⟨hv,rfl⟩) hk
    |p pv=>
     rw[hv]at hk
     cases pv with
     |bool b=>
      simp only at hk
      cases hbw:(b==want)with
      |true=>
       rw[hbw]at hk
       obtain⟨v0,u0,H1,e1,l1,m1,hr,hk⟩:=run hk
       exact step v0 u0 true H1 e1 ⟨by rw[hg];exact⟨t,ht,.inl ⟨b,.inr hv,hbw.symm⟩⟩,fun _=>hr,(fun h=>by cases h),l1,m1,fun h hh=>c7 hh⟩ hk
      |false=>rw[hbw]at hk;exact skip (.inl ⟨b,.inr hv,hbw.symm⟩) hk
     |_=>exact hk.elim
    |_=>rw[hv]at hk;exact hk.elim
def oL (o:Oper) (s:Nat->AV) (L:Hd->aA) (h:Hd):Prop:=looks o.op=true/\∃z∈o.op.operands.toList,OQ o.op L (cL s z) h
theorem kZ {H:Hp} {l:List Nat} {k h:Hd} (hk:k.key∈l) (hm:(look H k).aT h):h.key∈jk H l:=by
 unfold jk
 rw[List.mem_append,List.mem_flatMap]
 cases k with
 |r n j=>exact(aA.mR _ _ _ hm).elim
 |t n=>
  refine .inr ⟨n,hk,?_⟩
  have hm:(H.getD n .free).top.aT h:=hm
  generalize H.getD n .free=B at hm
  cases B<;>first|exact hm.elim|skip
  ·obtain⟨c,hc,hm⟩:=oZ hm
   exact AV.qu hc hm
  ·obtain⟨c,hc,hm⟩:=oZ hm
   exact AV.qu hc hm
theorem fQ {H:Hp} {l:List Nat} {n:Nat} (h:n∈l):n∈jk H l:=by unfold jk;exact List.mem_append_left _ h
theorem Ew {o:Oper} {s:Sl} {H:Hp} {h:Hd} (hm:oL o (aP s) (look H) h):h.key∈tQ o.op H (AV.gy (o.op.operands.toList.map (cL (aP s)))):=by
 obtain⟨hlk,z,hz,hm⟩:=hm
 unfold tQ
 rw[hlk,cond_true]
 have b:∀k:Hd,(cL (aP s) z).aT k->k.key∈AV.gy (o.op.operands.toList.map (cL (aP s))):=fun k hk=>AV.qu (List.mem_map_of_mem hz) hk
 rcases hm with hm|⟨hd,hm⟩
 ·cases deep o.op with
  |false=>exact b h hm
  |true=>rw[cond_true];unfold Cb;exact fQ (fQ (b h hm))
 rw[hd,cond_true]
 unfold Cb
 rcases hm with hm|⟨k,h1,h2⟩|⟨k,k',h1,h2,h3⟩
 ·exact fQ (fQ (b h hm))
 ·exact fQ (kZ (b k h1) h2)
 ·exact kZ (kZ (b k h1) h2) h3
theorem vi (all:Array Oper):∀(rest:List Oper) (K:Acc->Sl->Hp->Prop) (acc:Acc) (s:Sl) (H:Hp),jS Γ P all rest K acc s H->
  ∃(v:Nat->AV) (ups:Nat->tO) (base:Nat->Nat) (run:Nat->Bool),(∀k o,rest[k]?=some o->Cf P Γ all o (aI (cv (fun k=>(rest[k]?).bind (·.dst)) v) bg (aP s) k) (aI (cM ups) bg (look H) k) (base k) (base (k+1)) (v k) (ups k) (run k))/\
   ∃s' H',(∃acc2:Acc,acc2.length=rest.length/\K (acc++acc2) s' H'/\∀k o,rest[k]?=some o->∃rd,acc2[k]?=some (rd,(ups k).map fun x=>x.1.key)/\(run k=true->∀h,oL o (aI (cv (fun k=>(rest[k]?).bind (·.dst)) v) bg (aP s) k) (aI (cM ups) bg (look H) k) h->h.key∈rd))/\aP s'=aI (cv (fun k=>(rest[k]?).bind (·.dst)) v) bg (aP s) rest.length/\look H'=aI (cM ups) bg (look H) rest.length/\base 0=H.length:=by
 intro rest
 induction rest with
 |nil=>intro K acc s H hk;exact⟨fun _=>.undef,fun _=>[],fun _=>H.length,fun _=>true,qS,s,H,⟨[],rfl,by rw[List.append_nil];exact hk,qS⟩,rfl,rfl,rfl⟩
 |cons o rest ih=>
  intro K acc s H hk
  have step:∀(v0:AV) (u0:tO) (r0:Bool) (H1:Hp) (rd:List Nat),(r0=true->∀h,oL o (aP s) (look H) h->h.key∈rd)->look H1=a6 (look H) u0->Cf P Γ all o (aP s) (look H) H.length H1.length v0 u0 r0->jS Γ P all rest K (acc++[(rd,u0.map fun x=>x.1.key)]) (f7 o.dst v0 s) H1->
    ∃(v:Nat->AV) (ups:Nat->tO) (base:Nat->Nat) (run:Nat->Bool),(∀k o',(o::rest)[k]?=some o'->Cf P Γ all o' (aI (cv (fun k=>((o::rest)[k]?).bind (·.dst)) v) bg (aP s) k) (aI (cM ups) bg (look H) k) (base k) (base (k+1)) (v k) (ups k) (run k))/\
     ∃s' H',(∃acc2:Acc,acc2.length=(o::rest).length/\K (acc++acc2) s' H'/\∀k o',(o::rest)[k]?=some o'->∃rd,acc2[k]?=some (rd,(ups k).map fun x=>x.1.key)/\(run k=true->∀h,oL o' (aI (cv (fun k=>((o::rest)[k]?).bind (·.dst)) v) bg (aP s) k) (aI (cM ups) bg (look H) k) h->h.key∈rd))/\aP s'=aI (cv (fun k=>((o::rest)[k]?).bind (·.dst)) v) bg (aP s) (o::rest).length/\look H'=aI (cM ups) bg (look H) (o::rest).length/\base 0=H.length:=by
   intro v0 u0 r0 H1 rd hrd eL hstp hk
   obtain⟨v,ups,base,run,h1,s',H',⟨acc2,hlen,hK,hacc⟩,e1,e2,hb0⟩:=ih K _ _ H1 hk
   refine⟨fun k=>match k with|0=>v0|k+1=>v k,fun k=>match k with|0=>u0|k+1=>ups k,fun k=>match k with|0=>H.length|k+1=>base k,fun k=>match k with|0=>r0|k+1=>run k,?_,s',H',⟨(rd,u0.map fun x=>x.1.key)::acc2,by simp[hlen],by rw[List.append_assoc]at hK;exact hK,fun k o' ho'=>?_⟩,?_,?_,rfl⟩
   ·intro k o' ho'
    cases k with
    |zero=>
     simp only[List.getElem?_cons_zero,Option.some.injEq]at ho'
     subst ho'
     show Cf P Γ all o (aP s) (look H) H.length (base 0) v0 u0 r0
     rw[hb0];exact hstp
    |succ k=>
     have:=h1 k o' (by simpa using ho')
     rw[dJ,dJ]
     have e:jG (aP s) o.dst v0=aP (f7 o.dst v0 s):=(fD _ _ _).symm
     show Cf P Γ all o' (aI _ bg (jG (aP s) o.dst v0) k) (aI _ bg (a6 (look H) u0) k) (base k) (base (k+1)) (v k) (ups k) (run k)
     rw[e,<-eL]
     exact this
   ·cases k with
    |zero=>
     simp only[List.getElem?_cons_zero,Option.some.injEq]at ho'
     subst ho'
     exact⟨rd,rfl,hrd⟩
    |succ k=>
     obtain⟨rd',h3,h4⟩:=hacc k o' (by simpa using ho')
     refine⟨rd',by simpa using h3,fun hr=>?_⟩
     rw[dJ,dJ]
     have e:jG (aP s) o.dst v0=aP (f7 o.dst v0 s):=(fD _ _ _).symm
     show ∀h,oL o' (aI _ bg (jG (aP s) o.dst v0) k) (aI _ bg (a6 (look H) u0) k) h->h.key∈rd'
     rw[e,<-eL]
     exact h4 hr
   ·rw[List.length_cons,dJ]
    have e:jG (aP s) o.dst v0=aP (f7 o.dst v0 s):=(fD _ _ _).symm
    show aP s'=aI _ bg (jG (aP s) o.dst v0) rest.length
    rw[e];exact e1
   ·rw[List.length_cons,dJ]
    show look H'=aI _ bg (a6 (look H) u0) rest.length
    rw[<-eL];exact e2
  have run:(gg (WK s) o.op.operands.toList fun vs=>nQ H 0 fun base=>e9 (fun K'=>aR Γ P (fun _=>false) (WK s) (nJ H) (look H) base o.op K') (quiet all o.op) base fun v ups=>pe ups H fun H'=>jS Γ P all rest K (acc++[(tQ o.op H (AV.gy vs),ups.map fun x=>x.1.key)]) (f7 o.dst v s) H')->
    ∃v0 u0 H1 rd,(∀h,oL o (aP s) (look H) h->h.key∈rd)/\look H1=a6 (look H) u0/\H.length<=H1.length/\(∀x∈u0,x.1.key<H1.length)/\((∃LK:Hd->(aA->Prop)->Prop,(∀h K,LK h K->K (look H h))/\aR Γ P (fun _=>false) (W0 (aP s)) LK (look H) H.length o.op (fun v' ups'=>v'=v0/\ups'=u0))/\(quiet all o.op=true->∀x∈u0,H.length<=x.1.key))/\jS Γ P all rest K (acc++[(rd,u0.map fun x=>x.1.key)]) (f7 o.dst v0 s) H1:=by
   intro hk
   rw[DV,jt,<-DV]at hk
   have hk:=s6 hk
   rw[Nat.zero_add]at hk
   obtain⟨v0,u0,h1,hb,hk⟩:=hk
   obtain⟨H1,hk,e1,l1,m1⟩:=Ai hk
   refine⟨v0,u0,H1,tQ o.op H (AV.gy (o.op.operands.toList.map (cL (aP s)))),fun h hm=>Ew hm,e1,l1,m1,⟨?_,fun hq x hx=>?_⟩,hk⟩
   ·rw[DV]at h1;exact⟨_,fun h K hk=>pL H h K hk,h1⟩
   ·rw[hq]at hb
    have hb:(u0.all fun x=>Hd.from H.length x.1)=true:=hb
    have:=List.all_eq_true.1 hb x hx
    cases hx1:x.1<;>rw[hx1]at this<;>first|exact Nat.le_of_ble_eq_true this|cases this
  have hk:lY Γ P all o (jS Γ P all rest) K acc s H:=hk
  simp only[lY]at hk
  cases hg:o.guard with
  |none=>
   rw[hg]at hk
   obtain⟨v0,u0,H1,rd,hrd,e1,l1,m1,hr,hk⟩:=run hk
   exact step v0 u0 true H1 rd (fun _=>hrd) e1 ⟨by rw[hg],fun _=>hr,(fun h=>by cases h),l1,m1,fun h hh=>c7 hh⟩ hk
  |some jw=>
   obtain⟨j,want⟩:=jw
   rw[hg]at hk
   simp only at hk
   cases ht:(all[j]?).bind (·.dst)with
   |none=>rw[ht]at hk;exact hk.elim
   |some t=>
    rw[ht]at hk
    simp only at hk
    rw[pW]at hk
    have skip:(∃b,(aP s t= .tf b\/aP s t= .p (.bool b))/\false=(b==want))\/(aP s t= .undef/\false=false)->jS Γ P all rest K (acc++[([],[])]) (f7 o.dst .undef s) H->_:=fun hc hk=>
     step .undef [] false H [] (fun h=>by cases h) rfl ⟨by rw[hg];exact⟨t,ht,hc⟩,(fun h=>by cases h),fun _=>⟨rfl,rfl⟩,Nat.le_refl _,qS,fun h hh=>c7 hh⟩ hk
    cases hv:aP s t with
    |tf b=>
     rw[hv]at hk
     simp only at hk
     cases hbw:(b==want)with
     |true=>
      rw[hbw]at hk
      obtain⟨v0,u0,H1,rd,hrd,e1,l1,m1,hr,hk⟩:=run hk
      exact step v0 u0 true H1 rd (fun _=>hrd) e1 ⟨by rw[hg];exact⟨t,ht,.inl ⟨b,.inl hv,hbw.symm⟩⟩,fun _=>hr,(fun h=>by cases h),l1,m1,fun h hh=>c7 hh⟩ hk
     |false=>rw[hbw]at hk;exact skip (.inl ⟨b,.inl hv,hbw.symm⟩) hk
    |undef=>rw[hv]at hk;exact skip (.inr ⟨hv,rfl⟩) hk
    |p pv=>
     rw[hv]at hk
     cases pv with
     |bool b=>
      simp only at hk
      cases hbw:(b==want)with
      |true=>
       rw[hbw]at hk
       obtain⟨v0,u0,H1,rd,hrd,e1,l1,m1,hr,hk⟩:=run hk
       exact step v0 u0 true H1 rd (fun _=>hrd) e1 ⟨by rw[hg];exact⟨t,ht,.inl ⟨b,.inr hv,hbw.symm⟩⟩,fun _=>hr,(fun h=>by cases h),l1,m1,fun h hh=>c7 hh⟩ hk
      |false=>rw[hbw]at hk;exact skip (.inl ⟨b,.inr hv,hbw.symm⟩) hk
     |_=>exact hk.elim
    |_=>rw[hv]at hk;exact hk.elim
def Qm (u1:tO) (r1:Bool) (m1:Hd->Prop) (u2:tO) (r2:Bool) (m2:Hd->Prop):Prop:=(∀p∈u1,∀q∈u2,p.1.key≠q.1.key)/\(r2=true->∀p∈u1,∀h,m2 h->p.1.key≠h.key)/\(r1=true->∀q∈u2,∀h,m1 h->q.1.key≠h.key)
def ID (ops:Array Oper) (x:Oper) (sx:Nat->AV) (Lx:Hd->aA) (ux:tO) (rx:Bool) (y:Oper) (sy:Nat->AV) (Ly:Hd->aA) (uy:tO) (ry:Bool):Prop:=
 (quiet ops x.op=true/\quiet ops y.op=true)\/(fm x.op=true/\fm y.op=true/\Qm ux rx (oL x sx Lx) uy ry (oL y sy Ly))
theorem ID.q0 {ops:Array Oper} {x:Oper} {sx:Nat->AV} {Lx:Hd->aA} {ux:tO} {rx:Bool} {y:Oper} {sy:Nat->AV} {Ly:Hd->aA} {uy:tO} {ry:Bool} (h:ID ops x sx Lx ux rx y sy Ly uy ry):fm x.op=true/\fm y.op=true:=by
 rcases h with⟨h1,h2⟩|⟨h1,h2,_⟩
 ·exact⟨(Bool.and_eq_true ..▸h1).1,(Bool.and_eq_true ..▸h2).1⟩
 ·exact⟨h1,h2⟩
theorem St.drawn {s:Nat->AV} {L:Hd->aA} {a:Act} {w:World} (h:St E n s L a w):St E n s L a {w with drawn:=w.drawn+1}:=by
 obtain⟨F,β,h⟩:=h
 exact⟨F,β,h.still rfl rfl rfl rfl⟩
theorem vT (hΓ:gW P Γ) (ops:Array Oper) (hfit:nT n ops.toList=true) (hdepF:∀{j:Nat} {o:Oper},ops[j]?=some o->∀e∈o.after.toList,Region.binds .any e=true->e.on<j) (Q:Exit->Act->World->Prop)
  (s:Sl) (H:Hp) (a:Act) (w:World) (v:Nat->AV) (ups:Nat->tO) (base:Nat->Nat) (run:Nat->Bool)
  (hstp:∀k o,ops.toList[k]?=some o->Cf P Γ ops o (aI (cv (fun k=>(ops.toList[k]?).bind (·.dst)) v) bg (aP s) k) (aI (cM ups) bg (look H) k) (base k) (base (k+1)) (v k) (ups k) (run k))
  (s':Sl) (H':Hp) (hQ':∀a w,St E n (aP s') (look H') a w->Q .normal a w) (e1:aP s'=aI (cv (fun k=>(ops.toList[k]?).bind (·.dst)) v) bg (aP s) ops.toList.length) (e2:look H'=aI (cM ups) bg (look H) ops.toList.length) (hb0:base 0=H.length)
  (hpair:∀{i j:Nat} {x y:Oper},ops[i]?=some x->ops[j]?=some y->i<j->(x.apart ops y=true/\ID ops x (aI (cv (fun k=>(ops.toList[k]?).bind (·.dst)) v) bg (aP s) i) (aI (cM ups) bg (look H) i) (ups i) (run i) y (aI (cv (fun k=>(ops.toList[k]?).bind (·.dst)) v) bg (aP s) j) (aI (cM ups) bg (look H) j) (ups j) (run j))\/∀D,gI ops.toList D->D j=true->D i=true)
  (hst:St E n (aP s) (look H) a w):wpAny P .any ops Q ops.size (Array.replicate ops.size false) a w:=by
 rw[Array.length_toList]at e1 e2
 generalize hdst:(fun(k:Nat)=>(ops.toList[k]?).bind (fun(o:Oper)=>o.dst))=dst at hstp e1 hpair
 have hdst':∀{k:Nat} {o:Oper},ops[k]?=some o->dst k=o.dst:=fun{k o} h=>by rw[<-hdst];simp[h]
 have hstp:∀{k:Nat} {o:Oper},ops[k]?=some o->Cf P Γ ops o (aI (cv dst v) bg (aP s) k) (aI (cM ups) bg (look H) k) (base k) (base (k+1)) (v k) (ups k) (run k):=fun{k o} h=>hstp k o (by simpa using h)
 have hget:∀k,k<ops.size->∃o,ops[k]?=some o:=fun k hk=>⟨ops[k],by simp[hk]⟩
 have hmono:∀j,j<=ops.size->∀i,i<=j->base i<=base j:=by
  intro j
  induction j with
  |zero=>intro _ i hi;rw[Nat.le_zero.1 hi];exact Nat.le_refl _
  |succ j ih=>
   intro hj i hi
   by_cases e:i=j+1
   ·rw[e];exact Nat.le_refl _
   ·obtain⟨o,ho⟩:=hget j qO
    exact Nat.le_trans (ih qO i qO) (hstp ho).le
 have hupslt:∀{k:Nat},k<ops.size->∀x∈ups k,x.1.key<base (k+1):=fun{k} hk=>by
  obtain⟨o,ho⟩:=hget k hk;exact(hstp ho).lt
 have hupsge:∀{k:Nat} {o:Oper},ops[k]?=some o->quiet ops o.op=true->∀x∈ups k,base k<=x.1.key:=fun{k o} ho hq x hx=>by
  cases hr:run k with
  |true=>exact((hstp ho).Ov hr).2 hq x hx
  |false=>rw[((hstp ho).not hr).2]at hx;simp at hx
 have done:∀(D:Nat->Bool) (a:Act) (w:World),(∀i,i<ops.size->D i=true)->St E n (aI (cv dst v) D (aP s) ops.size) (aI (cM ups) D (look H) ops.size) a w->Q .normal a w:=by
  intro D a w hD hst
  rw[iL (D':=bg) ops.size fun j hj=>hD j hj,iL (D':=bg) ops.size fun j hj=>hD j hj,<-e1,<-e2]at hst
  exact hQ' a w hst
 have key:∀(fuel:Nat) (listed:Array Bool) (a:Act) (w:World),listed.size=ops.size->gI ops.toList (fun j=>listed.getD j false)->((List.range ops.size).filter fun i=> !listed.getD i false).length<=fuel->
   St E n (aI (cv dst v) (fun j=>listed.getD j false) (aP s) ops.size) (aI (cM ups) (fun j=>listed.getD j false) (look H) ops.size) a w->wpAny P .any ops Q fuel listed a w:=by
  intro fuel
  induction fuel with
  |zero=>
   intro listed a w hsz hcl hcnt hst
   have hall:∀i,i<ops.size->listed.getD i false=true:=fun i hi=>by
    have:=List.eq_nil_of_length_eq_zero (Nat.le_zero.1 hcnt)
    rw[List.filter_eq_nil_iff]at this
    simpa using this i (List.mem_range.2 hi)
   refine⟨?_,done _ a w hall hst⟩
   unfold Region.ready
   rw[List.filter_eq_nil_iff]
   intro i hi
   have hi:=List.mem_range.1 hi
   have:=hall i hi
   have e:listed.getD i true=true:=by simpa[Array.getD,hsz,hi]using this
   simp[e]
  |succ fuel ih=>
   intro listed a w hsz hcl hcnt hst
   refine⟨fun hnil=>?_,fun i hi=>?_⟩
   ·refine done _ a w (fun i=>?_) hst
    induction i using Nat.strongRecOn with
    |_ i ihs=>
     intro hi
     cases hd:listed.getD i false with
     |true=>rfl
     |false=>
      exfalso
      obtain⟨o,ho⟩:=hget i hi
      have:i∈Region.ready .any ops listed:=by
       unfold Region.ready
       rw[List.mem_filter]
       refine⟨List.mem_range.2 hi,?_⟩
       have e:listed.getD i true=false:=by simpa[Array.getD,hsz,hi]using hd
       rw[e,ho]
       simp only[Bool.not_false,Option.map_some,Option.getD_some,Bool.true_and]
       rw[<-Array.all_toList,List.all_eq_true]
       intro e he
       cases hb:Region.binds .any e with
       |false=>rfl
       |true=>
        have hlt:=hdepF ho e he hb
        have hd:=ihs e.on hlt qO
        rw[hd];rfl
      rw[hnil]at this
      simp at this
   ·
    unfold Region.ready at hi
    rw[List.mem_filter]at hi
    obtain⟨hlt,hi⟩:=hi
    have hlt:=List.mem_range.1 hlt
    obtain⟨o,ho⟩:=hget i hlt
    rw[ho]at hi
    simp only[Option.map_some,Option.getD_some,Bool.and_eq_true]at hi
    obtain⟨hi1,hi2⟩:=hi
    generalize hD:(fun j=>listed.getD j false)=D at hcl hst
    have hDi:D i=false:=by
     rw[<-hD]
     have:listed.getD i true=false:=by simpa using hi1
     simpa[Array.getD,hsz,hlt]using this
    have hdep:∀e∈o.after.toList,Region.binds .any e=true->D e.on=true:=fun e he hb=>by
     rw[<-Array.all_toList,List.all_eq_true]at hi2
     have:=hi2 e he
     rw[hb]at this
     rw[<-hD];simpa using this
    have hD':(fun j=>(listed.setIfInBounds i true).getD j false)=fS D i:=by
     funext j
     rw[<-hD]
     by_cases e:j=i
     ·subst e;rw[km];simp[Array.getD,hsz,hlt]
     ·rw[jI e]
      simp only[Array.getD_eq_getD_getElem?,Array.getElem?_setIfInBounds_ne (fun h=>e h.symm)]
    have hcl':gI ops.toList (fS D i):=by
     intro j oj hj hoj e he hb
     by_cases hji:j=i
     ·subst hji
      have:oj=o:=by
       have h1:ops[j]?=some oj:=by simpa using hoj
       rw[ho]at h1;cases h1;rfl
      subst this
      simp[fS,hdep e he hb]
     ·rw[jI hji]at hj
      simp[fS,hcl j oj hj hoj e he hb]
    have lo:∀{j:Nat} {x:Oper},ops[j]?=some x->j<i->(x.apart ops o=true/\ID ops x (aI (cv dst v) bg (aP s) j) (aI (cM ups) bg (look H) j) (ups j) (run j) o (aI (cv dst v) bg (aP s) i) (aI (cM ups) bg (look H) i) (ups i) (run i))\/D j=true:=fun{j x} hx hji=>by
     rcases hpair hx ho hji with h|h
     ·exact .inl h
     ·have:=h _ hcl' km
      rw[jI qO]at this
      exact .inr this
    have hi':∀{j:Nat} {x:Oper},ops[j]?=some x->i<j->D j=true->o.apart ops x=true/\ID ops o (aI (cv dst v) bg (aP s) i) (aI (cM ups) bg (look H) i) (ups i) (run i) x (aI (cv dst v) bg (aP s) j) (aI (cM ups) bg (look H) j) (ups j) (run j):=fun{j x} hx hij hj=>by
     rcases hpair ho hx hij with h|h
     ·exact h
     ·rw[h _ hcl hj]at hDi;cases hDi
    have hDlt:∀{j:Nat},D j=true->j<ops.size:=fun{j} hj=>by
     rw[<-hD]at hj
     by_cases h:j<listed.size
     ·rwa[hsz]at h
     ·simp[Array.getD,h]at hj
    have slot:∀t,t∈o.looksAt ops->aI (cv dst v) D (aP s) ops.size t=aI (cv dst v) bg (aP s) i t:=by
     intro t ht
     have low:∀m,m<=i->aI (cv dst v) D (aP s) m t=aI (cv dst v) bg (aP s) m t:=by
      intro m
      induction m with
      |zero=>intro _;rfl
      |succ m ihm=>
       intro hm
       have ihm:=ihm qO
       simp only[aI,bg,cond_true]
       cases hdm:D m with
       |true=>
        simp only[cond_true]
        by_cases e:dst m=some t
        ·simp only[cv,e,ji]
        ·simp only[cv];rw[cQ e,cQ e];exact ihm
       |false=>
        simp only[cond_false]
        have:dst m≠some t:=fun e=>by
         obtain⟨x,hx⟩:=hget m qO
         rw[hdst' hx]at e
         rcases lo hx qO with⟨h,_⟩|h
         ·exact(Oper.apart_spec h).1 t e ht
         ·rw[hdm]at h;cases h
        simp only[cv]
        rw[cQ this];exact ihm
     have high:∀m,m<=ops.size->i<=m->aI (cv dst v) D (aP s) m t=aI (cv dst v) D (aP s) i t:=by
      intro m
      induction m with
      |zero=>intro _ hm;rw[Nat.le_zero.1 hm]
      |succ m ihm=>
       intro hmn hm
       by_cases e:i=m+1
       ·rw[e]
       ·have ihm:=ihm qO qO
        simp only[aI]
        cases hdm:D m with
        |false=>exact ihm
        |true=>
         simp only[cond_true,cv]
         have hne:i≠m:=fun e=>by rw[e,hdm]at hDi;cases hDi
         obtain⟨x,hx⟩:=hget m qO
         rw[cQ fun e=>by
          rw[hdst' hx]at e
          exact(Oper.apart_spec (hi' hx qO hdm).1).2.2 t e ht]
         exact ihm
     rw[high ops.size (Nat.le_refl _) qO,low i (Nat.le_refl _)]
    have loud:fm o.op=false->∀{σ:Type} (app:σ->Nat->σ) (x:σ),aI app D x ops.size=aI app bg x i:=by
     intro hq σ app x
     have high:∀m,m<=ops.size->i<=m->aI app D x m=aI app D x i:=by
      intro m
      induction m with
      |zero=>intro _ hm;rw[Nat.le_zero.1 hm]
      |succ m ihm=>
       intro hmn hm
       by_cases e:i=m+1
       ·rw[e]
       ·have ihm:=ihm qO qO
        simp only[aI]
        cases hdm:D m with
        |false=>exact ihm
        |true=>
         have hne:i≠m:=fun e=>by rw[e,hdm]at hDi;cases hDi
         obtain⟨y,hy⟩:=hget m qO
         have:=(hi' hy qO hdm).2.q0.1
         rw[hq]at this;cases this
     rw[high ops.size (Nat.le_refl _) qO]
     exact iL i fun j hj=>by
      obtain⟨y,hy⟩:=hget j qO
      rcases lo hy hj with⟨_,h⟩|h
      ·have h:=h.q0.2
       rw[hq]at h;cases h
      ·exact h
    have next:∀a' w',St E n (jG (aI (cv dst v) D (aP s) ops.size) o.dst (v i)) (a6 (aI (cM ups) D (look H) ops.size) (ups i)) a' w'->wpAny P .any ops Q fuel (listed.setIfInBounds i true) a' w':=by
     intro a' w' hst'
     refine ih _ a' w' (by simpa using hsz) (by rw[hD'];exact hcl') ?_ ?_
     ·have hsub:((List.range ops.size).filter fun j=> !(listed.setIfInBounds i true).getD j false).length<((List.range ops.size).filter fun j=> !listed.getD j false).length:=by
       have e1:(fun j=> !(listed.setIfInBounds i true).getD j false)=fun j=>(!listed.getD j false)&& !(Nat.beq j i):=by
        funext j
        have this:(listed.setIfInBounds i true).getD j false=fS D i j:=congrFun hD' j
        rw[this,<-hD]
        simp[fS]
       rw[e1,<-List.countP_eq_length_filter,<-List.countP_eq_length_filter]
       have strict:∀(l:List Nat),i∈l->List.countP (fun j=>(!listed.getD j false)&& !(Nat.beq j i)) l<List.countP (fun j=> !listed.getD j false) l:=by
        have w8:∀(l:List Nat),List.countP (fun j=>(!listed.getD j false)&& !(Nat.beq j i)) l<=List.countP (fun j=> !listed.getD j false) l:=fun l=>
         List.countP_mono_left fun x _ h=>by simp only[Bool.and_eq_true]at h;exact h.1
        have hno:listed.getD i false=false:=(congrFun hD i).trans hDi
        intro l
        induction l with
        |nil=>intro h;simp at h
        |cons x l ihl=>
         intro h
         rw[List.countP_cons,List.countP_cons]
         by_cases e:x=i
         ·subst e
          have:=w8 l
          have hb:Nat.beq x x=true:=qS
          rw[hno,hb]
          simp only[Bool.not_false,Bool.not_true,Bool.and_false,if_true,Bool.false_eq_true,if_false]
          omega
         ·have:=ihl (by rcases List.mem_cons.1 h with h|h;exact(e h.symm).elim;exact h)
          rw[Bq e]
          simp only[Bool.not_false,Bool.and_true]
          split<;>omega
       exact strict _ (List.mem_range.2 hlt)
      omega
     ·rw[hD',qv hDi ops.size hlt,qv hDi ops.size hlt]
      ·simp only[cv,cM]
       rw[hdst' ho]
       exact hst'
      ·intro j hij hjn hj y
       obtain⟨x,hx⟩:=hget j hjn
       have hq:=hi' hx hij hj
       simp only[cM]
       refine vd fun p hp q hq'=>?_
       rcases hq.2 with⟨_,hqx⟩|⟨_,_,hdis⟩
       ·have h1:=hupslt hlt p hp
        have h2:=hupsge hx hqx q hq'
        have h3:=hmono j qO (i+1) qO
        omega
       ·have:=hdis.1 p hp q hq'
        omega
      ·intro j hij hjn hj y
       obtain⟨x,hx⟩:=hget j hjn
       simp only[cv]
       refine wm fun t ht=>?_
       rw[hdst' hx]
       rw[hdst' ho]at ht
       exact(Oper.apart_spec (hi' hx hij hj).1).2.1 t ht
    have hdn:∀t,o.dst=some t->t<n:=fun t ht=>by
     have hm:o∈ops.toList:=List.mem_of_getElem? (by simpa using ho:ops.toList[i]?=some o)
     have:=List.all_eq_true.1 hfit o hm
     rw[ht]at this
     simpa using this
    have hS:=hstp ho
    have hwant:Region.wanted o (yielded ops a.tmps)=run i:=by
     have hg:=hS.guard
     cases hog:o.guard with
     |none=>rw[hog]at hg;simp only at hg;rw[hg];simp[Region.wanted,hog]
     |some jw=>
      obtain⟨j,want⟩:=jw
      rw[hog]at hg
      simp only at hg
      obtain⟨t,ht,hg⟩:=hg
      have htl:t∈o.looksAt ops:=by
       unfold Oper.looksAt
       rw[hog]
       simp[ht]
      rw[<-slot t htl]at hg
      obtain⟨F,β,hst'⟩:=id hst
      have hv:=hst'.iD t
      have hlt':t<a.tmps.size:=by
       rw[hst'.len]
       cases hj:ops[j]? with
       |none=>rw[hj]at ht;cases ht
       |some oj=>
        rw[hj]at ht
        have hm:oj∈ops.toList:=List.mem_of_getElem? (by simpa using hj:ops.toList[j]?=some oj)
        have:=List.all_eq_true.1 hfit oj hm
        have ht':oj.dst=some t:=ht
        rw[ht']at this
        simpa using this
      have hgt:a.tmps[t]?=some (a.tmps.getD t Go.undef):=by simp[Array.getD,hlt']
      have hy:∀x,a.tmps.getD t Go.undef=x->yielded ops a.tmps j=(match x with| .bool b=>some b|_=>none):=by
       intro x e
       unfold yielded
       rw[ht]
       simp only[Option.bind_some,hgt,e]
       cases x<;>rfl
      rcases hg with⟨b,hb,hr⟩|⟨hb,hr⟩
      ·have he:a.tmps.getD t Go.undef= .bool b:=by
        generalize a.tmps.getD t Go.undef=x at hv
        rcases hb with hb|hb
        ·rw[hb]at hv;cases hv;rfl
        ·rw[hb]at hv;cases hv with|p hp=>cases hp;rfl
       rw[hr]
       simp only[Region.wanted,hog,hy _ he]
       cases b<;>cases want<;>rfl
      ·rw[hb]at hv
       have he:a.tmps.getD t Go.undef= .tuple #[]:=by generalize a.tmps.getD t Go.undef=x at hv;cases hv;rfl
       rw[hr]
       simp only[Region.wanted,hog,hy _ he]
       rfl
    unfold wpOp
    rw[ho]
    simp only
    rw[hwant]
    cases hr:run i with
    |false=>
     rw[if_neg qS]
     refine next _ w ?_
     obtain⟨hv,hu⟩:=hS.not hr
     rw[hv,hu]
     cases hd:o.dst with
     |none=>exact hst
     |some t=>
      obtain⟨F,β,h⟩:=hst
      exact⟨F,β,h.put (hdn t hd) .undef fun k hk=>by simp only[AV.aT]at hk⟩
    |true=>
     rw[if_pos rfl]
     refine .inl ?_
     obtain⟨⟨LKi,hLKi,hsem⟩,_⟩:=hS.Ov hr
     have hfreeL:∀z∈ups i,base i<=z.1.key->fZ (aI (cM ups) D (look H) ops.size) z.1.key:=by
      intro z hz hh1
      have hh2:=hupslt hlt z hz
      have all:∀h:Hd,h.key=z.1.key->aI (cM ups) D (look H) ops.size h= .free:=by
       intro h hzh
       rw[<-hzh]at hh1 hh2
       have:∀m,m<=ops.size->aI (cM ups) D (look H) m h= .free:=by
        intro m
        induction m with
        |zero=>
         intro _
         exact c7 (by rw[<-hb0];exact Nat.le_trans (hmono i qO 0 (Nat.zero_le _)) hh1)
        |succ m ihm=>
         intro hm
         have ihm:=ihm qO
         simp only[aI]
         cases hdm:D m with
         |false=>exact ihm
         |true=>
          simp only[cond_true,cM]
          have hne:m≠i:=fun e=>by rw[e,hDi]at hdm;cases hdm
          rw[du fun x hx e=>?_]
          ·exact ihm
          ·obtain⟨y,hy⟩:=hget m qO
           rcases Nat.lt_or_gt_of_ne hne with hmi|hmi
           ·have h1:=hupslt qO x hx
            have h2:=hmono i qO (m+1) qO
            omega
           ·rcases(hi' hy hmi hdm).2 with⟨_,hqy⟩|⟨_,_,hdis⟩
            ·have h1:=hupsge hy hqy x hx
             have h2:=hmono m qO (i+1) qO
             omega
            ·have:=hdis.1 z hz x hx
             omega
       exact this _ (Nat.le_refl _)
      exact⟨all (.t z.1.key) rfl,fun k=>all (.r z.1.key k) rfl⟩
     obtain⟨LK',hLK',hsem'⟩:∃LK':Hd->(aA->Prop)->Prop,(∀h K,LK' h K->K (aI (cM ups) D (look H) ops.size h))/\aR Γ P (fun _=>false) (W0 (aI (cv dst v) D (aP s) ops.size)) LK' (aI (cM ups) D (look H) ops.size) (base i) o.op (fun v' ups'=>v'=v i/\ups'=ups i):=by
      cases hq:fm o.op with
      |false=>rw[loud hq,loud hq];exact⟨LKi,hLKi,hsem⟩
      |true=>
       refine⟨i4 _,fun h K hk=>hk,?_⟩
       have hslot:∀x∈o.op.operands.toList,cL (aI (cv dst v) bg (aP s) i) x=cL (aI (cv dst v) D (aP s) ops.size) x:=fun x hx=>by
        cases x with
        |tmp t=>
         exact(slot t (by
          unfold Oper.looksAt
          refine List.mem_append_left _ ?_
          rw[List.mem_filterMap]
          exact⟨_,hx,rfl⟩)).symm
        |_=>rfl
       have core:∀h,oL o (aI (cv dst v) bg (aP s) i) (aI (cM ups) bg (look H) i) h->aI (cM ups) D (look H) ops.size h≠ .free->aI (cM ups) bg (look H) i h≠ .free->aI (cM ups) D (look H) ops.size h=aI (cM ups) bg (look H) i h:=by
        intro h hRD hne' hne
        have hlth:h.key<base i:=by
         rcases Nat.lt_or_ge h.key (base i)with h'|h'
         ·exact h'
         ·exact(hne (hS.free h h')).elim
        have high:∀m,m<=ops.size->i<=m->aI (cM ups) D (look H) m h=aI (cM ups) D (look H) i h:=by
         intro m
         induction m with
         |zero=>intro _ hm;rw[Nat.le_zero.1 hm]
         |succ m ihm=>
          intro hmn hm
          by_cases e:i=m+1
          ·rw[e]
          ·have ihm:=ihm qO qO
           simp only[aI]
           cases hdm:D m with
           |false=>exact ihm
           |true=>
            simp only[cond_true,cM]
            have hne:i≠m:=fun e=>by rw[e,hdm]at hDi;cases hDi
            obtain⟨y,hy⟩:=hget m qO
            rw[du fun x hx e=>?_]
            ·exact ihm
            ·rcases(hi' hy qO hdm).2 with⟨_,hqy⟩|⟨_,_,hdis⟩
             ·have h1:=hupsge hy hqy x hx
              have h2:=hmono m qO i qO
              omega
             ·exact hdis.2.2 hr x hx h hRD e
        have low:∀m,m<=i->aI (cM ups) D (look H) m h=aI (cM ups) bg (look H) m h\/aI (cM ups) D (look H) m h= .free:=by
         intro m
         induction m with
         |zero=>intro _;exact .inl rfl
         |succ m ihm=>
          intro hm
          have ihm:=ihm qO
          obtain⟨y,hy⟩:=hget m qO
          simp only[aI,bg,cond_true,cM]
          cases hdm:D m with
          |true=>
           simp only[cond_true]
           rcases yX (ups m) h with e|e
           ·rw[e,e];exact ihm
           ·exact .inl (e _ _)
          |false=>
           simp only[cond_false]
           rcases lo hy qO with⟨_,hf⟩|h'
           ·rcases hf with⟨hqm,_⟩|⟨_,_,hdis⟩
            ·by_cases hex:∃x∈ups m,x.1.key=h.key
             ·obtain⟨x,hx,e⟩:=hex
              have:=hupsge hy hqm x hx
              have hfr:=(hstp hy).free h qO
              rcases ihm with ihm|ihm
              ·exact .inr (ihm.trans hfr)
              ·exact .inr ihm
             ·have hex':∀x∈ups m,x.1.key≠h.key:=fun x hx e=>hex ⟨x,hx,e⟩
              rw[du hex']
              exact ihm
            ·have hex':∀x∈ups m,x.1.key≠h.key:=fun x hx e=>hdis.2.1 hr x hx h hRD e
             rw[du hex']
             exact ihm
           ·rw[hdm]at h';cases h'
        rw[high ops.size (Nat.le_refl _) qO]at hne'⊢
        rcases low i (Nat.le_refl _)with h|h
        ·exact h
        ·exact(hne' h).elim
       obtain⟨F,β,hst'⟩:=id hst
       refine rk hLKi hq hslot (fun hlk x hx h hm hne=>?_) hsem
       have zero:∀k,(cL (aI (cv dst v) D (aP s) ops.size) x).aT k->aI (cM ups) bg (look H) i k≠ .free->aI (cM ups) D (look H) ops.size k=aI (cM ups) bg (look H) i k:=fun k hk hne=>by
        refine core k ⟨hlk,x,hx,.inl (by rw[hslot x hx];exact hk)⟩ ?_ hne
        cases x with
        |tmp t=>exact hst'.ms t k hk
        |const c=>exact(zy c k hk).elim
        |global g=>simp only[cL,AV.aT]at hk
        |func f=>simp[cL,AV.aT,AV.bm]at hk
       have nfr:∀k j,(aI (cM ups) bg (look H) i k).aT j->aI (cM ups) bg (look H) i k≠ .free:=fun k j hj e=>by rw[e]at hj;exact hj.elim
       rcases hm with hm|⟨hdeep,hm⟩
       ·exact zero h hm hne
       have one:∀k j,(cL (aI (cv dst v) D (aP s) ops.size) x).aT k->(aI (cM ups) bg (look H) i k).aT j->aI (cM ups) bg (look H) i j≠ .free->aI (cM ups) D (look H) ops.size j=aI (cM ups) bg (look H) i j:=fun k j hk hj hne=>by
        refine core j ⟨hlk,x,hx,.inr ⟨hdeep,.inr (.inl ⟨k,by rw[hslot x hx];exact hk,hj⟩)⟩⟩ ?_ hne
        exact hst'.mb k j (by rw[zero k hk (nfr k j hj)];exact hj)
       rcases hm with hm|⟨k,h1,h2⟩|⟨k,k',h1,h2,h3⟩
       ·exact zero h hm hne
       ·exact one k h h1 h2 hne
       ·refine core h ⟨hlk,x,hx,.inr ⟨hdeep,.inr (.inr ⟨k,k',by rw[hslot x hx];exact h1,h2,h3⟩)⟩⟩ ?_ hne
        exact hst'.mb k' h (by rw[one k k' h1 h2 (nfr k' h h3)];exact h3)
     refine Oper.wp_mono ?_ (zN (E:=E) (n:=n) (wr:=fun _=>false) (W:=W0 _) (LK:=LK') (base:=base i) hΓ (fun x K h=>h) hLK' hst (fun v' u' hvu x hx hge=>?_) o hdn Q hsem')
     ·intro a' w' hafter
      obtain⟨v',u',⟨rfl,rfl⟩,hst'⟩:=hafter
      exact next a' w' hst'
     ·obtain⟨_,rfl⟩:=hvu
      exact hfreeL x hx hge
 refine key ops.size _ a w qS (fun j o hj=>?_) ?_ ?_
 ·simp[Array.getD_eq_getD_getElem?,Array.getElem?_replicate]at hj
  split at hj<;>simp at hj
 ·exact Nat.le_trans (List.length_filter_le _ _) qS
 ·have e:(fun j=>(Array.replicate ops.size false).getD j false)=fun _=>false:=by
   funext j
   simp[Array.getD_eq_getD_getElem?,Array.getElem?_replicate]
   split<;>rfl
  have z:∀{σ:Type} (app:σ->Nat->σ) (x:σ) (m:Nat),aI app (fun _=>false) x m=x:=by
   intro σ app x m
   induction m with
   |zero=>rfl
   |succ m ih=>exact ih
  rw[e,z,z]
  exact hst
theorem J1 (hΓ:gW P Γ) (ops:Array Oper) (hfit:nT n ops.toList=true) (hok:xo ops=true) (Q:Exit->Act->World->Prop) (K:Sl->Hp->Prop) (hQ:∀s H a w,K s H->St E n (aP s) (look H) a w->Q .normal a w)
  (s:Sl) (H:Hp) (a:Act) (w:World) (hk:mn Γ P ops ops.toList K s H) (hst:St E n (aP s) (look H) a w):wpAny P .any ops Q ops.size (Array.replicate ops.size false) a w:=by
 obtain⟨v,ups,base,run,hstp,s',H',hK,e1,e2,hb0⟩:=wG ops ops.toList K s H hk
 refine vT hΓ ops hfit (fun ho=>Cp hok ho) Q s H a w v ups base run hstp s' H' (fun a w h=>hQ s' H' a w hK h) e1 e2 hb0 (fun{i j x y} hx hy hij=>?_) hst
 rcases yQ hok hx hy hij with⟨h1,h2⟩|h
 ·exact .inl ⟨h1,.inl h2⟩
 ·exact .inr h
end
end
section
section
variable {Γ:oy}
theorem pf {t:TypeId} {F:TypeId->TI->TypeId->TI->Prop} (h:l5 Γ t F):∃kt ki et ei,F kt ki et ei/\∀G:TypeId->TI->TypeId->TI->Prop,G kt ki et ei->l5 Γ t G:=by
 unfold l5 at h⊢
 split at h
 ·rename_i i hi
  split at h
  ·rename_i k e hd
   split at h
   ·rename_i ki hki
    split at h
    ·rename_i ei hei
     exact⟨_,_,_,_,h,fun G hG=>hG⟩
    ·exact h.elim
   ·exact h.elim
  ·exact h.elim
 ·exact h.elim
theorem F8 {t:TypeId} {F G:TypeId->TI->TypeId->TI->Prop} (h:l5 Γ t F) (g:l5 Γ t G):l5 Γ t fun a b c d=>F a b c d/\G a b c d:=by
 unfold l5 at h g⊢
 cases h1:Γ t with
 |none=>rw[h1]at h;exact h.elim
 |some i=>
  rw[h1]at h g
  simp only at h g⊢
  cases h2:i.d with
  |map k e=>
   rw[h2]at h g
   simp only at h g⊢
   cases h3:Γ k with
   |none=>rw[h3]at h;exact h.elim
   |some ki=>
    rw[h3]at h g
    simp only at h g⊢
    cases h4:Γ e with
    |none=>rw[h4]at h;exact h.elim
    |some ei=>rw[h4]at h g;exact⟨h,g⟩
  |_=>rw[h2]at h;exact h.elim
theorem yg {cs:List AV} {F:List PV->Prop} {G0:List AV->Prop} (hG0:∀l,¬G0 l) (h:ij cs F G0):∃l,F l/\∀G:List PV->Prop,G l->ij cs G G0:=by
 induction cs generalizing F G0 with
 |nil=>exact⟨[],h,fun G hG=>hG⟩
 |cons c cs ih=>
  have other:(ij.rebuild cs fun l=>G0 (c::l))->∃l,F l/\∀G:List PV->Prop,G l->ij (c::cs) G G0:=fun h=>(hG0 _ (n7 (K:=fun l=>G0 (c::l)) h)).elim
  cases c with
  |p v=>
   obtain⟨l,h1,h2⟩:=ih (F:=fun l=>F (v::l)) (G0:=fun l=>G0 (.p v::l)) (fun l=>hG0 _) h
   exact⟨v::l,h1,fun G hG=>h2 (fun l=>G (v::l)) hG⟩
  |tf b=>
   obtain⟨l,h1,h2⟩:=ih (F:=fun l=>F (.bool b::l)) (G0:=fun l=>G0 (.tf b::l)) (fun l=>hG0 _) h
   exact⟨.bool b::l,h1,fun G hG=>h2 (fun l=>G (.bool b::l)) hG⟩
  |_=>exact other h
theorem xE {t:TypeId} {v:AV} {F:PV->Prop} (h:uO Γ t v F):∃p,F p/\∀G:PV->Prop,G p->uO Γ t v G:=by
 unfold uO at h⊢
 split at h
 ·exact⟨_,h,fun G hG=>hG⟩
 ·exact⟨_,h,fun G hG=>hG⟩
 ·split at h
  ·split at h
   ·exact⟨_,h,fun G hG=>hG⟩
   ·exact h.elim
  ·exact h.elim
 ·obtain⟨l,hl,hg⟩:=yg (fun _ h=>h) h
  exact⟨_,hl,fun G hG=>hg _ hG⟩
 ·obtain⟨l,hl,hg⟩:=yg (fun _ h=>h) h
  exact⟨_,hl,fun G hG=>hg _ hG⟩
 ·obtain⟨l,hl,hg⟩:=yg (fun _ h=>h) h
  exact⟨_,hl,fun G hG=>hg _ hG⟩
 ·exact h.elim
def KB (Γ:oy) (t:TypeId) (p:PV):Prop:=l5 Γ t fun _ ki _ _=>ki.ue p=true
theorem NF {p q:PV} (h:PV.iZ p q=false):PV.iZ q p=false:=by
 cases e:PV.iZ q p with
 |false=>rfl
 |true=>have:=Ie e;subst this;rw[e]at h;cases h
theorem Ac {L:Hd->aA} {LK:Hd->(aA->Prop)->Prop} (hLK:∀h K,LK h K->K (L h)) {t:TypeId} {h:Hd} {vk vx v:AV} {u:List (Hd×aA)} (hk:d6 Γ LK t (.map h) vk vx fun v' u'=>v'=v/\u'=u):
  ∃(key val:PV) (es1:List (PV×PV)),L h= .map es1/\v= .undef/\((u=[(h,.map (es1++[(key,val)]))]/\∀e∈es1,PV.iZ key e.1=false)\/∃es',u=[(h,.map es')]/\es'.length=es1.length)/\KB Γ t key/\
   ∀(L':Hd->aA) (es2:List (PV×PV)),L' h= .map es2->(∀e∈es2,KB Γ t e.1/\PV.iZ key e.1=false)->d6 Γ (i4 L') t (.map h) vk vx fun v' u'=>v'= .undef/\u'=[(h,.map (es2++[(key,val)]))]:=by
 unfold d6 at hk
 obtain⟨kt,ki,et,ei,hk,hm⟩:=pf hk
 obtain⟨key,hk,hkey⟩:=xE hk
 obtain⟨val,hk,hval⟩:=xE hk
 cases hb:ki.ue key with
 |false=>rw[hb]at hk;exact hk.elim
 |true=>
  rw[hb]at hk
  simp only[cond_true]at hk
  have hk:=hLK _ _ hk
  cases hB:L h with
  |map es=>
   rw[hB]at hk
   obtain⟨hks,hk⟩:=hk
   have regen:∀(L':Hd->aA) (es2:List (PV×PV)),L' h= .map es2->(∀e∈es2,KB Γ t e.1/\PV.iZ key e.1=false)->d6 Γ (i4 L') t (.map h) vk vx fun v' u'=>v'= .undef/\u'=[(h,.map (es2++[(key,val)]))]:=by
    intro L' es2 hL' he
    unfold d6
    refine hm _ (hkey _ (hval _ ?_))
    rw[hb]
    simp only[cond_true,i4,hL']
    refine⟨fun e hm'=>?_,.new _ (fun e hm'=>(he e hm').2) rfl qS⟩
    have:=(he e hm').1
    have:=F8 (hm (fun _ ki' _ _=>ki'=ki) rfl) this
    obtain⟨_,ki',_,_,⟨e1,e2⟩,_⟩:=pf this
    rw[<-e1];exact e2
   refine⟨key,val,es,rfl,?_,?_,hm _ hb,regen⟩
   ·cases hk with
    |iN i e es' h1 h2 h3 h4 hk=>exact hk.1.symm
    |new es' h1 h2 hk=>exact hk.1.symm
   ·cases hk with
    |iN i e es' h1 h2 h3 h4 hk=>exact .inr ⟨es',hk.2.symm,by rw[<-h4,List.length_set]⟩
    |new es' h1 h2 hk=>exact .inl ⟨by rw[h2];exact hk.2.symm,h1⟩
  |_=>rw[hB]at hk;exact hk.elim
end
theorem nM {ops:Array Oper} (h:ld ops=true) {i j:Nat} {x y:Oper} (hx:ops[i]?=some x) (hy:ops[j]?=some y) (hij:i<j):x.apart ops y=true\/∀D,gI ops.toList D->D j=true->D i=true:=by
 have hmx:(x,i)∈ops.toList.zipIdx:=by rw[List.mem_zipIdx_iff_getElem?];simpa using hx
 have hmy:(y,j)∈ops.toList.zipIdx:=by rw[List.mem_zipIdx_iff_getElem?];simpa using hy
 have:=List.all_eq_true.1 h _ hmy
 rw[Bool.and_eq_true]at this
 have h1:=List.all_eq_true.1 this.2 _ hmx
 have hlt:Nat.blt i j=true:=by simpa using hij
 simp only[hlt,Bool.not_true,Bool.false_or,Bool.or_eq_true,Bool.and_eq_true]at h1
 rcases h1 with⟨ha,_⟩|h1
 ·exact .inl ha
 ·exact .inr fun D hD hj=>tZ hD _ [] rfl (fun j hj=>absurd hj (Nat.not_lt_zero _)) j hj i h1
theorem je {ops:Array Oper} {D:Nat->Bool} {m:Nat}:gC ops D (m+1)=gC ops D m++(if(D m&&p5 ops m)=true then[m]else[]):=by
 unfold gC
 rw[List.range_succ,List.filter_append]
 congr 1
 by_cases h:(D m&&p5 ops m)=true
 ·simp[h]
 ·simp[h]
theorem kQ {ops:Array Oper} {D D':Nat->Bool}:∀{m:Nat},(∀k,k<m->p5 ops k=true->D k=D' k)->gC ops D m=gC ops D' m:=by
 intro m
 induction m with
 |zero=>intro _;rfl
 |succ m ih=>
  intro h
  rw[je,je,ih fun k hk=>h k qO]
  congr 1
  cases e:p5 ops m with
  |true=>rw[h m qO e]
  |false=>simp
theorem Av {ops:Array Oper} {D:Nat->Bool} {m k:Nat}:k∈gC ops D m↔k<m/\D k=true/\p5 ops k=true:=by
 unfold gC;rw[List.mem_filter,List.mem_range];simp
theorem Iy {ops:Array Oper} {D:Nat->Bool} {i:Nat} (hD:D i=false) (hI:p5 ops i=true):∀m,i<m->(gC ops (fS D i) m).Perm (gC ops D m++[i]):=by
 intro m
 induction m with
 |zero=>intro h;omega
 |succ m ih=>
  intro hm
  rw[je,je]
  by_cases e:i=m
  ·subst e
   rw[show fS D i i=true by simp[fS],hI,hD]
   rw[kQ (D':=D) fun k hk _=>by simp[fS];omega]
   simp
  ·have e2:fS D i m=D m:=by simp[fS];omega
   rw[e2]
   refine((ih qO).append_right _).trans ?_
   rw[List.append_assoc,List.append_assoc]
   exact List.Perm.append_left _ List.perm_append_comm
section
variable {P:Program} {Γ:oy} {E:Env} {n:Nat}
theorem Ju (hΓ:gW P Γ) (ops:Array Oper) (hfit:nT n ops.toList=true) (hox:ld ops=true) (Q:Exit->Act->World->Prop)
  (s:Sl) (H:Hp) (a:Act) (w:World) (v:Nat->AV) (ups:Nat->tO) (base:Nat->Nat) (run:Nat->Bool)
  (hstp:∀k o,ops.toList[k]?=some o->Cf P Γ ops o (aI (cv (fun k=>(ops.toList[k]?).bind (·.dst)) v) bg (aP s) k) (aI (cM ups) bg (look H) k) (base k) (base (k+1)) (v k) (ups k) (run k))
  (s':Sl) (H':Hp) (e1:aP s'=aI (cv (fun k=>(ops.toList[k]?).bind (·.dst)) v) bg (aP s) ops.toList.length) (e2:look H'=aI (cM ups) bg (look H) ops.toList.length) (hb0:base 0=H.length)
  (t0:TypeId) (h0:∃o,ops[0]?=some o/\o.op= .makeMap t0 none)
  (hop:∀k o,ops[k]?=some o->o.guard=none/\(k=0\/(∃m x y,o.op= .insert t0 m x y/\(ups k).map (fun x=>x.1.key)=[H.length]/\o.dst=none)\/(tx o.op=false/\fm o.op=true/\looks o.op=false/\ups k=[])))
  (esf:List (PV×PV)) (hes:look H' (.t H.length)= .map esf) (hn:esf.length=(gC ops bg ops.size).length)
  (hQ':∀es',es'.Perm esf->∀a w,St E n (aP s') (a8 (look H') (.t H.length) (.map es')) a w->Q .normal a w)
  (hst:St E n (aP s) (look H) a w):wpAny P .any ops Q ops.size (Array.replicate ops.size false) a w:=by
 rw[Array.length_toList]at e1 e2
 generalize hdst:(fun(k:Nat)=>(ops.toList[k]?).bind (fun(o:Oper)=>o.dst))=dst at hstp e1
 have hdst':∀{k:Nat} {o:Oper},ops[k]?=some o->dst k=o.dst:=fun{k o} h=>by rw[<-hdst];simp[h]
 have hstp:∀{k:Nat} {o:Oper},ops[k]?=some o->Cf P Γ ops o (aI (cv dst v) bg (aP s) k) (aI (cM ups) bg (look H) k) (base k) (base (k+1)) (v k) (ups k) (run k):=fun{k o} h=>hstp k o (by simpa using h)
 have hget:∀k,k<ops.size->∃o,ops[k]?=some o:=fun k hk=>⟨ops[k],by simp[hk]⟩
 have hdepF:∀{j:Nat} {o:Oper},ops[j]?=some o->∀e∈o.after.toList,Region.binds .any e=true->e.on<j:=fun ho=>rp hox ho
 have hmono:∀j,j<=ops.size->∀i,i<=j->base i<=base j:=by
  intro j
  induction j with
  |zero=>intro _ i hi;rw[Nat.le_zero.1 hi];exact Nat.le_refl _
  |succ j ih=>
   intro hj i hi
   by_cases e:i=j+1
   ·rw[e];exact Nat.le_refl _
   ·obtain⟨o,ho⟩:=hget j qO
    exact Nat.le_trans (ih qO i qO) (hstp ho).le
 have hrun:∀{k:Nat} {o:Oper},ops[k]?=some o->run k=true:=fun{k o} ho=>by
  have:=(hstp ho).guard
  rw[(hop k o ho).1]at this
  exact this
 obtain⟨o0,ho0,hm0⟩:=h0
 have hsz0:0<ops.size:=(Array.getElem?_eq_some_iff.1 ho0).1
 have bfree:∀h:Hd,h.key=H.length->look H h= .free:=fun h e=>c7 qO
 have hU0:ups 0=[(.t H.length,.map [])]:=by
  obtain⟨LKi,_,hsem⟩:=((hstp ho0).Ov (hrun ho0)).1
  rw[hm0,hb0]at hsem
  simp only[aR]at hsem
  obtain⟨_,_,_,_,hsem,_⟩:=pf hsem
  exact hsem.2.symm
 have hI0:p5 ops 0=false:=by unfold p5;rw[ho0];simp only[hm0];rfl
 have hb1:H.length<base 1:=by
  have:=(hstp ho0).lt (.t H.length,.map []) (by rw[hU0];simp)
  exact this
 have upd2:∀es es':List (PV×PV),a6 (a8 (look H) (.t H.length) (.map es)) [(.t H.length,.map es')]=a8 (look H) (.t H.length) (.map es'):=by
  intro es es'
  show a8 (a8 (look H) (.t H.length) (.map es)) (.t H.length) (.map es')=_
  funext h
  by_cases e:h= .t H.length
  ·rw[e,ah,ah]
  ·rw[aj _ _ e,aj _ _ e,aj _ _ e]
 have upd1:a6 (look H) [(.t H.length,.map [])]=a8 (look H) (.t H.length) (.map []):=rfl
 have ins:∀{k:Nat} {o:Oper} {es:List (PV×PV)},ops[k]?=some o->k≠0->tx o.op=true->aI (cM ups) bg (look H) k=a8 (look H) (.t H.length) (.map es)->
   ∃(m x y:Operand) (e:PV×PV),o.op= .insert t0 m x y/\o.dst=none/\cL (aI (cv dst v) bg (aP s) k) m= .map (.t H.length)/\v k= .undef/\KB Γ t0 e.1/\
    ((ups k=[(.t H.length,.map (es++[e]))]/\∀z∈es,PV.iZ e.1 z.1=false)\/∃es',ups k=[(.t H.length,.map es')]/\es'.length=es.length)/\
    ∀(L':Hd->aA) (es2:List (PV×PV)),L' (.t H.length)= .map es2->(∀z∈es2,KB Γ t0 z.1/\PV.iZ e.1 z.1=false)->
     d6 Γ (i4 L') t0 (.map (.t H.length)) (cL (aI (cv dst v) bg (aP s) k) x) (cL (aI (cv dst v) bg (aP s) k) y) fun v' u'=>v'= .undef/\u'=[(.t H.length,.map (es2++[e]))]:=by
  intro k o es ho hk0 hI hL
  obtain⟨m,x,y,hox',hkeys,hd⟩:∃m x y,o.op= .insert t0 m x y/\(ups k).map (fun x=>x.1.key)=[H.length]/\o.dst=none:=by
   rcases(hop k o ho).2 with h|h|h
   ·exact(hk0 h).elim
   ·exact h
   ·rw[hI]at h;cases h.1
  obtain⟨LKi,hLKi,hsem⟩:=((hstp ho).Ov (hrun ho)).1
  rw[hox']at hsem
  simp only[aR,W0]at hsem
  generalize hvmr:cL (aI (cv dst v) bg (aP s) k) m=vm at hsem
  have hvm:∃h,vm= .map h:=by
   have hs2:=hsem
   unfold d6 at hs2
   obtain⟨_,ki,_,_,hs2,_⟩:=pf hs2
   obtain⟨key,hs2,_⟩:=xE hs2
   obtain⟨val,hs2,_⟩:=xE hs2
   cases hb:ki.ue key with
   |false=>rw[hb]at hs2;exact hs2.elim
   |true=>
    rw[hb]at hs2
    simp only[cond_true]at hs2
    split at hs2
    ·exact⟨_,rfl⟩
    ·exact hs2.elim
  obtain⟨h,rfl⟩:=hvm
  obtain⟨key,val,es1,hL1,hv,hu,hkb,hre⟩:=Ac hLKi hsem
  have hh:h= .t H.length:=by
   have hkey:h.key=H.length:=by
    rcases hu with⟨hu,_⟩|⟨_,hu,_⟩<;>rw[hu]at hkeys<;>simpa using hkeys
   by_cases e:h= .t H.length
   ·exact e
   ·rw[hL,aj _ _ e,bfree h hkey]at hL1;cases hL1
  subst hh
  have he1:es1=es:=by rw[hL,ah]at hL1;cases hL1;rfl
  subst he1
  exact⟨m,x,y,(key,val),hox',hd,hvmr,hv,hkb,hu,hre⟩
 have stay:∀{k:Nat} {o:Oper},ops[k]?=some o->k≠0->tx o.op=false->ups k=[]:=fun{k o} ho hk0 hI=>by
  rcases(hop k o ho).2 with h|⟨_,_,_,h,_⟩|h
  ·exact(hk0 h).elim
  ·rw[h]at hI;cases hI
  ·exact h.2.2.2
 have isI_of:∀{k:Nat} {o:Oper},ops[k]?=some o->p5 ops k=tx o.op:=fun{k o} ho=>by unfold p5;rw[ho]
 have stepU:∀{k:Nat},aI (cM ups) bg (look H) (k+1)=a6 (aI (cM ups) bg (look H) k) (ups k):=rfl
 have T1:∀m,1<=m->m<=ops.size->∃es,aI (cM ups) bg (look H) m=a8 (look H) (.t H.length) (.map es):=by
  intro m
  induction m with
  |zero=>intro h;omega
  |succ m ih=>
   intro _ hm
   by_cases hm0':m=0
   ·subst hm0'
    exact⟨[],by rw[stepU,hU0];exact upd1⟩
   ·obtain⟨es,hes⟩:=ih qO qO
    obtain⟨o,ho⟩:=hget m qO
    rw[stepU]
    cases hI:tx o.op with
    |false=>rw[stay ho hm0' hI];exact⟨es,hes⟩
    |true=>
     obtain⟨_,_,_,e,_,_,_,_,_,hu,_⟩:=ins ho hm0' hI hes
     rcases hu with⟨hu,_⟩|⟨es',hu,_⟩
     ·exact⟨es++[e],by rw[hu,hes];exact upd2 _ _⟩
     ·exact⟨es',by rw[hu,hes];exact upd2 _ _⟩
 obtain⟨esT,hesT⟩:∃esT:Nat->List (PV×PV),∀m,1<=m->m<=ops.size->aI (cM ups) bg (look H) m=a8 (look H) (.t H.length) (.map (esT m)):=by
  refine⟨fun m=>match aI (cM ups) bg (look H) m (.t H.length)with| .map es=>es|_=>[],fun m h1 h2=>?_⟩
  obtain⟨es,hes⟩:=T1 m h1 h2
  simp only[hes,ah]
 have esT_det:∀{m:Nat} {es:List (PV×PV)},1<=m->m<=ops.size->aI (cM ups) bg (look H) m=a8 (look H) (.t H.length) (.map es)->esT m=es:=fun{m es} h1 h2 h=>by
  have:=hesT m h1 h2
  rw[h]at this
  have:=congrFun this (.t H.length)
  rw[ah,ah]at this
  cases this;rfl
 have esT1:esT 1=[]:=esT_det (Nat.le_refl _) hsz0 (by rw[stepU,hU0];exact upd1)
 have esTf:esT ops.size=esf:=esT_det hsz0 (Nat.le_refl _) (by
  have:=hesT ops.size hsz0 (Nat.le_refl _)
  rw[e2]at hes
  rw[this,ah]at hes
  cases hes;exact this)
 have T3:∀k,k≠0->k<ops.size->p5 ops k=false->esT (k+1)=esT k:=fun k hk0 hk hI=>by
  obtain⟨o,ho⟩:=hget k hk
  rw[isI_of ho]at hI
  exact esT_det qO qO (by rw[stepU,stay ho hk0 hI];exact hesT k qO qO)
 have T2:∀k,k≠0->k<ops.size->p5 ops k=true->∃e:PV×PV,((esT (k+1)=esT k++[e]/\∀z∈esT k,PV.iZ e.1 z.1=false)\/(esT (k+1)).length=(esT k).length)/\KB Γ t0 e.1/\
   ∃(o:Oper) (m x y:Operand),ops[k]?=some o/\o.op= .insert t0 m x y/\o.dst=none/\cL (aI (cv dst v) bg (aP s) k) m= .map (.t H.length)/\v k= .undef/\
    ∀(L':Hd->aA) (es2:List (PV×PV)),L' (.t H.length)= .map es2->(∀z∈es2,KB Γ t0 z.1/\PV.iZ e.1 z.1=false)->
     d6 Γ (i4 L') t0 (.map (.t H.length)) (cL (aI (cv dst v) bg (aP s) k) x) (cL (aI (cv dst v) bg (aP s) k) y) fun v' u'=>v'= .undef/\u'=[(.t H.length,.map (es2++[e]))]:=fun k hk0 hk hI=>by
  obtain⟨o,ho⟩:=hget k hk
  rw[isI_of ho]at hI
  obtain⟨m,x,y,e,h1,h2,h3,h4,h5,hu,h6⟩:=ins ho hk0 hI (hesT k qO qO)
  refine⟨e,?_,h5,o,m,x,y,ho,h1,h2,h3,h4,h6⟩
  rcases hu with⟨hu,hne⟩|⟨es',hu,hl⟩
  ·exact .inl ⟨esT_det qO qO (by rw[stepU,hu,hesT k qO qO];exact upd2 _ _),hne⟩
  ·refine .inr ?_
   rw[esT_det (m:=k+1) (es:=es') qO qO (by rw[stepU,hu,hesT k qO qO];exact upd2 _ _)]
   exact hl
 have lenS:∀k,k≠0->k<ops.size->(esT (k+1)).length<=(esT k).length+(if p5 ops k=true then 1 else 0):=fun k hk0 hk=>by
  cases hI:p5 ops k with
  |false=>rw[T3 k hk0 hk hI];simp
  |true=>
   obtain⟨e,h,_⟩:=T2 k hk0 hk hI
   rcases h with⟨h,_⟩|h
   ·rw[h];simp
   ·rw[h];simp
 have cntS:∀k,(gC ops bg (k+1)).length=(gC ops bg k).length+(if p5 ops k=true then 1 else 0):=fun k=>by
  rw[je,List.length_append]
  cases hI:p5 ops k<;>simp[bg]
 have lenA:∀m,1<=m->m<=ops.size->(esT m).length<=(gC ops bg m).length:=by
  intro m
  induction m with
  |zero=>intro h;omega
  |succ m ih=>
   intro _ hm
   by_cases hm0':m=0
   ·subst hm0';rw[esT1];exact Nat.zero_le _
   ·have:=lenS m hm0' qO
    have:=ih qO qO
    have:=cntS m
    omega
 have lenB:∀d m,1<=m->m+d=ops.size->(gC ops bg ops.size).length<=(esT m).length+((gC ops bg ops.size).length-(gC ops bg m).length):=by
  intro d
  induction d with
  |zero=>
   intro m h1 h;obtain rfl:m=ops.size:=qO
   rw[esTf,hn];omega
  |succ d ih=>
   intro m h1 h
   have h3:=ih (m+1) qO qO
   have h4:=lenS m qO qO
   have h5:=cntS m
   have h6:(gC ops bg (m+1)).length<=(gC ops bg ops.size).length:=by
    have:∀j,m+1<=j->(gC ops bg (m+1)).length<=(gC ops bg j).length:=by
     intro j
     induction j with
     |zero=>intro h;omega
     |succ j ihj=>
      intro h
      by_cases e:m+1=j+1
      ·rw[e];exact Nat.le_refl _
      ·have:=ihj qO
       have:=cntS j
       omega
    exact this _ qO
   omega
 have allNew:∀k,k≠0->k<ops.size->p5 ops k=true->(esT (k+1)).length≠(esT k).length:=fun k hk0 hk hI e=>by
  have h1:=lenA k qO qO
  have h2:=lenB (ops.size-(k+1)) (k+1) qO qO
  have h3:=cntS k
  rw[hI,if_pos rfl]at h3
  have h6:(gC ops bg (k+1)).length<=(gC ops bg ops.size).length:=by
   have:∀j,k+1<=j->(gC ops bg (k+1)).length<=(gC ops bg j).length:=by
    intro j
    induction j with
    |zero=>intro h;omega
    |succ j ihj=>
     intro h
     by_cases e:k+1=j+1
     ·rw[e];exact Nat.le_refl _
     ·have:=ihj qO
      have:=cntS j
      omega
   exact this _ qO
  omega
 have hI00:∀k,p5 ops k=true->k≠0:=fun k h e=>by rw[e,hI0]at h;cases h
 obtain⟨en,hen⟩:∃en:Nat->PV×PV,∀k,k<ops.size->p5 ops k=true->(esT (k+1)=esT k++[en k]/\∀z∈esT k,PV.iZ (en k).1 z.1=false)/\KB Γ t0 (en k).1/\
   ∃(o:Oper) (m x y:Operand),ops[k]?=some o/\o.op= .insert t0 m x y/\o.dst=none/\cL (aI (cv dst v) bg (aP s) k) m= .map (.t H.length)/\v k= .undef/\
    ∀(L':Hd->aA) (es2:List (PV×PV)),L' (.t H.length)= .map es2->(∀z∈es2,KB Γ t0 z.1/\PV.iZ (en k).1 z.1=false)->
     d6 Γ (i4 L') t0 (.map (.t H.length)) (cL (aI (cv dst v) bg (aP s) k) x) (cL (aI (cv dst v) bg (aP s) k) y) fun v' u'=>v'= .undef/\u'=[(.t H.length,.map (es2++[en k]))]:=by
  classical
  refine⟨fun k=>if h:k<ops.size/\p5 ops k=true then(T2 k (hI00 k h.2) h.1 h.2).choose else(.bool false,.bool false),fun k hk hI=>?_⟩
  simp only[dif_pos (And.intro hk hI)]
  have hs:=(T2 k (hI00 k hI) hk hI).choose_spec
  exact⟨hs.1.resolve_right (allNew k (hI00 k hI) hk hI),hs.2⟩
 have T4:∀m,1<=m->m<=ops.size->esT m=(gC ops bg m).map en:=by
  intro m
  induction m with
  |zero=>intro h;omega
  |succ m ih=>
   intro _ hm
   rw[je,List.map_append]
   by_cases hm0':m=0
   ·subst hm0';rw[esT1,hI0];rfl
   ·rw[<-ih qO qO]
    cases hI:p5 ops m with
    |false=>rw[T3 m hm0' qO hI];simp
    |true=>rw[(hen m qO hI).1.1];simp[bg]
 have apart:∀j k,j<k->k<ops.size->p5 ops j=true->p5 ops k=true->PV.iZ (en k).1 (en j).1=false:=fun j k hjk hk hj hkI=>by
  refine(hen k hk hkI).1.2 _ ?_
  rw[T4 k qO qO]
  exact List.mem_map.2 ⟨j,Av.2 ⟨hjk,rfl,hj⟩,rfl⟩
 have apart2:∀j k,j≠k->j<ops.size->k<ops.size->p5 ops j=true->p5 ops k=true->PV.iZ (en k).1 (en j).1=false:=fun j k hne hj hk hjI hkI=>by
  rcases Nat.lt_or_gt_of_ne hne with h|h
  ·exact apart j k h hk hjI hkI
  ·exact NF (apart k j h hj hkI hjI)
 let Inv:(Nat->Bool)->Act->World->Prop:=fun D a w=>∃es:List (PV×PV),es.Perm ((gC ops D ops.size).map en)/\(D 0=false->es=[])/\St E n (aI (cv dst v) D (aP s) ops.size) (bif D 0 then a8 (look H) (.t H.length) (.map es)else look H) a w
 have done:∀(D:Nat->Bool) (a:Act) (w:World),(∀i,i<ops.size->D i=true)->Inv D a w->Q .normal a w:=by
  intro D a w hD ⟨es,hp,_,hst⟩
  rw[hD 0 hsz0,cond_true,iL (D':=bg) ops.size fun j hj=>hD j hj,<-e1]at hst
  rw[kQ (D':=bg) fun k hk _=>hD k hk,<-T4 ops.size hsz0 (Nat.le_refl _),esTf]at hp
  refine hQ' es hp a w ?_
  rw[e2,hesT ops.size hsz0 (Nat.le_refl _)]
  have:a8 (a8 (look H) (.t H.length) (.map (esT ops.size))) (.t H.length) (.map es)=a8 (look H) (.t H.length) (.map es):=upd2 _ _
  rw[this];exact hst
 have key:∀(fuel:Nat) (listed:Array Bool) (a:Act) (w:World),listed.size=ops.size->gI ops.toList (fun j=>listed.getD j false)->((List.range ops.size).filter fun i=> !listed.getD i false).length<=fuel->
   Inv (fun j=>listed.getD j false) a w->wpAny P .any ops Q fuel listed a w:=by
  intro fuel
  induction fuel with
  |zero=>
   intro listed a w hsz hcl hcnt hst
   have hall:∀i,i<ops.size->listed.getD i false=true:=fun i hi=>by
    have:=List.eq_nil_of_length_eq_zero (Nat.le_zero.1 hcnt)
    rw[List.filter_eq_nil_iff]at this
    simpa using this i (List.mem_range.2 hi)
   refine⟨?_,done _ a w hall hst⟩
   unfold Region.ready
   rw[List.filter_eq_nil_iff]
   intro i hi
   have hi:=List.mem_range.1 hi
   have:=hall i hi
   have e:listed.getD i true=true:=by simpa[Array.getD,hsz,hi]using this
   simp[e]
  |succ fuel ih=>
   intro listed a w hsz hcl hcnt hst
   refine⟨fun hnil=>?_,fun i hi=>?_⟩
   ·refine done _ a w (fun i=>?_) hst
    induction i using Nat.strongRecOn with
    |_ i ihs=>
     intro hi
     cases hd:listed.getD i false with
     |true=>rfl
     |false=>
      exfalso
      obtain⟨o,ho⟩:=hget i hi
      have:i∈Region.ready .any ops listed:=by
       unfold Region.ready
       rw[List.mem_filter]
       refine⟨List.mem_range.2 hi,?_⟩
       have e:listed.getD i true=false:=by simpa[Array.getD,hsz,hi]using hd
       rw[e,ho]
       simp only[Bool.not_false,Option.map_some,Option.getD_some,Bool.true_and]
       rw[<-Array.all_toList,List.all_eq_true]
       intro e he
       cases hb:Region.binds .any e with
       |false=>rfl
       |true=>
        have hlt:=hdepF ho e he hb
        have hd:=ihs e.on hlt qO
        rw[hd];rfl
      rw[hnil]at this
      simp at this
   ·
    unfold Region.ready at hi
    rw[List.mem_filter]at hi
    obtain⟨hlt,hi⟩:=hi
    have hlt:=List.mem_range.1 hlt
    obtain⟨o,ho⟩:=hget i hlt
    rw[ho]at hi
    simp only[Option.map_some,Option.getD_some,Bool.and_eq_true]at hi
    obtain⟨hi1,hi2⟩:=hi
    generalize hD:(fun j=>listed.getD j false)=D at hcl hst
    have hDi:D i=false:=by
     rw[<-hD]
     have:listed.getD i true=false:=by simpa using hi1
     simpa[Array.getD,hsz,hlt]using this
    have hdep:∀e∈o.after.toList,Region.binds .any e=true->D e.on=true:=fun e he hb=>by
     rw[<-Array.all_toList,List.all_eq_true]at hi2
     have:=hi2 e he
     rw[hb]at this
     rw[<-hD];simpa using this
    have hD':(fun j=>(listed.setIfInBounds i true).getD j false)=fS D i:=by
     funext j
     rw[<-hD]
     by_cases e:j=i
     ·subst e;rw[km];simp[Array.getD,hsz,hlt]
     ·rw[jI e]
      simp only[Array.getD_eq_getD_getElem?,Array.getElem?_setIfInBounds_ne (fun h=>e h.symm)]
    have hcl':gI ops.toList (fS D i):=by
     intro j oj hj hoj e he hb
     by_cases hji:j=i
     ·subst hji
      have:oj=o:=by
       have h1:ops[j]?=some oj:=by simpa using hoj
       rw[ho]at h1;cases h1;rfl
      subst this
      simp[fS,hdep e he hb]
     ·rw[jI hji]at hj
      simp[fS,hcl j oj hj hoj e he hb]
    have lo:∀{j:Nat} {x:Oper},ops[j]?=some x->j<i->x.apart ops o=true\/D j=true:=fun{j x} hx hji=>by
     rcases nM hox hx ho hji with h|h
     ·exact .inl h
     ·have:=h _ hcl' km
      rw[jI qO]at this
      exact .inr this
    have hi':∀{j:Nat} {x:Oper},ops[j]?=some x->i<j->D j=true->o.apart ops x=true:=fun{j x} hx hij hj=>by
     rcases nM hox ho hx hij with h|h
     ·exact h
     ·rw[h _ hcl hj]at hDi;cases hDi
    have slot:∀t,t∈o.looksAt ops->aI (cv dst v) D (aP s) ops.size t=aI (cv dst v) bg (aP s) i t:=by
     intro t ht
     have low:∀m,m<=i->aI (cv dst v) D (aP s) m t=aI (cv dst v) bg (aP s) m t:=by
      intro m
      induction m with
      |zero=>intro _;rfl
      |succ m ihm=>
       intro hm
       have ihm:=ihm qO
       simp only[aI,bg,cond_true]
       cases hdm:D m with
       |true=>
        simp only[cond_true]
        by_cases e:dst m=some t
        ·simp only[cv,e,ji]
        ·simp only[cv];rw[cQ e,cQ e];exact ihm
       |false=>
        simp only[cond_false]
        have:dst m≠some t:=fun e=>by
         obtain⟨x,hx⟩:=hget m qO
         rw[hdst' hx]at e
         rcases lo hx qO with h|h
         ·exact(Oper.apart_spec h).1 t e ht
         ·rw[hdm]at h;cases h
        simp only[cv]
        rw[cQ this];exact ihm
     have high:∀m,m<=ops.size->i<=m->aI (cv dst v) D (aP s) m t=aI (cv dst v) D (aP s) i t:=by
      intro m
      induction m with
      |zero=>intro _ hm;rw[Nat.le_zero.1 hm]
      |succ m ihm=>
       intro hmn hm
       by_cases e:i=m+1
       ·rw[e]
       ·have ihm:=ihm qO qO
        simp only[aI]
        cases hdm:D m with
        |false=>exact ihm
        |true=>
         simp only[cond_true,cv]
         have hne:i≠m:=fun e=>by rw[e,hdm]at hDi;cases hDi
         obtain⟨x,hx⟩:=hget m qO
         rw[cQ fun e=>by
          rw[hdst' hx]at e
          exact(Oper.apart_spec (hi' hx qO hdm)).2.2 t e ht]
         exact ihm
     rw[high ops.size (Nat.le_refl _) qO,low i (Nat.le_refl _)]
    have next:∀a' w' (es':List (PV×PV)),es'.Perm ((gC ops (fS D i) ops.size).map en)->(fS D i 0=false->es'=[])->St E n (jG (aI (cv dst v) D (aP s) ops.size) o.dst (v i)) (bif fS D i 0 then a8 (look H) (.t H.length) (.map es')else look H) a' w'->wpAny P .any ops Q fuel (listed.setIfInBounds i true) a' w':=by
     intro a' w' es' hp' h0' hst'
     refine ih _ a' w' (by simpa using hsz) (by rw[hD'];exact hcl') ?_ ?_
     ·have hsub:((List.range ops.size).filter fun j=> !(listed.setIfInBounds i true).getD j false).length<((List.range ops.size).filter fun j=> !listed.getD j false).length:=by
       have e1:(fun j=> !(listed.setIfInBounds i true).getD j false)=fun j=>(!listed.getD j false)&& !(Nat.beq j i):=by
        funext j
        have this:(listed.setIfInBounds i true).getD j false=fS D i j:=congrFun hD' j
        rw[this,<-hD]
        simp[fS]
       rw[e1,<-List.countP_eq_length_filter,<-List.countP_eq_length_filter]
       have strict:∀(l:List Nat),i∈l->List.countP (fun j=>(!listed.getD j false)&& !(Nat.beq j i)) l<List.countP (fun j=> !listed.getD j false) l:=by
        have w8:∀(l:List Nat),List.countP (fun j=>(!listed.getD j false)&& !(Nat.beq j i)) l<=List.countP (fun j=> !listed.getD j false) l:=fun l=>
         List.countP_mono_left fun x _ h=>by simp only[Bool.and_eq_true]at h;exact h.1
        have hno:listed.getD i false=false:=(congrFun hD i).trans hDi
        intro l
        induction l with
        |nil=>intro h;simp at h
        |cons x l ihl=>
         intro h
         rw[List.countP_cons,List.countP_cons]
         by_cases e:x=i
         ·subst e
          have:=w8 l
          have hb:Nat.beq x x=true:=qS
          rw[hno,hb]
          simp only[Bool.not_false,Bool.not_true,Bool.and_false,if_true,Bool.false_eq_true,if_false]
          omega
         ·have:=ihl (by rcases List.mem_cons.1 h with h|h;exact(e h.symm).elim;exact h)
          rw[Bq e]
          simp only[Bool.not_false,Bool.and_true]
          split<;>omega
       exact strict _ (List.mem_range.2 hlt)
      omega
     ·rw[hD']
      refine⟨es',hp',h0',?_⟩
      rw[qv hDi ops.size hlt]
      ·simp only[cv]
       rw[hdst' ho]
       exact hst'
      ·intro j hij hjn hj y
       obtain⟨x,hx⟩:=hget j hjn
       simp only[cv]
       refine wm fun t ht=>?_
       rw[hdst' hx]
       rw[hdst' ho]at ht
       exact(Oper.apart_spec (hi' hx hij hj)).2.1 t ht
    have hdn:∀t,o.dst=some t->t<n:=fun t ht=>by
     have hm:o∈ops.toList:=List.mem_of_getElem? (by simpa using ho:ops.toList[i]?=some o)
     have:=List.all_eq_true.1 hfit o hm
     rw[ht]at this
     simpa using this
    have hwant:Region.wanted o (yielded ops a.tmps)=true:=by simp[Region.wanted,(hop i o ho).1]
    unfold wpOp
    rw[ho]
    simp only
    rw[hwant,if_pos rfl]
    refine .inl ?_
    obtain⟨⟨LKi,hLKi,hsem⟩,_⟩:=((hstp ho).Ov (hrun ho))
    have hslot:∀x∈o.op.operands.toList,cL (aI (cv dst v) bg (aP s) i) x=cL (aI (cv dst v) D (aP s) ops.size) x:=fun x hx=>by
     cases x with
     |tmp t=>
      exact(slot t (by
       unfold Oper.looksAt
       refine List.mem_append_left _ ?_
       rw[List.mem_filterMap]
       exact⟨_,hx,rfl⟩)).symm
     |_=>rfl
    obtain⟨es,hp,hes0,hstD⟩:=hst
    by_cases hi0:i=0
    ·
     subst hi0
     obtain rfl:o=o0:=by rw[ho]at ho0;cases ho0;rfl
     rw[hDi,cond_false]at hstD
     have hes0:=hes0 hDi
     have hsem':aR Γ P (fun _=>false) (W0 (aI (cv dst v) D (aP s) ops.size)) (i4 (look H)) (look H) (base 0) o.op (fun v' ups'=>v'=v 0/\ups'=ups 0):=by
      rw[hm0]at hsem⊢
      simp only[aR]at hsem⊢
      exact hsem
     refine Oper.wp_mono ?_ (zN (E:=E) (n:=n) (wr:=fun _=>false) (W:=W0 _) (LK:=i4 _) (base:=base 0) hΓ (fun x K h=>h) (fun h K hk=>hk) hstD (fun v' u' hvu x hx hge=>?_) o hdn Q hsem')
     ·intro a' w' hafter
      obtain⟨v',u',⟨rfl,rfl⟩,hst'⟩:=hafter
      refine next a' w' [] ?_ (fun _=>rfl) ?_
      ·rw[kQ (D':=D) fun k hk hkI=>by
        have:=hI00 k hkI
        simp[fS];omega]
       rw[hes0]at hp;exact hp
      ·rw[show fS D 0 0=true by simp[fS],cond_true]
       rw[hU0]at hst'
       exact hst'
     ·obtain⟨_,rfl⟩:=hvu
      rw[hU0]at hx
      obtain rfl:x=(.t H.length,.map []):=by simpa using hx
      exact⟨bfree _ rfl,fun k=>bfree _ rfl⟩
    ·have h00:fS D i 0=D 0:=by simp[fS];omega
     cases hI:p5 ops i with
     |true=>
      obtain⟨⟨hnew,hne⟩,hkb,o',m,x,y,ho',hox',hd',hmr,hv,hre⟩:=hen i hlt hI
      obtain rfl:o'=o:=by rw[ho]at ho';cases ho';rfl
      have hmD:cL (aI (cv dst v) D (aP s) ops.size) m= .map (.t H.length):=by rw[<-hslot m (by rw[hox'];simp[Op.operands])];exact hmr
      have hD0:D 0=true:=by
       cases h:D 0 with
       |true=>rfl
       |false=>
        rw[h,cond_false]at hstD
        obtain⟨F,β,hst'⟩:=hstD
        have:=hst'.AN m (.t H.length) (by rw[hmD];rfl)
        exact(this (bfree _ rfl)).elim
      rw[hD0,cond_true]at hstD
      have hsem':aR Γ P (fun _=>false) (W0 (aI (cv dst v) D (aP s) ops.size)) (i4 (a8 (look H) (.t H.length) (.map es))) (a8 (look H) (.t H.length) (.map es)) (base i) o'.op (fun v' ups'=>v'= .undef/\ups'=[(.t H.length,.map (es++[en i]))]):=by
       rw[hox']
       simp only[aR,W0]
       rw[hmD,<-hslot x (by rw[hox'];simp[Op.operands]),<-hslot y (by rw[hox'];simp[Op.operands])]
       refine hre _ es (ah _ _ _) fun z hz=>?_
       have hz:=hp.mem_iff.1 hz
       obtain⟨k,hk,rfl⟩:=List.mem_map.1 hz
       obtain⟨hk1,hk2,hk3⟩:=Av.1 hk
       exact⟨(hen k hk1 hk3).2.1,apart2 k i (fun e=>by rw[e,hDi]at hk2;cases hk2) hk1 hlt hk3 hI⟩
      refine Oper.wp_mono ?_ (zN (E:=E) (n:=n) (wr:=fun _=>false) (W:=W0 _) (LK:=i4 _) (base:=base i) hΓ (fun x K h=>h) (fun h K hk=>hk) hstD (fun v' u' hvu x hx hge=>?_) o' hdn Q hsem')
      ·intro a' w' hafter
       obtain⟨v',u',⟨rfl,rfl⟩,hst'⟩:=hafter
       refine next a' w' (es++[en i]) ?_ (fun h=>by rw[h00,hD0]at h;cases h) ?_
       ·refine(hp.append_right _).trans ?_
        refine List.Perm.symm ?_
        have:=(Iy hDi hI ops.size hlt).map en
        rw[List.map_append]at this
        exact this
       ·rw[h00,hD0,cond_true,hv]
        rw[upd2]at hst'
        exact hst'
      ·obtain⟨_,rfl⟩:=hvu
       obtain rfl:x=(.t H.length,.map (es++[en i])):=by simpa using hx
       have:=hmono i qO 1 qO
       have hge:base i<=H.length:=hge
       omega
     |false=>
      have hIo:tx o.op=false:=by rw[<-isI_of ho];exact hI
      obtain⟨hq,hlk,hu⟩:fm o.op=true/\looks o.op=false/\ups i=[]:=by
       rcases(hop i o ho).2 with h|⟨_,_,_,h,_⟩|h
       ·exact(hi0 h).elim
       ·rw[h]at hIo;cases hIo
       ·exact h.2
      have hsem':=rk (L':=bif D 0 then a8 (look H) (.t H.length) (.map es)else look H) hLKi hq hslot (fun h=>by rw[hlk]at h;cases h) hsem
      refine Oper.wp_mono ?_ (zN (E:=E) (n:=n) (wr:=fun _=>false) (W:=W0 _) (LK:=i4 _) (base:=base i) hΓ (fun x K h=>h) (fun h K hk=>hk) hstD (fun v' u' hvu x hx hge=>?_) o hdn Q hsem')
      ·intro a' w' hafter
       obtain⟨v',u',⟨rfl,rfl⟩,hst'⟩:=hafter
       rw[hu]at hst'
       refine next a' w' es ?_ (fun h=>hes0 (by rw[<-h00];exact h)) ?_
       ·rw[kQ (D':=D) fun k hk hkI=>by
         have:k≠i:=fun e=>by rw[e,hI]at hkI;cases hkI
         simp[fS];omega]
        exact hp
       ·rw[h00];exact hst'
      ·obtain⟨_,rfl⟩:=hvu
       rw[hu]at hx;simp at hx
 refine key ops.size _ a w qS (fun j o hj=>?_) ?_ ?_
 ·simp[Array.getD_eq_getD_getElem?,Array.getElem?_replicate]at hj
  split at hj<;>simp at hj
 ·exact Nat.le_trans (List.length_filter_le _ _) qS
 ·have e:(fun j=>(Array.replicate ops.size false).getD j false)=fun _=>false:=by
   funext j
   simp[Array.getD_eq_getD_getElem?,Array.getElem?_replicate]
   split<;>rfl
  have z:∀{σ:Type} (app:σ->Nat->σ) (x:σ) (m:Nat),aI app (fun _=>false) x m=x:=by
   intro σ app x m
   induction m with
   |zero=>rfl
   |succ m ih=>exact ih
  rw[e]
  refine⟨[],?_,fun _=>rfl,?_⟩
  ·rw[show gC ops (fun _=>false) ops.size=[]from List.filter_eq_nil_iff.2 fun k _=>qS];exact List.Perm.refl _
  ·rw[z];exact hst
theorem K3 (hΓ:gW P Γ) (ops:Array Oper) (hfit:nT n ops.toList=true) (Q:Exit->Act->World->Prop) (K:Sl->Hp->Prop) (hQ:∀s H a w,K s H->St E n (aP s) (look H) a w->Q .normal a w)
  (s:Sl) (H:Hp) (a:Act) (w:World) (v:Nat->AV) (ups:Nat->tO) (base:Nat->Nat) (run:Nat->Bool)
  (hstp:∀k o,ops.toList[k]?=some o->Cf P Γ ops o (aI (cv (fun k=>(ops.toList[k]?).bind (·.dst)) v) bg (aP s) k) (aI (cM ups) bg (look H) k) (base k) (base (k+1)) (v k) (ups k) (run k))
  (s':Sl) (H':Hp) (acc:Acc) (hlen:acc.length=ops.toList.length) (hlit:zH ops acc=true) (hK:I8 ops acc H' fun H=>K s' H) (hacc:∀k o,ops.toList[k]?=some o->∃rd,acc[k]?=some (rd,(ups k).map fun x=>x.1.key))
  (e1:aP s'=aI (cv (fun k=>(ops.toList[k]?).bind (·.dst)) v) bg (aP s) ops.toList.length) (e2:look H'=aI (cM ups) bg (look H) ops.toList.length) (hb0:base 0=H.length)
  (hst:St E n (aP s) (look H) a w):wpAny P .any ops Q ops.size (Array.replicate ops.size false) a w:=by
 unfold zH at hlit
 rw[Bool.and_eq_true,Bool.and_eq_true]at hlit
 obtain⟨hox,_,hlit⟩:=hlit
 unfold I8 at hK
 cases hops:ops.toList with
 |nil=>rw[hops]at hlit;cases hlit
 |cons o os=>
 rw[hops]at hlit
 cases acc with
 |nil=>cases hlit
 |cons ac bs=>
 obtain⟨rd,kb⟩:=ac
 cases kb with
 |nil=>cases hlit
 |cons b kb=>
 cases kb with
 |cons c kb=>cases hlit
 |nil=>
  simp only[Bool.and_eq_true]at hlit
  obtain⟨hg0,hlit⟩:=hlit
  split at hlit
  ·rename_i t0 hm0
   have ho0:ops[0]?=some o:=by
    have:ops.toList[0]?=some o:=by rw[hops];rfl
    simpa using this
   have hU0:ups 0=[(.t H.length,.map [])]:=by
    have hs0:=hstp 0 o (by rw[hops];rfl)
    have hr:run 0=true:=by
     have:=hs0.guard
     rw[Option.isNone_iff_eq_none.1 hg0]at this
     exact this
    obtain⟨LKi,_,hsem⟩:=(hs0.Ov hr).1
    rw[hm0,hb0]at hsem
    simp only[aR]at hsem
    obtain⟨_,_,_,_,hsem,_⟩:=pf hsem
    exact hsem.2.symm
   have hb:b=H.length:=by
    obtain⟨rd',h1⟩:=hacc 0 o (by rw[hops];rfl)
    rw[hU0]at h1
    show b=(Hd.t H.length).key
    simpa using(congrArg (fun x=>x.map Prod.snd) h1)
   subst hb
   simp only at hK
   have hK:=jA H' _ _ hK
   obtain⟨esf,hB,hn,hk⟩:=hK
   refine Ju hΓ ops hfit hox Q s H a w v ups base run hstp s' H' e1 e2 hb0 t0 ⟨o,ho0,hm0⟩ (fun k o' ho'=>?_) esf (by show(H'.getD _ .free).top=_;rw[hB];rfl) hn (fun es' hp a w hst=>?_) hst
   ·have ho'':ops.toList[k]?=some o':=by simpa using ho'
    cases k with
    |zero=>
     rw[ho0]at ho';cases ho'
     exact⟨Option.isNone_iff_eq_none.1 hg0,.inl rfl⟩
    |succ k=>
     obtain⟨rd',h1⟩:=hacc (k+1) o' ho''
     rw[hops]at ho''
     have h2:(o',(rd',(ups (k+1)).map fun x=>x.1.key))∈os.zip bs:=by
      refine List.mem_iff_getElem?.2 ⟨k,?_⟩
      rw[List.getElem?_zip_eq_some]
      exact⟨by simpa using ho'',by simpa using h1⟩
     have:=List.all_eq_true.1 hlit _ h2
     simp only[L3,Bool.and_eq_true]at this
     obtain⟨hg,hop⟩:=this
     refine⟨Option.isNone_iff_eq_none.1 hg,.inr ?_⟩
     split at hop
     ·rename_i t m x y hop'
      simp only[Bool.and_eq_true]at hop
      obtain⟨ht,hd,hkk⟩:=hop
      have ht:=Nat.eq_of_beq_eq_true ht
      subst ht
      refine .inl ⟨m,x,y,hop',?_,Option.isNone_iff_eq_none.1 hd⟩
      split at hkk
      ·rename_i c hc
       rw[hc,Nat.eq_of_beq_eq_true hkk]
      ·cases hkk
     all_goals first
      |cases hop
      |(rename_i hop'
        have:ups (k+1)=[]:=by simpa using hop
        exact .inr ⟨by rw[hop'];rfl,by rw[hop'];rfl,by rw[hop'];rfl,this⟩)
   ·have h1:=hk es' hp
    obtain⟨H2,h2,h3⟩:=CQ h1
    refine hQ s' H2 a w h2 ?_
    rw[h3]
    exact hst
  ·cases hlit
theorem Il (hΓ:gW P Γ) (ops:Array Oper) (hfit:nT n ops.toList=true) (hok:ld ops=true) (Q:Exit->Act->World->Prop) (K:Sl->Hp->Prop) (hQ:∀s H a w,K s H->St E n (aP s) (look H) a w->Q .normal a w)
  (s:Sl) (H:Hp) (a:Act) (w:World) (hk:jS Γ P ops ops.toList (fun acc s H=>vo (Dg ops acc) (K s H) (zH ops acc) (I8 ops acc H fun H=>K s H)) [] s H) (hst:St E n (aP s) (look H) a w):wpAny P .any ops Q ops.size (Array.replicate ops.size false) a w:=by
 obtain⟨v,ups,base,run,hstp,s',H',⟨acc,hlen,hfin,hacc⟩,e1,e2,hb0⟩:=vi ops ops.toList (fun acc s H=>vo (Dg ops acc) (K s H) (zH ops acc) (I8 ops acc H fun H=>K s H)) [] s H hk
 cases hfin with
 |P9 hlit hK=>
  rw[List.nil_append]at hlit hK
  exact K3 hΓ ops hfit Q K hQ s H a w v ups base run hstp s' H' acc hlen hlit hK (fun k o h=>by obtain⟨rd,h1,_⟩:=hacc k o h;exact⟨rd,h1⟩) e1 e2 hb0 hst
 |mk hdy hK=>
  refine vT hΓ ops hfit (fun ho=>rp hok ho) Q s H a w v ups base run hstp s' H' (fun a w h=>hQ s' H' a w hK h) e1 e2 hb0 (fun{i j x y} hx hy hij=>?_) hst
  rw[List.nil_append]at hdy
  rcases xZ hok hdy hx hy hij with⟨h1,h2⟩|h
  ·refine .inl ⟨h1,?_⟩
   rcases h2 with h2|⟨q1,q2,hd⟩
   ·exact .inl h2
   ·obtain⟨rx,ax,mx⟩:=hacc i x (by simpa using hx)
    obtain⟨ry,ay,my⟩:=hacc j y (by simpa using hy)
    have ex:acc.getD i ([],[])=(rx,(ups i).map fun x=>x.1.key):=by simp[List.getD,ax]
    have ey:acc.getD j ([],[])=(ry,(ups j).map fun x=>x.1.key):=by simp[List.getD,ay]
    rw[ex,ey]at hd
    simp only[HU,Bool.and_eq_true,List.all_eq_true]at hd
    obtain⟨d1,d2,d3⟩:=hd
    have ne:∀{g h:Nat},(!(Nat.beq g h))=true->g≠h:=fun{g h} hb e=>by subst e;simp at hb
    have mem:∀{u:tO} {p:Hd×aA},p∈u->p.1.key∈u.map fun x=>x.1.key:=fun{u p} hp=>List.mem_map.2 ⟨p,hp,rfl⟩
    refine .inr ⟨q1,q2,fun p hp q hq=>ne (d1 _ (mem hp) _ (mem hq)),fun hr p hp h hm=>?_,fun hr q hq h hm=>?_⟩
    ·exact ne (d2 _ (mem hp) _ (my hr _ hm))
    ·exact ne (d3 _ (mem hq) _ (mx hr _ hm))
  ·exact .inr h
end
end
section
section
variable {P:Program} {Γ:oy} {E:Env} {n:Nat} {wr:FuncId->Bool}
theorem JN (hΓ:gW P Γ) {s:Sl} {H:Hp} {a:Act} {w:World} (h:St E n (aP s) (look H) a w) (o:Oper) (hd:∀t,o.dst=some t->t<n) (K:Sl->Hp->Prop) (Q:Exit->Act->World->Prop)
  (hk:nQ H 0 fun base=>aR Γ P wr (WK s) (nJ H) (look H) base o.op fun v ups=>pe ups H fun H'=>K (f7 o.dst v s) H'):
  o.wp P a w (fun a' w'=>∃s' H',K s' H'/\St E n (aP s') (look H') a' w') Q:=by
 have hk:=s6 hk
 rw[Nat.zero_add]at hk
 have h1:=zN hΓ (fun x K=>I2 s x K) (fun h K=>pL H h K) h (fun v ups _ x _ hx=>⟨c7 hx,fun k=>c7 hx⟩) o hd Q hk
 unfold Oper.wp at h1⊢
 have mono:∀r:Result Next,o.upon P a (jN E n (aP s) (look H) o.dst fun v ups=>pe ups H fun H'=>K (f7 o.dst v s) H') Q r->o.upon P a (fun a' w'=>∃s' H',K s' H'/\St E n (aP s') (look H') a' w') Q r:=by
  have go:∀a' w',jN E n (aP s) (look H) o.dst (fun v ups=>pe ups H fun H'=>K (f7 o.dst v s) H') a' w'->∃s' H',K s' H'/\St E n (aP s') (look H') a' w':=by
   rintro a' w' ⟨v,ups,hk,hst⟩
   obtain⟨H',hk,e⟩:=CQ hk
   exact⟨_,H',hk,by rw[fD,e];exact hst⟩
  intro r hr
  cases r with
  |halt x w'=>cases x<;>first|exact hr|exact hr.elim
  |ok nx w'=>
   cases nx<;>first|exact go _ _ hr|exact hr.elim|skip
   case enter f args=>
    exact Calls.mono hr fun e w'' he=>by
     cases e with
     |returned v=>exact go _ _ he
     |panicked c=>exact he
     |outgrown=>exact he
   case row r args=>exact Rows.mono hr fun v w'' he=>go _ _ he
 exact mono _ h1
theorem EN {s:Sl} {H:Hp} {a:Act} {w:World} (h:St E n (aP s) (look H) a w) (d:Option Tmp) (hd:∀t,d=some t->t<n):St E n (aP (f7 d .undef s)) (look H) (a.put d Go.undef) w:=by
 rw[fD]
 cases d with
 |none=>exact h
 |some t=>
  obtain⟨F,β,h⟩:=h
  exact⟨F,β,h.put (hd t rfl) .undef fun k hk=>by simp only[AV.aT]at hk⟩
theorem St.wz {s:Sl} {H:Hp} {a:Act} {w:World} (h:St E n (aP s) (look H) a w) {t:Nat} (b:Bool) (he:a.tmps.getD t Go.undef= .bool b):St E n (aP ((t,.tf b)::s)) (look H) a w:=by
 obtain⟨F,β,h⟩:=h
 refine⟨F,β,{h with iD:=fun k=>?_,ms:=fun k j hj=>?_}⟩
 ·simp only[aP]
  cases e:Nat.beq t k with
  |false=>exact h.iD k
  |true=>have:=Nat.eq_of_beq_eq_true e;subst this;rw[he];exact .tf b
 ·simp only[aP]at hj
  cases e:Nat.beq t k<;>rw[e]at hj
  ·exact h.ms k j hj
  ·simp only[cond_true,AV.aT]at hj
theorem GZ (hΓ:gW P Γ) (ops:Array Oper) (hfit:nT n ops.toList=true) (Q:Exit->Act->World->Prop) (K:Sl->Hp->Prop) (hQ:∀s H a w,K s H->St E n (aP s) (look H) a w->Q .normal a w):
  ∀(rest:List Oper) (i:Nat),ops.toList.drop i=rest->∀(s:Sl) (H:Hp) (a:Act) (w:World),rl Γ P wr ops rest K s H->St E n (aP s) (look H) a w->wpOps P ops Q (List.range' i rest.length) a w:=by
 intro rest
 induction rest with
 |nil=>intro i _ s H a w hk hst;exact hQ s H a w hk hst
 |cons o rest ih=>
  intro i hi s H a w hk hst
  have ho:ops[i]?=some o:=by
   have:=congrArg (fun l=>l[0]?) hi
   simpa[List.getElem?_drop]using this
  have hrest:ops.toList.drop (i+1)=rest:=by
   have:=congrArg (List.drop 1) hi
   rw[List.drop_drop]at this
   simpa using this
  have hmem:o∈ops.toList:=by
   have:o∈ops.toList.drop i:=by rw[hi];simp
   exact List.mem_of_mem_drop this
  have hd:∀t,o.dst=some t->t<n:=fun t ht=>by
   have:=List.all_eq_true.1 hfit o hmem
   rw[ht]at this
   simpa using this
  rw[List.length_cons,List.range'_succ]
  simp only[wpOps,ho]
  have run:∀s,St E n (aP s) (look H) a w->Region.wanted o (yielded ops a.tmps)=true->(nQ H 0 fun base=>aR Γ P wr (WK s) (nJ H) (look H) base o.op fun v ups=>pe ups H fun H'=>rl Γ P wr ops rest K (f7 o.dst v s) H')->
    (if Region.wanted o (yielded ops a.tmps)=true then o.wp P a w (wpOps P ops Q (List.range' (i+1) rest.length)) Q\/(o.asks P a w/\LetsOut Q)else wpOps P ops Q (List.range' (i+1) rest.length) (a.put o.dst undef) w):=by
   intro s hst hw hk
   rw[if_pos hw]
   have h1:=JN hΓ hst o hd _ Q hk
   refine .inl ?_
   unfold Oper.wp at h1⊢
   have go:∀a' w',(∃s' H',rl Γ P wr ops rest K s' H'/\St E n (aP s') (look H') a' w')->wpOps P ops Q (List.range' (i+1) rest.length) a' w':=fun a' w' ⟨s',H',h1,h2⟩=>ih (i+1) hrest s' H' a' w' h1 h2
   generalize(execOp a.eval o).run P w=r at h1
   cases r with
   |halt x w'=>cases x<;>first|exact h1|exact h1.elim
   |ok nx w'=>
    cases nx<;>first|exact go _ _ h1|exact h1.elim|skip
    case enter f args=>
     exact Calls.mono h1 fun e w'' he=>by
      cases e with
      |returned v=>exact go _ _ he
      |panicked c=>exact he
      |outgrown=>exact he
    case row r args=>exact Rows.mono h1 fun v w'' he=>go _ _ he
  have skip:∀s,St E n (aP s) (look H) a w->Region.wanted o (yielded ops a.tmps)=false->rl Γ P wr ops rest K (f7 o.dst .undef s) H->
    (if Region.wanted o (yielded ops a.tmps)=true then o.wp P a w (wpOps P ops Q (List.range' (i+1) rest.length)) Q\/(o.asks P a w/\LetsOut Q)else wpOps P ops Q (List.range' (i+1) rest.length) (a.put o.dst undef) w):=by
   intro s hst hw hk
   rw[if_neg (by rw[hw];exact Bool.false_ne_true)]
   exact ih (i+1) hrest _ H _ w hk (EN hst o.dst hd)
  have hk:qH Γ P wr ops o (rl Γ P wr ops rest) K s H:=hk
  simp only[qH]at hk
  split at hk
  ·rename_i hg
   exact run s hst (by simp[Region.wanted,hg]) hk
  ·rename_i j want hg
   split at hk
   ·exact hk.elim
   ·rename_i t ht
    have hk:=pF hk
    obtain⟨F,β,hst'⟩:=id hst
    have hv:=hst'.iD t
    have hlt:t<a.tmps.size:=by
     rw[hst'.len]
     cases hj:ops[j]? with
     |none=>rw[hj]at ht;cases ht
     |some oj=>
      rw[hj]at ht
      have hm:oj∈ops.toList:=by
       have:=List.mem_of_getElem? (by simpa using hj:ops.toList[j]?=some oj);exact this
      have:=List.all_eq_true.1 hfit oj hm
      have ht':oj.dst=some t:=ht
      rw[ht']at this
      simpa using this
    have hget:a.tmps[t]?=some (a.tmps.getD t Go.undef):=by simp[Array.getD,hlt]
    have hy:∀x,a.tmps.getD t Go.undef=x->yielded ops a.tmps j=(match x with| .bool b=>some b|_=>none):=by
     intro x e
     unfold yielded
     rw[ht]
     simp only[Option.bind_some,hget,e]
     cases x<;>rfl
    have hwant:∀b,a.tmps.getD t Go.undef= .bool b->Region.wanted o (yielded ops a.tmps)=(b==want):=fun b e=>by
     simp only[Region.wanted,hg,hy _ e]
     cases b<;>cases want<;>rfl
    have both:∀(b:Bool) (s:Sl),St E n (aP s) (look H) a w->a.tmps.getD t Go.undef= .bool b->(bif b==want then(nQ H 0 fun base=>aR Γ P wr (WK s) (nJ H) (look H) base o.op fun v ups=>pe ups H fun H'=>rl Γ P wr ops rest K (f7 o.dst v s) H')else rl Γ P wr ops rest K (f7 o.dst .undef s) H)->
      (if Region.wanted o (yielded ops a.tmps)=true then o.wp P a w (wpOps P ops Q (List.range' (i+1) rest.length)) Q\/(o.asks P a w/\LetsOut Q)else wpOps P ops Q (List.range' (i+1) rest.length) (a.put o.dst undef) w):=by
     intro b s hst e hk
     cases hb:(b==want)with
     |true=>rw[hb]at hk;exact run s hst (by rw[hwant b e,hb]) hk
     |false=>rw[hb]at hk;exact skip s hst (by rw[hwant b e,hb]) hk
    split at hk
    ·rename_i b e
     rw[e]at hv
     have he:a.tmps.getD t Go.undef= .bool b:=by generalize a.tmps.getD t Go.undef=x at hv;cases hv;rfl
     exact both b s hst he hk
    ·rename_i e
     rw[e]at hv
     have he:a.tmps.getD t Go.undef= .tuple #[]:=by generalize a.tmps.getD t Go.undef=x at hv;cases hv;rfl
     refine skip s hst ?_ hk
     simp only[Region.wanted,hg,hy _ he]
     rfl
    ·rename_i b e
     rw[e]at hv
     have he:a.tmps.getD t Go.undef= .bool b:=by generalize a.tmps.getD t Go.undef=x at hv;cases hv with|p hv=>cases hv;rfl
     obtain⟨g1,g2⟩:=hk
     cases b with
     |true=>exact both true _ (hst.wz true he) he (g1 rfl)
     |false=>exact both false _ (hst.wz false he) he (g2 rfl)
    ·exact hk.elim
theorem Fm {Q:Exit->Act->World->Prop} {a:Act} {w:World} {c:Code} {X:Type} (I:X->Act->World->Prop) (μ:X->Nat) (x0:X) (h₀:I x0 a w)
  (round:∀x a w,I x a w->c.wp P (Exit.then (fun a' w'=>∃x',I x' a' w'/\μ x'<μ x) Q) a w):(Code.loop c).wp P Q a w:=by
 intro b k cs
 have key:∀n x a w,μ x=n->I x a w->
   ∃e a' w',Q e a' w'/\Arrives P (lone (b.at a (.code c:: .inLoop c::k)) cs w) b k cs e a' w':=by
  intro n
  induction n using Nat.strongRecOn with
  |_ n ih=>
   intro x a w hn hI
   obtain⟨e,a₁,w₁,hq,harr⟩:=round x a w hI b (.inLoop c::k) cs
   cases e with
   |normal=>
    obtain⟨x',hI₁,hlt⟩:=hq
    obtain⟨e₂,a₂,w₂,hq₂,harr₂⟩:=ih (μ x') (hn▸hlt) x' a₁ w₁ rfl hI₁
    exact⟨e₂,a₂,w₂,hq₂,.of_steps (Steps.trans harr (.one step_inLoop)) harr₂⟩
   |exit id=>exact⟨_,a₁,w₁,hq,.pass (x:=.inLoop c) rfl (fun _ _=>.inl qS) harr⟩
   |goto l=>exact⟨_,a₁,w₁,hq,.pass (x:=.inLoop c) rfl (fun _ _=>.inl qS) harr⟩
   |ret=>exact⟨_,a₁,w₁,hq,.pass (x:=.inLoop c) rfl (fun _ _=>.inl qS) harr⟩
   |panic ch=>exact⟨_,a₁,w₁,hq,.pass (x:=.inLoop c) rfl (fun _ _=>.inl qS) harr⟩
   |outgrown=>exact⟨_,a₁,w₁,hq,.pass (x:=.inLoop c) rfl (fun _ _=>.inl qS) harr⟩
 obtain⟨e,a',w',hq,harr⟩:=key _ x0 a w rfl h₀
 exact⟨e,a',w',hq,.of_steps (.one step_loop) harr⟩
def Qk:Ex->Exit->Prop
 | .normal,.normal=>True
 | .exit i,.exit j=>i=j
 | .ret,.ret=>True
 |_,_=>False
def Ends (E:Env) (n:Nat) (K:Ex->Sl->Hp->Prop) (e:Exit) (a:Act) (w:World):Prop:=∃e' s H,Qk e' e/\K e' s H/\St E n (aP s) (look H) a w
theorem Ax (hΓ:gW P Γ) (hm:P.follows .mixedOrders=true) {nin:List (Option Nat)} (hIn:∀h,E.In h->PG nin h):∀(c:Code) (K:Ex->Sl->Hp->Prop) (s:Sl) (H:Hp) (a:Act) (w:World),VC Γ P wr nin c K s H->fits n c=true->St E n (aP s) (look H) a w->c.wp P (Ends E n K) a w:=by
 intro c
 induction c with
 |skip=>intro K s H a w hk hf hst;exact wp_skip ⟨.normal,s,H,trivial,hk,hst⟩
 |region id ops draw=>
  intro K s H a w hk hf hst
  simp only[fits]at hf
  simp only[VC]at hk
  cases draw with
  |true=>
   refine wp_region_any hm ?_
   rcases hk with⟨hok,hk⟩|⟨hok,hk⟩
   ·exact J1 hΓ ops hf hok (Ends E n K) (fun s H=>K .normal s H) (fun s H a w hk hst=>⟨.normal,s,H,trivial,hk,hst⟩) s H a _ hk hst.drawn
   ·exact Il hΓ ops hf hok (Ends E n K) (fun s H=>K .normal s H) (fun s H a w hk hst=>⟨.normal,s,H,trivial,hk,hst⟩) s H a _ hk hst.drawn
  |false=>
   refine wp_region ?_
   have:=GZ hΓ ops hf (Ends E n K) (fun s H=>K .normal s H) (fun s H a w hk hst=>⟨.normal,s,H,trivial,hk,hst⟩) ops.toList 0 qS s H a w hk hst
   rw[List.range_eq_range']
   simpa using this
 |seq x y ihx ihy=>
  intro K s H a w hk hf hst
  simp only[fits,Bool.and_eq_true]at hf
  refine wp_seq (wp_mono (ihx _ s H a w hk hf.1 hst) fun e a w he=>?_)
  obtain⟨e',s',H',h1,h2,h3⟩:=he
  cases e' with
  |normal=>cases e<;>first|exact h1.elim|exact ihy K s' H' a w h2 hf.2 h3
  |exit i=>cases e<;>first|exact h1.elim|exact⟨.exit i,s',H',h1,h2,h3⟩
  |ret=>cases e<;>first|exact h1.elim|exact⟨.ret,s',H',h1,h2,h3⟩
 |cond c x y ihx ihy=>
  intro K s H a w hk hf hst
  simp only[fits,Bool.and_eq_true]at hf
  have hk:=I2 s c _ hk
  obtain⟨F,β,hst'⟩:=id hst
  have hv:=hst'.ev c
  have wz:∀b,a.eval c= .bool b->St E n (aP (Hm c b s)) (look H) a w:=by
   intro b e
   cases c with
   |tmp t=>exact hst.wz b e
   |_=>exact hst
  split at hk
  ·rename_i e
   rw[e]at hv
   have he:a.eval c= .bool true:=by generalize a.eval c=x at hv;cases hv;rfl
   exact wp_cond_true he (ihx K s H a w hk hf.1 hst)
  ·rename_i e
   rw[e]at hv
   have he:a.eval c= .bool false:=by generalize a.eval c=x at hv;cases hv;rfl
   exact wp_cond_false he (ihy K s H a w hk hf.2 hst)
  ·rename_i b e
   rw[e]at hv
   have he:a.eval c= .bool b:=by generalize a.eval c=x at hv;cases hv with|p hv=>cases hv;rfl
   obtain⟨g1,g2⟩:=hk
   cases b with
   |true=>exact wp_cond_true he (ihx K _ H a w (g1 rfl) hf.1 (wz true he))
   |false=>exact wp_cond_false he (ihy K _ H a w (g2 rfl) hf.2 (wz false he))
  ·exact hk.elim
 |block id x ih=>
  intro K s H a w hk hf hst
  simp only[fits]at hf
  refine wp_block (wp_mono (ih _ s H a w hk hf hst) fun e a w he=>?_)
  obtain⟨e',s',H',h1,h2,h3⟩:=he
  cases e' with
  |normal=>cases e<;>first|exact h1.elim|exact⟨.normal,s',H',h1,h2,h3⟩
  |exit i=>
   cases e<;>first|exact h1.elim|skip
   rename_i j
   have:i=j:=h1
   subst this
   simp only[Exit.inBlock]
   simp only[]at h2
   cases hb:Nat.beq i id with
   |true=>rw[hb]at h2;rw[if_pos (Nat.eq_of_beq_eq_true hb)];exact⟨.normal,s',H',trivial,h2,h3⟩
   |false=>
    rw[hb]at h2
    rw[if_neg (by intro e;rw[e]at hb;simp at hb)]
    exact⟨.exit i,s',H',rfl,h2,h3⟩
  |ret=>cases e<;>first|exact h1.elim|exact⟨.ret,s',H',h1,h2,h3⟩
 |loop x ih=>
  intro K s H a w hk hf hst
  simp only[fits]at hf
  obtain⟨X,st,φ,μ,x0,hs0,s1,H1,th,h0,w0,hr⟩:=(show aJ nin _ K s H from hk)
  have hst:=hst.Kn th
  refine Fm (fun x a w=>φ x/\St E n (aP (st x).1) (look (st x).2) a w) μ x0 ⟨h0,hst.w8 hIn w0⟩ fun x a w hI=>?_
  refine wp_mono (ih _ _ _ a w (hr x hI.1) hf hI.2) fun e a w he=>?_
  obtain⟨e',s',H',h1,h2,h3⟩:=he
  cases e' with
  |normal=>
   cases e<;>first|exact h1.elim|skip
   obtain⟨x',hs',g1,g2,g3⟩:=h2
   exact⟨x',⟨g1,h3.w8 hIn g3⟩,g2⟩
  |exit i=>cases e<;>first|exact h1.elim|exact⟨.exit i,s',H',h1,h2,h3⟩
  |ret=>cases e<;>first|exact h1.elim|exact⟨.ret,s',H',h1,h2,h3⟩
 |exit id=>intro K s H a w hk hf hst;exact wp_exit ⟨.exit id,s,H,rfl,hk,hst⟩
 |ret=>intro K s H a w hk hf hst;exact wp_ret ⟨.ret,s,H,trivial,hk,hst⟩
 |_=>intros;rename_i h _ _;exact h.elim
end
end
section
inductive Conv (hs:List Nat) (H:Hp):AV->AV->Prop where
 |p (v:PV) (h:ct v):Conv hs H (.p v) (.p v)
 |tf (b:Bool):Conv hs H (.tf b) (.p (.bool b))
 |emp (W:Nat):Conv hs H .emp (.p (.sl false W []))
 |JE {h:Hd} {W off len:Nat} {T:TypeId} {es es':List PV} (hB:look H h= .vec T W es) (hn:h.key∉hs) (hl:off+len<=es.length) (hp:∀e∈es,∀c∈e.cells,ct c) (he:(es.drop off).take len=es'):Conv hs H (.vec h W off len) (.p (.sl false W es'))
 |BL {h:Hd} {es es':List (PV×PV)} (hB:look H h= .map es) (hn:h.key∉hs) (hq:es.Perm es') (hp:∀e∈es,ct e.1/\ct e.2):Conv hs H (.map h) (.p (.mp false es'))
 |EL {h:Hd} {len:Nat} {T:TypeId} {cs:List AV} {ps:List PV} (hB:look H h= .rows T cs) (hn:h.key∉hs) (hlen:len=ps.length) (ho:∀d∈ps,d.one=true) (hl:cs.length=ps.length) (hc:∀(i:Nat) c d,cs[i]?=some c->ps[i]?=some d->Conv hs H c (.p d)):Conv hs H (.vec h 1 0 len) (.p (.sl false 1 ps))
 |vec {i h W off len:Nat} (hi:hs[i]?=some h):Conv hs H (.vec h W off len) (.vec i W off len)
 |Ia {i h k W off len:Nat} (hi:hs[i]?=some h):Conv hs H (.vec (.r h k) W off len) (.vec (.r i k) W off len)
 |aC {i h o:Nat} (hi:hs[i]?=some h):Conv hs H (.aC h o) (.aC i o)
 |map {i h:Nat} (hi:hs[i]?=some h):Conv hs H (.map h) (.map i)
 |agg {cs ds:List AV} (ho:∀d∈ds,d.one=true) (hl:cs.length=ds.length) (h:∀(i:Nat) c d,cs[i]?=some c->ds[i]?=some d->Conv hs H c d):Conv hs H (.agg cs) (.agg ds)
 |ov {cs:List AV} {ps:List PV} (ho:∀d∈ps,d.one=true) (hl:cs.length=ps.length) (h:∀(i:Nat) c d,cs[i]?=some c->ps[i]?=some d->Conv hs H c (.p d)):Conv hs H (.agg cs) (.p (.agg ps))
 |bK {cs ds:List AV} (hl:cs.length=ds.length) (h:∀(i:Nat) c d,cs[i]?=some c->ds[i]?=some d->Conv hs H c d):Conv hs H (.bK cs) (.bK ds)
inductive jO (hs:List Nat) (H:Hp):aA->aA->Prop where
 |vec {T:TypeId} {W:Nat} {es:List PV} (hp:∀e∈es,∀c∈e.cells,ct c):jO hs H (.vec T W es) (.vec T W es)
 |map {es:List (PV×PV)} (hp:∀e∈es,ct e.1/\ct e.2):jO hs H (.map es) (.map es)
 |box {T:TypeId} {cs ds:List AV} (ho:∀d∈ds,d.one=true) (hl:cs.length=ds.length) (h:∀(i:Nat) c d,cs[i]?=some c->ds[i]?=some d->Conv hs H c d):jO hs H (.box T cs) (.box T ds)
 |rows {T:TypeId} {cs ds:List AV} (ho:∀d∈ds,d.one=true) (hl:cs.length=ds.length) (h:∀(i:Nat) c d,cs[i]?=some c->ds[i]?=some d->Conv hs H c d):jO hs H (.rows T cs) (.rows T ds)
 |bu {T:TypeId} {W:Nat} {rs:List (Option (List PV))} (hp:∀(k:Nat) es,rs[k]?=some (some es)->∀e∈es,∀c∈e.cells,ct c):jO hs H (.bu T W rs) (.bu T W rs)
 |dead:jO hs H .dead .dead
inductive ab (nin:Hp) (av:AV) (H:Hp) (r:AV) (Hout:Hp):Prop
 |mk (hs:List Nat) (pre:hs.take nin.length=List.range nin.length) (nd:hs.Nodup) (hlen:hs.length=Hout.length) (hnin:nin.length<=hs.length) (hlv:∀h,(look nin h).live->(look H h).live) (hnf:∀h,look nin h≠ .free->look H h≠ .free)
   (hb:∀(i h:Nat) B,hs[i]?=some h->Hout[i]?=some B->jO hs H (H.getD h .free) B) (hv:Conv hs H av r):ab nin av H r Hout
 |all (hs:List Nat) (pre:hs.take nin.length=List.range nin.length) (nd:hs.Nodup) (hlen:hs.length=Hout.length) (hnin:nin.length<=hs.length) (hall:∀h:Hd,(look H h).live->h.key∈hs) (hnf:∀h,look nin h≠ .free->look H h≠ .free)
   (hb:∀(i h:Nat) B,hs[i]?=some h->Hout[i]?=some B->jO hs H (H.getD h .free) B) (hv:Conv hs H av r):ab nin av H r Hout
section
variable {P:Program} {Γ:oy} {E:Env} {n:Nat} {wr:FuncId->Bool}
def jV (F:Nat->Prop) (β:Hd->Option Nat×Nat) (hs:List Nat) (H:Hp) (b:Nat):Prop:=F b\/∃h:Hd,h.key∉hs/\(look H h).live/\(β h).1=some b
def bR (hs:List Nat):Hd->Hd
 | .t i=>.t (hs.getD i 0)
 | .r i k=>.r (hs.getD i 0) k
theorem Fg (hs:List Nat) (i:Hd):(bR hs i).key=hs.getD i.key 0:=by cases i<;>rfl
theorem PR.P4 {w:World} {B F F':Nat->Prop} {v:PV} {x:Value} (h:PR w (aM B F) v x) (hp:ct v) (hF:∀b,F b->F' b):PR w (aM fR F') v x:=by
 refine(PR.wH hp h).mono (fun m b hb=>?_) fun _ _ _=>rfl
 obtain⟨rfl,hb⟩:=hb
 exact hF b hb
theorem Conv.ok {hs:List Nat} {s:Nat->AV} {H:Hp} {a:Act} {w:World} {F:Nat->Prop} {β:Hd->Option Nat×Nat} (hst:cC E n s (look H) a w F β) {c d:AV} (h:Conv hs H c d):
  ∀{v:Value},VR w (aM E.bW F) β c v->VR w (aM fR (jV F β hs H)) (fun i=>β (bR hs i)) d v:=by
 have gd:∀{i h:Nat},hs[i]?=some h->hs.getD i 0=h:=fun e=>by simp[List.getD,e]
 have gt:∀{i h:Nat},hs[i]?=some h->bR hs (.t i)= .t h:=fun e=>by simp only[bR,gd e]
 have gr:∀{i h k:Nat},hs[i]?=some h->bR hs (.r i k)= .r h k:=fun e=>by simp only[bR,gd e]
 have up:∀{p:PV} {x:Value},ct p->PR w (aM E.bW F) p x->PR w (aM fR (jV F β hs H)) p x:=fun hp h=>h.P4 hp fun b hb=>.inl hb
 induction h with
 |p v hp=>intro x hv;exact .p (up hp hv.D6)
 |tf b=>intro x hv;exact .p (up (.bool b) hv.JU)
 |emp W=>
  intro x hv
  cases hv with
  |lu=>exact .p (.nil _ _ _)
  |emp ad=>exact .p (.nil _ _ _)
 | @JE h W off len T es es' hB hn hl hp he=>
  intro x hv
  subst he
  have hlv:(look H h).live:=by rw[hB];trivial
  have hbk:=hst.d4 h
  rw[hB]at hbk
  obtain⟨q1,q2,q3⟩:=hbk
  have hll:((es.drop off).take len).length=len:=by simp;omega
  rcases hv.iV with⟨b,o,cc,hb',hcl,hcm,ho,rfl⟩|⟨ad,hb',hz,hz',rfl⟩
  ·obtain⟨arr,g1,g2,g3,g4⟩:∃arr,(β h).1=some b/\w.heap[b]?=some (.cells arr T (0,0))/\arr.size=(β h).2*W/\∀(i:Nat) e (j:Nat) c v,es[i]?=some e->e.cells[j]?=some c->arr[i*W+j]?=some v->PR w (aM E.bW F) c v:=by
    rcases q3 with q3|⟨b',arr,g1,g2,g3,g4⟩
    ·rw[q3.1]at hb';cases hb'
    ·rw[g1]at hb';cases hb';exact⟨arr,g1,g2,g3,g4⟩
   have get:∀(i:Nat) e,((es.drop off).take len)[i]?=some e->i<len/\es[off+i]?=some e:=fun i e he=>by
    have hi:i<len:=by have:=(List.getElem?_eq_some_iff.1 he).1;rw[hll]at this;exact this
    rw[List.getElem?_take_of_lt hi,List.getElem?_drop]at he
    exact⟨hi,he⟩
   have hin:∀i j,i<es.length->j<W->i*W+j<arr.size:=fun i j hi hj=>by
    rw[g3]
    have:(i+1)*W<=(β h).2*W:=Nat.mul_le_mul_right _ qO
    rw[Nat.add_mul]at this;omega
   have:=PR.sl (w:=w) (FB:=aM fR (jV F β hs H)) false W ((es.drop off).take len) b o cc (fun i j=>arr.getD ((off+i)*W+j) Go.undef) (by rw[hll];omega) (fun _=>.inr ⟨h,hn,hlv,g1⟩)
    (fun e he=>(q1 e (List.mem_of_mem_drop (List.mem_of_mem_take he))).1) (fun e he=>(q1 e (List.mem_of_mem_drop (List.mem_of_mem_take he))).2) (fun i e j c e1 e2=>by
     obtain⟨hi,he⟩:=get i e e1
     have hj:j<W:=by rw[<-(q1 e (List.mem_of_getElem? he)).1];exact(List.getElem?_eq_some_iff.1 e2).1
     have:=hin (off+i) j qO hj
     rw[ho qO,show off*W+i*W+j=(off+i)*W+j by rw[Nat.add_mul]]
     simp only[World.cell?,g2];simp[Array.getD,this]) (fun i e j c e1 e2=>by
     obtain⟨hi,he⟩:=get i e e1
     have hj:j<W:=by rw[<-(q1 e (List.mem_of_getElem? he)).1];exact(List.getElem?_eq_some_iff.1 e2).1
     have:=hin (off+i) j qO hj
     exact up (hp e (List.mem_of_getElem? he) c (List.mem_of_getElem? e2)) (g4 (off+i) e j c _ he e2 (by simp[Array.getD,this])))
   rw[hll]at this
   exact .p this
  ·subst hz;subst hz'
   simp only[List.take_zero]
   exact .p (.nil _ _ _)
 | @BL h es es' hB hn hq hp=>
  intro x hv
  have hlv:(look H h).live:=by rw[hB];trivial
  have hbk:=hst.d4 h
  rw[hB]at hbk
  obtain⟨b,en,clock,h1,h2,h3,h4,h5,h6⟩:=hbk
  cases hv with|map hb'=>
  rw[h1]at hb';cases hb'
  exact .p (.mp false es' es hq b clock en (.inr ⟨h,hn,hlv,h1⟩) h2 h3 (fun i x e e1 e2=>up (hp x (List.mem_of_getElem? e1)).1 (h4 i x e e1 e2).1) (fun i x e e1 e2=>up (hp x (List.mem_of_getElem? e1)).2 (h4 i x e e1 e2).2) h5 h6)
 | @EL h len T cs ps hB hn hlen hone hl _ ih=>
  intro x hv
  subst hlen
  have hlv:(look H h).live:=by rw[hB];trivial
  have hbk:=hst.d4 h
  rw[hB]at hbk
  obtain⟨q1,q2,q3⟩:=hbk
  rcases hv.iV with⟨b,o,cc,hb',hcl,hcm,ho,rfl⟩|⟨ad,hb',_,hz,rfl⟩
  ·obtain⟨arr,g1,g2,g3,g4⟩:∃arr,(β h).1=some b/\w.heap[b]?=some (.cells arr T (0,0))/\arr.size=(β h).2/\∀(i:Nat) c v,cs[i]?=some c->arr[i]?=some v->VR w (aM E.bW F) β c v:=by
    rcases q3 with q3|⟨b',arr,g1,g2,g3,g4⟩
    ·rw[q3.1]at hb';cases hb'
    ·rw[g1]at hb';cases hb';exact⟨arr,g1,g2,g3,g4⟩
   have cl:∀e∈ps,e.cells=[e]:=fun e he=>PV.fH (hone e he)
   have get:∀(i:Nat) (e:PV),ps[i]?=some e->i<arr.size/\i<cs.length:=fun i e he=>by
    have:=(List.getElem?_eq_some_iff.1 he).1
    omega
   refine .p (PR.sl false 1 ps b o _ (fun i j=>arr.getD i Go.undef) qO (fun _=>.inr ⟨h,hn,hlv,g1⟩) (fun e he=>by rw[cl e he];rfl) (fun e he c hc=>by rw[cl e he]at hc;cases List.mem_singleton.1 hc;exact hone _ he) (fun i e j c e1 e2=>?_) (fun i e j c e1 e2=>?_))
   ·obtain⟨hi,_⟩:=get i e e1
    rw[cl e (List.mem_of_getElem? e1)]at e2
    have hj:j=0:=by have:=(List.getElem?_eq_some_iff.1 e2).1;simpa using this
    subst hj
    have hi2:=(List.getElem?_eq_some_iff.1 e1).1
    rw[ho qO]
    simp only[World.cell?,g2];simp[Array.getD,hi]
   ·obtain⟨hi,hi'⟩:=get i e e1
    rw[cl e (List.mem_of_getElem? e1)]at e2
    have hj:j=0:=by have:=(List.getElem?_eq_some_iff.1 e2).1;simpa using this
    subst hj
    cases e2
    exact(ih i cs[i] e (List.getElem?_eq_getElem hi') e1 (g4 i _ _ (List.getElem?_eq_getElem hi') (by simp[Array.getD,hi]))).D6
  ·have hcs:ps=[]:=List.length_eq_zero_iff.1 hz
   subst hcs
   exact .p (.nil _ _ _)
 | @vec i h W off len hi=>
  intro x hv
  rcases hv.iV with⟨b,o,cc,hb',hcl,hcm,ho,rfl⟩|⟨ad,hb',hz,hz',rfl⟩
  ·have:=VR.vec (w:=w) (FB:=aM fR (jV F β hs H)) (β:=fun i=>β (bR hs i)) (h:=i) (W:=W) (off:=off) (len:=len) (b:=b) (o:=o) (c:=cc) (by show(β (bR hs (.t i))).1=_;rw[gt hi];exact hb') hcl (by show _<=(β (bR hs (.t i))).2;rw[gt hi];exact hcm) ho
   exact this
  ·subst hz;subst hz'
   exact .jZ ad (by show(β (bR hs (.t i))).1=_;rw[gt hi];exact hb')
 | @Ia i h k W off len hi=>
  intro x hv
  rcases hv.iV with⟨b,o,cc,hb',hcl,hcm,ho,rfl⟩|⟨ad,hb',hz,hz',rfl⟩
  ·have:=VR.vec (w:=w) (FB:=aM fR (jV F β hs H)) (β:=fun i=>β (bR hs i)) (h:=.r i k) (W:=W) (off:=off) (len:=len) (b:=b) (o:=o) (c:=cc) (by show(β (bR hs (.r i k))).1=_;rw[gr hi];exact hb') hcl (by show _<=(β (bR hs (.r i k))).2;rw[gr hi];exact hcm) ho
   exact this
  ·subst hz;subst hz'
   exact .jZ ad (by show(β (bR hs (.r i k))).1=_;rw[gr hi];exact hb')
 |aC hi=>intro x hv;cases hv with|aC hb=>exact .aC (by show(β (bR hs (.t _))).1=_;rw[gt hi];exact hb)
 |map hi=>intro x hv;cases hv with|map hb=>exact .map (by show(β (bR hs (.t _))).1=_;rw[gt hi];exact hb)
 | @agg cs ds ho hl _ ih=>
  intro x hv
  cases hv with|agg _ vs hone hl' hr=>
  refine .agg ds vs ho (by rw[hl',hl]) fun i d v e1 e2=>?_
  have hi:i<cs.length:=by rw[hl];exact(List.getElem?_eq_some_iff.1 e1).1
  exact ih i cs[i] d (List.getElem?_eq_getElem hi) e1 (hr i _ v (List.getElem?_eq_getElem hi) e2)
 | @ov cs ps ho hl _ ih=>
  intro x hv
  cases hv with|agg _ vs hone hl' hr=>
  refine .p (.agg ps vs ho (by rw[hl',hl]) fun i d v e1 e2=>?_)
  have hi:i<cs.length:=by rw[hl];exact(List.getElem?_eq_some_iff.1 e1).1
  exact(ih i cs[i] d (List.getElem?_eq_getElem hi) e1 (hr i _ v (List.getElem?_eq_getElem hi) e2)).D6
 | @bK cs ds hl _ ih=>
  intro x hv
  cases hv with|bK _ vs hl' hr=>
  refine .bK ds vs (by rw[hl',hl]) fun i d v e1 e2=>?_
  have hi:i<cs.length:=by rw[hl];exact(List.getElem?_eq_some_iff.1 e1).1
  exact ih i cs[i] d (List.getElem?_eq_getElem hi) e1 (hr i _ v (List.getElem?_eq_getElem hi) e2)
theorem Conv.aT {hs:List Nat} {H:Hp} {c d:AV} (h:Conv hs H c d):∀k,d.aT k->k.key<hs.length/\c.aT (bR hs k):=by
 have gd:∀{i h:Nat},hs[i]?=some h->hs.getD i 0=h:=fun e=>by simp[List.getD,e]
 induction h with
 |vec hi=>intro k hk;obtain rfl:_=k:=hk;exact⟨(List.getElem?_eq_some_iff.1 hi).1,by simp only[bR,gd hi];rfl⟩
 |Ia hi=>intro k hk;obtain rfl:_=k:=hk;exact⟨(List.getElem?_eq_some_iff.1 hi).1,by simp only[bR,gd hi];rfl⟩
 |aC hi=>intro k hk;obtain rfl:_=k:=hk;exact⟨(List.getElem?_eq_some_iff.1 hi).1,by simp only[bR,gd hi];rfl⟩
 |map hi=>intro k hk;obtain rfl:_=k:=hk;exact⟨(List.getElem?_eq_some_iff.1 hi).1,by simp only[bR,gd hi];rfl⟩
 | @agg cs ds _ hl _ ih=>
  intro k hk
  simp only[AV.aT,AV.dN]at hk⊢
  obtain⟨d,hd,hk⟩:=hk
  obtain⟨i,hi⟩:=List.getElem?_of_mem hd
  have hi':i<cs.length:=by rw[hl];exact(List.getElem?_eq_some_iff.1 hi).1
  have:=ih i cs[i] d (List.getElem?_eq_getElem hi') hi k hk
  exact⟨this.1,_,List.getElem_mem hi',this.2⟩
 | @bK cs ds hl _ ih=>
  intro k hk
  simp only[AV.aT,AV.dN]at hk⊢
  obtain⟨d,hd,hk⟩:=hk
  obtain⟨i,hi⟩:=List.getElem?_of_mem hd
  have hi':i<cs.length:=by rw[hl];exact(List.getElem?_eq_some_iff.1 hi).1
  have:=ih i cs[i] d (List.getElem?_eq_getElem hi') hi k hk
  exact⟨this.1,_,List.getElem_mem hi',this.2⟩
 |_=>intro k hk;simp only[AV.aT]at hk
theorem jO.ok {hs:List Nat} {s:Nat->AV} {H:Hp} {a:Act} {w:World} {F:Nat->Prop} {β:Hd->Option Nat×Nat} (hst:cC E n s (look H) a w F β) {i h:Nat} {B:aA} (hi:hs[i]?=some h) (hc:jO hs H (H.getD h .free) B):
  (rK w (aM fR (jV F β hs H)) (fun i=>β (bR hs i)) i B.top/\(∀k,B.top.aT k->k.key<hs.length/\(look H (.t h)).aT (bR hs k))/\(B.top.live->(look H (.t h)).live)/\B≠ .free/\look H (.t h)≠ .free)/\
   ∀k,rK w (aM fR (jV F β hs H)) (fun i=>β (bR hs i)) (.r i k) (B.row k)/\B.row k=look H (.r h k):=by
 have gd:hs.getD i 0=h:=by simp[List.getD,hi]
 have gt:bR hs (.t i)= .t h:=by simp only[bR,gd]
 have gr:∀k,bR hs (.r i k)= .r h k:=fun k=>by simp only[bR,gd]
 have up:∀{p:PV} {x:Value},ct p->PR w (aM E.bW F) p x->PR w (aM fR (jV F β hs H)) p x:=fun hp h=>h.P4 hp fun b hb=>.inl hb
 have hbt:=hst.d4 (.t h)
 have hbr:=fun k=>hst.d4 (.r h k)
 simp only[look]at hbt hbr⊢
 generalize hL:H.getD h .free=L at hc hbt hbr
 cases hc with
 | @vec T W es hp=>
  refine⟨⟨?_,fun k hk=>hk.elim,id,(fun e=>by cases e),(fun e=>by cases e)⟩,fun k=>⟨trivial,rfl⟩⟩
  obtain⟨q1,q2,q3⟩:=hbt
  refine⟨q1,by show _<=(β (bR hs (.t i))).2;rw[gt];exact q2,?_⟩
  show((β (bR hs (.t i))).1=none/\(β (bR hs (.t i))).2=0)\/∃b arr,(β (bR hs (.t i))).1=some b/\w.heap[b]?=some (.cells arr T (0,0))/\arr.size=(β (bR hs (.t i))).2*W/\_
  rw[gt]
  rcases q3 with q3|⟨b,arr,g1,g2,g3,g4⟩
  ·exact .inl q3
  ·exact .inr ⟨b,arr,g1,g2,g3,fun q e j c v e1 e2 e3=>up (hp e (List.mem_of_getElem? e1) c (List.mem_of_getElem? e2)) (g4 q e j c v e1 e2 e3)⟩
 | @map es hp=>
  refine⟨⟨?_,fun k hk=>hk.elim,id,(fun e=>by cases e),(fun e=>by cases e)⟩,fun k=>⟨trivial,rfl⟩⟩
  obtain⟨b,en,clock,h1,h2,h3,h4,h5,h6⟩:=hbt
  exact⟨b,en,clock,by show(β (bR hs (.t i))).1=_;rw[gt];exact h1,h2,h3,fun q x e e1 e2=>⟨up (hp x (List.mem_of_getElem? e1)).1 (h4 q x e e1 e2).1,up (hp x (List.mem_of_getElem? e1)).2 (h4 q x e e1 e2).2⟩,h5,h6⟩
 | @box T cs ds ho hl hc=>
  refine⟨⟨?_,fun k hk=>?_,id,(fun e=>by cases e),(fun e=>by cases e)⟩,fun k=>⟨trivial,rfl⟩⟩
  ·obtain⟨h0,b,arr,h1,h2,h3,h4⟩:=hbt
   refine⟨ho,b,arr,by show(β (bR hs (.t i))).1=_;rw[gt];exact h1,h2,by rw[h3,hl],fun q d v e1 e2=>?_⟩
   have hq:q<cs.length:=by rw[hl];exact(List.getElem?_eq_some_iff.1 e1).1
   exact(hc q cs[q] d (List.getElem?_eq_getElem hq) e1).ok hst (h4 q _ v (List.getElem?_eq_getElem hq) e2)
  ·have hk:AV.bm ds k:=hk
   have:=(Conv.agg ho hl hc).aT k (by simp only[AV.aT];exact hk)
   refine⟨this.1,?_⟩
   have h2:=this.2
   simp only[AV.aT]at h2
   exact h2
 | @rows T cs ds ho hl hc=>
  refine⟨⟨?_,fun k hk=>?_,id,(fun e=>by cases e),(fun e=>by cases e)⟩,fun k=>⟨trivial,rfl⟩⟩
  ·obtain⟨h0,h1,h2⟩:=hbt
   refine⟨ho,by show _<=(β (bR hs (.t i))).2;rw[gt,<-hl];exact h1,?_⟩
   show((β (bR hs (.t i))).1=none/\(β (bR hs (.t i))).2=0)\/∃b arr,(β (bR hs (.t i))).1=some b/\w.heap[b]?=some (.cells arr T (0,0))/\arr.size=(β (bR hs (.t i))).2/\_
   rw[gt]
   rcases h2 with h2|⟨b,arr,g1,g2,g3,g4⟩
   ·exact .inl h2
   ·refine .inr ⟨b,arr,g1,g2,g3,fun q d v e1 e2=>?_⟩
    have hq:q<cs.length:=by rw[hl];exact(List.getElem?_eq_some_iff.1 e1).1
    exact(hc q cs[q] d (List.getElem?_eq_getElem hq) e1).ok hst (g4 q _ v (List.getElem?_eq_getElem hq) e2)
  ·have hk:AV.bm ds k:=hk
   have:=(Conv.agg ho hl hc).aT k (by simp only[AV.aT];exact hk)
   refine⟨this.1,?_⟩
   have h2:=this.2
   simp only[AV.aT]at h2
   exact h2
 |dead=>exact⟨⟨trivial,fun k hk=>hk.elim,id,(fun e=>by cases e),(fun e=>by cases e)⟩,fun k=>⟨trivial,rfl⟩⟩
 | @bu T W rs hp=>
  refine⟨⟨trivial,fun k hk=>hk.elim,id,(fun e=>by cases e),(fun e=>by cases e)⟩,fun k=>⟨?_,rfl⟩⟩
  have hb:=hbr k
  simp only[aA.row]at hb⊢
  cases hr:rs[k]? with
  |none=>trivial
  |some o=>
   cases o with
   |none=>trivial
   |some es=>
    rw[hr]at hb
    obtain⟨q1,q2,q3⟩:=hb
    refine⟨q1,by show _<=(β (bR hs (.r i k))).2;rw[gr];exact q2,?_⟩
    show((β (bR hs (.r i k))).1=none/\(β (bR hs (.r i k))).2=0)\/∃b arr,(β (bR hs (.r i k))).1=some b/\w.heap[b]?=some (.cells arr T (0,0))/\arr.size=(β (bR hs (.r i k))).2*W/\_
    rw[gr]
    rcases q3 with q3|⟨b,arr,g1,g2,g3,g4⟩
    ·exact .inl q3
    ·exact .inr ⟨b,arr,g1,g2,g3,fun q e j c v e1 e2 e3=>up (hp k es hr e (List.mem_of_getElem? e1) c (List.mem_of_getElem? e2)) (g4 q e j c v e1 e2 e3)⟩
def nI (Γ:oy) (P:Program) (wr:FuncId->Bool):List ResultVar->Sl->Hp->(List AV->Prop)->Prop
 |[],_,_,K=>K []
 | .tmp t::rs,s,H,K=>lS s t fun v=>nI Γ P wr rs s H fun l=>K (v::l)
 | .cell a t::rs,s,H,K=>aR Γ P wr (WK s) (nJ H) (look H) 0 (.load t (.tmp a)) fun v _=>nI Γ P wr rs s H fun l=>K (v::l)
def oneOf:List AV->AV
 |[v]=>v
 |l=>.bK l
def Oa (Γ:oy) (P:Program) (wr:FuncId->Bool) (rs:List ResultVar) (nin:Hp) (r:AV) (Hout:Hp):Ex->Sl->Hp->Prop
 | .exit _,_,_=>False
 |_,s,H=>nI Γ P wr rs s H fun l=>ab nin (oneOf l) H r Hout
theorem J8 (hΓ:gW P Γ) {s:Sl} {H:Hp} {a:Act} {w:World} {F:Nat->Prop} {β:Hd->Option Nat×Nat} (hst:cC E n (aP s) (look H) a w F β):∀(rs:List ResultVar) (K:List AV->Prop),nI Γ P wr rs s H K->
  ∃l vs,K l/\vs.length=l.length/\(rs.mapM (m:=Sem) fun| .tmp t=>pure (a.tmps.getD t Go.undef)| .cell x t=>do loadVar t (<-asAddr (a.tmps.getD x Go.undef))).run P w= .ok vs w/\(∀(i:Nat) c v,l[i]?=some c->vs[i]?=some v->VR w (aM E.bW F) β c v)/\∀c∈l,∀k,c.aT k->look H k≠ .free:=by
 intro rs
 induction rs with
 |nil=>intro K hk;exact⟨[],[],hk,rfl,qS,qS,qS⟩
 |cons x rs ih=>
  intro K hk
  have cons:∀{c:AV} {v:Value} {l:List AV} {vs:List Value},VR w (aM E.bW F) β c v->(∀(i:Nat) c v,l[i]?=some c->vs[i]?=some v->VR w (aM E.bW F) β c v)->∀(i:Nat) c' v',(c::l)[i]?=some c'->(v::vs)[i]?=some v'->VR w (aM E.bW F) β c' v':=by
   intro c v l vs h1 h2 i c' v' e1 e2
   cases i with
   |zero=>simp at e1 e2;subst e1;subst e2;exact h1
   |succ i=>exact h2 i c' v' (by simpa using e1) (by simpa using e2)
  cases x with
  |tmp t=>
   simp only[nI]at hk
   obtain⟨l,vs,hk,h1,h2,h3,h4⟩:=ih _ (pF hk)
   refine⟨_,_::vs,hk,by simp[h1],?_,cons (hst.iD t) h3,fun c hc k hk=>by
    rcases List.mem_cons.1 hc with rfl|hc
    ·exact hst.ms t k hk
    ·exact h4 c hc k hk⟩
   rw[List.mapM_cons]
   refine(Sem.run_seq _ _ _ _ _ _ (show(pure (a.tmps.getD t Go.undef):Sem Value).run P w= .ok _ w from rfl)).trans ?_
   exact(Sem.run_seq _ _ _ _ _ _ h2).trans rfl
  |cell x t=>
   simp only[nI]at hk
   have hout:=Dn (wr:=wr) (base:=0) hΓ (fun x K=>I2 s x K) (fun h K=>pL H h K) hst (t:=t) (x:=.tmp x) hk
   have hev:a.eval (.tmp x)=a.tmps.getD x Go.undef:=rfl
   rw[hev]at hout
   generalize hr:(Instr.loadAt t (a.tmps.getD x Go.undef)).run P w=r at hout
   cases hout with| @mk v y hk hv hm=>
   obtain⟨l,vs,hk,h1,h2,h3,h4⟩:=ih _ hk
   refine⟨_,y::vs,hk,by simp[h1],?_,cons hv h3,fun c hc k hck=>by
    rcases List.mem_cons.1 hc with e|hc
    ·subst e;exact hm k hck
    ·exact h4 c hc k hck⟩
   have hr':(do loadVar t (<-asAddr (a.tmps.getD x Go.undef)):Sem Value).run P w= .ok y w:=by
    unfold Instr.loadAt at hr
    cases hx:a.tmps.getD x Go.undef with
    |pointer ad=>
     cases ad with
     |none=>rw[hx]at hr;simp[Instr.sureAddr]at hr
     |some ad=>rw[hx]at hr;simpa[Instr.sureAddr,asAddr]using hr
    |_=>rw[hx]at hr;simp[Instr.sureAddr]at hr
   rw[List.mapM_cons]
   refine(Sem.run_seq _ _ _ _ _ _ hr').trans ?_
   exact(Sem.run_seq _ _ _ _ _ _ h2).trans rfl
theorem Gq (hΓ:gW P Γ) {fn:Func} {s:Sl} {H:Hp} {a:Act} {w:World} {F:Nat->Prop} {β:Hd->Option Nat×Nat} (hst:cC E n (aP s) (look H) a w F β) (K:List AV->Prop) (hk:nI Γ P wr fn.results.toList s H K):
  ∃l v,K l/\(results fn a.tmps).run P w= .ok v w/\VR w (aM E.bW F) β (oneOf l) v/\∀k,(oneOf l).aT k->look H k≠ .free:=by
 obtain⟨l,vs,hk,h1,h2,h3,h4⟩:=J8 hΓ hst fn.results.toList K hk
 have aT:∀l v,(oneOf l).aT v->∃c∈l,c.aT v:=by
  intro l v hv
  match l,hv with
  |[c],hv=>exact⟨c,qS,hv⟩
  |[],hv=>simp only[oneOf,AV.aT,AV.bm]at hv
  |c::d::l,hv=>simp only[oneOf,AV.aT]at hv;exact AV.dN.1 hv
 refine⟨l,if h:vs.length=1 then vs[0]else .tuple vs.toArray,hk,?_,?_,fun k hk=>by obtain⟨c,hc,hm⟩:=aT l k hk;exact h4 c hc k hm⟩
 ·unfold results
  rw[Array.mapM_eq_mapM_toList]
  have:(List.toArray<$>fn.results.toList.mapM (m:=Sem) (fun| .tmp t=>pure (a.tmps.getD t Go.undef)| .cell x t=>do loadVar t (<-asAddr (a.tmps.getD x Go.undef)))).run P w= .ok vs.toArray w:=by
   rw[map_eq_pure_bind,Sem.run_seq _ _ _ _ _ _ h2];rfl
  refine(Sem.run_seq _ _ _ _ _ _ this).trans ?_
  simp
 ·split
  ·rename_i h
   obtain⟨c,rfl⟩:=List.length_eq_one_iff.1 (by rw[<-h1];exact h)
   exact h3 0 c _ rfl qS
  ·rename_i h
   have:oneOf l= .bK l:=by
    match l,h1 with
    |[],_=>rfl
    |[c],h1=>exact(h h1).elim
    |_::_::_,_=>rfl
   rw[this]
   exact .bK l _ (by simpa using h1) fun i c v e1 e2=>h3 i c v e1 (by simpa using e2)
def nO:Nat->List AV->Sl
 |_,[]=>[]
 |i,c::cs=>(i,c)::nO (i+1) cs
theorem ni:∀(cs:List AV) (i t:Nat),aP (nO i cs) t=if i<=t then cs.getD (t-i) .any else .any:=by
 intro cs
 induction cs with
 |nil=>intro i t;simp[nO,aP]
 |cons c cs ih=>
  intro i t
  simp only[nO,aP,ih]
  by_cases e:i=t
  ·subst e;simp
  ·have hb:Nat.beq i t=false:=by
    cases h:Nat.beq i t with
    |false=>rfl
    |true=>exact(e (Nat.eq_of_beq_eq_true h)).elim
   rw[hb]
   simp only[cond_false]
   by_cases h:i<=t
   ·rw[if_pos h,if_pos qO]
    rw[show t-i=(t-(i+1))+1 by omega]
    simp
   ·rw[if_neg h,if_neg qO]
theorem bZ (hΓ:gW P Γ) (hmix:P.follows .mixedOrders=true) {f:FuncId} {fn:Func} {c:Code} {args:List AV} {Hin:Hp} {r:AV} {Hout:Hp} (hf:P.funcs[f]?=some fn) (hname:(fn.name== "runtime.NumGoroutine")=false) (hb:fn.body=some c)
  (hfit:fits fn.ntmps c=true) (hn:args.length<=fn.ntmps) (hlive:∀B∈Hin,B≠ .free)
  (h:VC Γ P wr (Hin.map aA.K8) c (Oa Γ P wr fn.results.toList Hin r Hout) (nO 0 args) Hin):df P f args Hin r Hout:=by
 refine⟨⟨fn,hf,hname,by rw[hb];rfl⟩,fun w F bW β vs hargs=>?_⟩
 let E:Env:={w0:=w,qh:=fun b=>b<w.heap.size/\∀h,(look Hin h).live->(β h).1≠some b,bW:=bW,F0:=F,In:=fun h=>look Hin h≠ .free,β0:=β}
 have hIn:∀h,E.In h->PG (Hin.map aA.K8) h:=fun h hh=>by
  cases h with
  |t i=>have:=d7 hh;simpa[PG,Hd.key]using this
  |r i k=>
   have hi:i<Hin.length:=d7 hh
   have hk:=jQ hh
   have e:Hin.getD i .free=Hin[i]:=by simp[List.getD,List.getElem?_eq_getElem hi]
   unfold aD at hk
   rw[e]at hk
   refine⟨_,?_,hk⟩
   rw[List.getElem?_map,List.getElem?_eq_getElem hi]
   revert hk
   cases Hin[i]<;>intro hk<;>first|(exact absurd hk (Nat.not_lt_zero _))|rfl
 have hst:cC E fn.ntmps (aP (nO 0 args)) (look Hin) {tmps:=vs.toArray++Array.replicate (fn.ntmps-vs.toArray.size) Go.undef,defers:=[]} w F β:={
  os:=rfl,tape:=rfl,output:=rfl,size:=Nat.le_refl _
  p9:=fun _ _=>rfl
  iT:=fun b hb=>hb.1
  Ca:=fun b hb=>⟨hargs.blt b hb,fun h h1 h2=>(hargs.own h b h1 h2).2.1 hb⟩
  nA:=hargs.nA
  fold:=fun b hb _=>hb
  own:=fun h b h1 h2=>⟨(hargs.own h b h1 h2).1,fun hk=>hk.2 h h1 h2,(hargs.own h b h1 h2).2.2⟩
  nG:=hargs.nG
  len:=by simp[hargs.len];omega
  iD:=fun t=>by
   rw[ni]
   simp only[Nat.zero_le,if_true,Nat.sub_zero]
   by_cases ht:t<args.length
   ·have e1:args[t]?=some args[t]:=List.getElem?_eq_getElem ht
    have ht':t<vs.length:=by rw[hargs.len];exact ht
    have e2:vs[t]?=some vs[t]:=List.getElem?_eq_getElem ht'
    have:(vs.toArray++Array.replicate (fn.ntmps-vs.toArray.size) Go.undef).getD t Go.undef=vs[t]:=by
     simp[Array.getD,ht',show t<vs.length+(fn.ntmps-vs.length) by omega,Array.getElem_append]
    rw[this]
    have:args.getD t .any=args[t]:=by simp[List.getD,e1]
    rw[this]
    exact hargs.rel t _ _ e1 e2
   ·rw[eJ _ _ qO];exact .any _
  d4:=hargs.d4
  ms:=fun t k hk=>by
   rw[ni]at hk
   simp only[Nat.zero_le,if_true,Nat.sub_zero]at hk
   by_cases ht:t<args.length
   ·have:args.getD t .any=args[t]:=by simp[List.getD,List.getElem?_eq_getElem ht]
    rw[this]at hk
    exact hargs.ma _ (List.getElem_mem ht) k hk
   ·rw[eJ _ _ qO]at hk;simp only[AV.aT]at hk
  mb:=hargs.mb
  defers:=rfl
  bin:=fun i hi=>⟨rfl,hi⟩
  L6:=fun b hb=>hb}
 have hwp:=Ax hΓ hmix (E:=E) hIn c _ _ _ _ w h hfit ⟨F,β,hst⟩
 refine calls_of_wp hf hb (wp_mono hwp fun e a' w' he=>?_)
 obtain⟨e',s',H',h1,h2,F1,β1,hst'⟩:=he
 have fin:nI Γ P wr fn.results.toList s' H' (fun l=>ab Hin (oneOf l) H' r Hout)->a'.defers=[]/\∃v,(results fn a'.tmps).run P w'= .ok v w'/\∃v' F' β',Ending.returned v= .returned v'/\L7 w F β Hin r Hout v' w' F' β':=by
  intro h2
  obtain⟨l,v,h3,hr,hv,hmen⟩:=Gq hΓ hst' _ h2
  obtain⟨hs,pre,nd,hlen,hnin,hlv,hnf,hB,hconv⟩:∃hs:List Nat,∃(pre:hs.take Hin.length=List.range Hin.length) (nd:hs.Nodup) (hlen:hs.length=Hout.length) (hnin:Hin.length<=hs.length) (hlv:(∀h,(look Hin h).live->(look H' h).live)\/(∀h:Hd,(look H' h).live->h.key∈hs)) (hnf:∀h,look Hin h≠ .free->look H' h≠ .free)
   (hb:∀(i h:Nat) B,hs[i]?=some h->Hout[i]?=some B->jO hs H' (H'.getD h .free) B),Conv hs H' (oneOf l) r:=by
   cases h3 with
   |mk hs pre nd hlen hnin hlv hnf hb hv=>exact⟨hs,pre,nd,hlen,hnin,.inl hlv,hnf,hb,hv⟩
   |all hs pre nd hlen hnin hall hnf hb hv=>exact⟨hs,pre,nd,hlen,hnin,.inr hall,hnf,hb,hv⟩
  have hpre:∀i,i<Hin.length->hs[i]?=some i:=fun i hi=>by
   have hp:(hs.take Hin.length)[i]?=some i:=by rw[pre,List.getElem?_range hi]
   rwa[List.getElem?_take_of_lt hi]at hp
  have hgd:∀i,i<hs.length->hs[i]?=some (hs.getD i 0):=fun i hi=>by simp[List.getD,List.getElem?_eq_getElem hi]
  have hback:∀h:Hd,h.key<Hin.length->bR hs h=h:=fun h hh=>by
   have e:hs.getD h.key 0=h.key:=by simp[List.getD,hpre h.key hh]
   cases h with
   |t i=>simp only[Hd.key]at e;simp only[bR,e]
   |r i k=>simp only[Hd.key]at e;simp only[bR,e]
  have notkeep:∀b,b<w.heap.size->¬E.qh b->∃h,(look Hin h).live/\(β h).1=some b:=fun b h1 h2=>by
   apply Classical.byContradiction
   intro hc
   exact h2 ⟨h1,fun h h3 h4=>hc ⟨h,h3,h4⟩⟩
  have hout:∀i:Hd,look Hout i≠ .free->i.key<hs.length:=fun i hl=>by rw[hlen];exact d7 hl
  have hblk:∀i:Hd,i.key<hs.length->rK w' (aM fR (jV F1 β1 hs H')) (fun i=>β1 (bR hs i)) i (look Hout i)/\(∀k,(look Hout i).aT k->k.key<hs.length/\(look H' (bR hs i)).aT (bR hs k))/\((look Hout i).live->(look H' (bR hs i)).live)/\(look H' (bR hs i)≠ .free->look Hout i≠ .free):=fun i hi=>by
   have hi':i.key<Hout.length:=qO
   have e:Hout.getD i.key .free=Hout[i.key]:=by simp[List.getD,List.getElem?_eq_getElem hi']
   have:=(hB i.key _ _ (hgd i.key hi) (List.getElem?_eq_getElem hi')).ok hst' (hgd i.key hi)
   obtain⟨⟨t1,t2,t3,t4,t5⟩,hr⟩:=this
   cases i with
   |t i=>
    simp only[Hd.key]at e t1 t2 t3 t4 t5
    have el:look Hout (.t i)=(Hout[i]'hi').top:=by simp only[look,e];rfl
    rw[el]
    exact⟨t1,t2,t3,fun _=>aA.uq t4⟩
   |r i k=>
    simp only[Hd.key]at e hr
    have el:look Hout (.r i k)=(Hout[i]'hi').row k:=by simp only[look,e];rfl
    rw[el]
    obtain⟨r1,r2⟩:=hr k
    have r2':(Hout[i]'hi').row k=look H' (.r (hs.getD i 0) k):=r2
    exact⟨r1,fun j hj=>(aA.mR _ _ _ hj).elim,fun hl=>(show(look H' (.r (hs.getD i 0) k)).live from r2'▸hl),fun hne=>r2'▸hne⟩
  refine⟨hst'.defers,v,hr,v,jV F1 β1 hs H',fun i=>β1 (bR hs i),rfl,?_⟩
  have nfout:∀k:Hd,k.key<hs.length->look H' (bR hs k)≠ .free->look Hout k≠ .free:=fun k hk=>(hblk k hk).2.2.2
  exact{
   os:=hst'.os,tape:=hst'.tape,output:=hst'.output,size:=hst'.size
   same:=fun b h1 h2=>hst'.p9 b ⟨h1,h2⟩
   nA:=fun b hb=>by
    rcases hb with hb|⟨h,_,h2,h3⟩
    ·exact hst'.nA b hb
    ·exact(hst'.own h b h2 h3).2.2
   fold:=fun b hb hlt=>by
    rcases hb with hb|⟨h,h1,h2,h3⟩
    ·exact hst'.fold b hb hlt
    ·exfalso
     obtain⟨h0,g1,g2⟩:=notkeep b hlt (hst'.own h b h2 h3).2.1
     have hi:=d7 (aA.ck g1)
     have hb0:β1 h0=β h0:=(hst'.bin h0 (aA.ck g1)).1
     rcases hlv with hlv|hall
     ·have:h=h0:=hst'.nG h h0 b h2 (hlv h0 g1) h3 (by rw[hb0];exact g2)
      subst this
      exact h1 (List.mem_of_getElem? (hpre h.key hi))
     ·exact h1 (hall h h2)
   IJ:=fun b hb=>.inl (hst'.L6 b hb)
   LX:=fun h hl=>by
    show β1 (bR hs h)=β h
    rw[hback h (d7 hl)];exact(hst'.bin h hl).1
   rel:=hconv.ok hst' hv
   d4:=fun i=>by
    rcases Nat.lt_or_ge i.key hs.length with hi|hi
    ·exact(hblk i hi).1
    ·rw[c7 qO];trivial
   own:=fun i b h1 h2=>by
    have hi:=hout i (aA.ck h1)
    have o:=hst'.own _ b ((hblk i hi).2.2.1 h1) h2
    refine⟨fun hb=>?_,o.2.2,fun hlt=>notkeep b hlt o.2.1⟩
    rcases hb with hb|⟨h,g1,g2,g3⟩
    ·exact o.1 hb
    ·have:h=bR hs i:=hst'.nG _ _ b g2 ((hblk i hi).2.2.1 h1) g3 h2
     rw[this,Fg]at g1
     exact g1 (List.mem_of_getElem? (hgd i.key hi))
   nG:=fun i j b h1 h2 h3 h4=>by
    have hi:=hout i (aA.ck h1)
    have hj:=hout j (aA.ck h2)
    have:=hst'.nG _ _ b ((hblk i hi).2.2.1 h1) ((hblk j hj).2.2.1 h2) h3 h4
    have inj:∀p q,p<hs.length->q<hs.length->hs.getD p 0=hs.getD q 0->p=q:=fun p q hp hq e=>by
     have e1:=hgd p hp
     rw[e]at e1
     exact(List.getElem?_inj hp nd).1 (e1.trans (hgd q hq).symm)
    cases i<;>cases j<;>simp only[bR,Hd.t.injEq,Hd.r.injEq,reduceCtorEq]at this
    ·exact congrArg Hd.t (inj _ _ hi hj this)
    ·exact(congrArg (fun q=>Hd.r q _) (inj _ _ hi hj this.1)).trans (congrArg (Hd.r _) this.2)
   mr:=fun k hk=>by
    obtain⟨hkl,hm⟩:=hconv.aT k hk
    refine nfout k hkl ?_
    exact hmen _ hm
   mb:=fun i k hk=>by
    have hif:look Hout i≠ .free:=fun e=>by rw[e]at hk;exact hk.elim
    obtain⟨hkl,hm⟩:=(hblk i (hout i hif)).2.1 k hk
    exact nfout k hkl (hst'.mb _ _ hm)
   nf:=fun h hh=>by
    have hi:=d7 hh
    refine nfout h qO ?_
    rw[hback h hi];exact hnf h hh}
 cases e' with
 |normal=>cases e<;>first|exact h1.elim|exact fin h2
 |ret=>cases e<;>first|exact h1.elim|exact fin h2
 |exit i=>exact h2.elim
def OP (Γ:oy) (P:Program) (wr:FuncId->Bool) (rs:List ResultVar) (r:PV):Ex->Sl->Hp->Prop
 | .exit _,_,_=>False
 |_,s,H=>nI Γ P wr rs s H fun l=>oneOf l= .p r
theorem ri (hΓ:gW P Γ) (hmix:P.follows .mixedOrders=true) {f:FuncId} {fn:Func} {c:Code} {args:List PV} {r:PV} (hf:P.funcs[f]?=some fn) (hname:(fn.name== "runtime.NumGoroutine")=false) (hb:fn.body=some c)
  (hfit:fits fn.ntmps c=true) (hn:args.length<=fn.ntmps) (h:VC Γ P wr [] c (OP Γ P wr fn.results.toList r) (nO 0 (args.map .p)) []):Df P f args r:=by
 refine⟨⟨fn,hf,hname,by rw[hb];rfl⟩,fun w F bW β vs hargs=>?_⟩
 let E:Env:={w0:=w,qh:=fun b=>b<w.heap.size,bW:=bW,F0:=F,In:=fun h=>False,β0:=β}
 have hlk:∀h,look [] h= .free:=fun h=>c7 (Nat.zero_le _)
 have hst:cC E fn.ntmps (aP (nO 0 (args.map .p))) (look []) {tmps:=vs.toArray++Array.replicate (fn.ntmps-vs.toArray.size) Go.undef,defers:=[]} w F β:={
  os:=rfl,tape:=rfl,output:=rfl,size:=Nat.le_refl _
  p9:=fun _ _=>rfl
  iT:=fun b hb=>hb
  Ca:=fun b hb=>hargs.blt b hb
  nA:=hargs.nA
  fold:=fun b hb _=>hb
  own:=fun h b h1 h2=>by rw[hlk]at h1;exact h1.elim
  nG:=hargs.nG
  len:=by simp[hargs.len];omega
  iD:=fun t=>by
   rw[ni]
   simp only[Nat.zero_le,if_true,Nat.sub_zero]
   by_cases ht:t<(args.map AV.p).length
   ·have e1:(args.map AV.p)[t]?=some (args.map AV.p)[t]:=List.getElem?_eq_getElem ht
    have ht':t<vs.length:=by rw[hargs.len];exact ht
    have e2:vs[t]?=some vs[t]:=List.getElem?_eq_getElem ht'
    have:(vs.toArray++Array.replicate (fn.ntmps-vs.toArray.size) Go.undef).getD t Go.undef=vs[t]:=by
     simp[Array.getD,ht',show t<vs.length+(fn.ntmps-vs.length) by omega,Array.getElem_append]
    rw[this]
    have:(args.map AV.p).getD t .any=(args.map AV.p)[t]:=by simp only[List.getD,e1];rfl
    rw[this]
    exact hargs.rel t _ _ e1 e2
   ·rw[eJ _ _ qO];exact .any _
  d4:=hargs.d4
  ms:=fun t k hk=>by
   rw[ni]at hk
   simp only[Nat.zero_le,if_true,Nat.sub_zero]at hk
   by_cases ht:t<(args.map AV.p).length
   ·have:(args.map AV.p).getD t .any=(args.map AV.p)[t]:=by simp only[List.getD,List.getElem?_eq_getElem ht];rfl
    rw[this]at hk
    exact hargs.ma _ (List.getElem_mem ht) k hk
   ·rw[eJ _ _ qO]at hk;simp only[AV.aT]at hk
  mb:=hargs.mb
  defers:=rfl
  bin:=fun i hi=>hi.elim
  L6:=fun b hb=>hb}
 have hwp:=Ax hΓ hmix (E:=E) (fun h hh=>hh.elim) c _ _ _ _ w h hfit ⟨F,β,hst⟩
 refine calls_of_wp hf hb (wp_mono hwp fun e a' w' he=>?_)
 obtain⟨e',s',H',h1,h2,F1,β1,hst'⟩:=he
 have fin:nI Γ P wr fn.results.toList s' H' (fun l=>oneOf l= .p r)->a'.defers=[]/\∃v,(results fn a'.tmps).run P w'= .ok v w'/\∃v' F',Ending.returned v= .returned v'/\OL w F bW r v' w' F':=by
  intro h2
  obtain⟨l,v,h3,hr,hv,_⟩:=Gq hΓ hst' _ h2
  rw[h3]at hv
  exact⟨hst'.defers,v,hr,v,F1,rfl,{os:=hst'.os,tape:=hst'.tape,output:=hst'.output,size:=hst'.size,same:=fun b h1=>hst'.p9 b h1,nA:=hst'.nA,fold:=fun b hb hlt=>hst'.fold b hb hlt,IJ:=fun b hb=>hst'.L6 b hb,rel:=hv.D6}⟩
 cases e' with
 |normal=>cases e<;>first|exact h1.elim|exact fin h2
 |ret=>cases e<;>first|exact h1.elim|exact fin h2
 |exit i=>exact h2.elim
end
end
def zv:PV->Value
 | .int k n=>.int k n
 | .bool b=>.bool b
 | .raw v=>v
 |_=>.slice none 0 0
def kX:PV->Bool
 | .int _ _=>true
 | .bool _=>true
 | .raw v=>v.oneCell'
 | .sl _ _ []=>true
 |_=>false
def TI.val (i:TI):Value:=match i.d.agg with
 |true=>.agg (i.zero.map zv).toArray
 |false=>match i.zero with
  |[z]=>zv z
  |_=>.bool false
theorem ML {w FB} {z:PV} (h:kX z=true):PR w FB z (zv z):=by
 cases z with
 |int k n=>exact .int k n
 |bool b=>exact .bool b
 |raw v=>exact .raw v h
 |sl m W es=>
  cases es with
  |nil=>exact .nil m W _
  |cons _ _=>cases h
 |_=>cases h
theorem My {z:PV} (h:kX z=true):z.one=true:=by
 cases z<;>first|rfl|cases h
theorem Ad {z:PV} (h:kX z=true):(zv z).cells= #[zv z]:=by
 cases z with
 |raw v=>
  have h:v.oneCell'=true:=h
  show v.cells= #[v]
  cases v<;>first|rfl|(simp[Value.oneCell']at h)
 |sl m W es=>
  cases es with
  |nil=>rfl
  |cons _ _=>cases h
 |int k n=>rfl
 |bool b=>rfl
 |_=>cases h
def TI.FW (i:TI):Bool:=
 match i.d with
 | .slice _=>match i.zero with
  |[.sl _ _ []]=>true
  |_=>false
 |_=>true
theorem nm {P:Program} {t:TypeId} {i:TI} (hd:s5 P t i.d) (hi:(P.info? t).map (fun x=>(x.zero,x.size,x.bytes))=some (some i.val,i.size,i.bytes)) (hs:i.zero.length=i.size) (hz:i.zero.all kX=true)
  (hc:(i.d.agg||Nat.beq i.zero.length 1)=true) (he:i.eq=false) (hrw:i.FW=true:=by rfl):oJ P t i:=by
 have hzero:∀info z,P.info? t=some info->info.zero=some z->z=i.val:=fun info z h1 h2=>by
  rw[h1]at hi
  simp only[Option.map_some,Option.some.injEq,Prod.mk.injEq]at hi
  rw[hi.1]at h2
  exact(Option.some.inj h2).symm
 refine⟨hd,?_,fun c hc=>My (List.all_eq_true.1 hz c hc),(fun h=>by rw[he]at h;cases h),(fun h=>by rw[he]at h;cases h),fun info z h1 h2=>?_,fun info z e h1 h2 hde=>?_⟩
 rotate_left
 ·rw[hzero info z h1 h2]
  refine⟨fun ha=>⟨_,by unfold TI.val;rw[ha]⟩,fun ha=>?_⟩
  unfold TI.val
  rw[ha]at hc⊢
  have hl:i.zero.length=1:=Nat.eq_of_beq_eq_true (by simpa using hc)
  obtain⟨z',hz'⟩:=List.length_eq_one_iff.1 hl
  rw[hz']at hz⊢
  simp only[List.all_cons,List.all_nil,Bool.and_true]at hz
  exact Ad hz
 ·rw[hzero info z h1 h2]
  unfold TI.FW at hrw
  unfold TI.val
  rw[hde]at hrw⊢
  simp only[Ty.agg]at hrw⊢
  split at hrw
  ·rename_i e;rw[e];rfl
  ·cases hrw
 cases hp:P.info? t with
 |none=>rw[hp]at hi;cases hi
 |some info=>
  rw[hp]at hi
  simp only[Option.map_some,Option.some.injEq,Prod.mk.injEq]at hi
  obtain⟨h1,h2,h3⟩:=hi
  have key:i.val.cells=(i.zero.map zv).toArray:=by
   unfold TI.val
   cases ha:i.d.agg with
   |true=>rfl
   |false=>
    rw[ha]at hc
    have hl:i.zero.length=1:=Nat.eq_of_beq_eq_true (by simpa using hc)
    obtain⟨z,hz'⟩:=List.length_eq_one_iff.1 hl
    rw[hz']at hz⊢
    simp only[List.all_cons,List.all_nil,Bool.and_true]at hz
    simpa using Ad hz
  refine⟨info,i.val,rfl,h2,h3,h1,by rw[key];simpa using hs,hs,fun w FB j c v e1 e2=>?_⟩
  rw[key]at e2
  simp only[List.getElem?_toArray,List.getElem?_map,e1,Option.map_some,Option.some.injEq]at e2
  subst e2
  exact ML (List.all_eq_true.1 hz c (List.mem_of_getElem? e1))
def Dm:List (Nat×TI)->Nat->Option TI
 |[],_=>none
 |(i,x)::l,t=>cond (Nat.beq t i) (some x) (Dm l t)
def oX (P:Program):List (Nat×TI)->Prop
 |[]=>True
 |(t,i)::l=>oJ P t i/\oX P l
theorem BO {P:Program} {l:List (Nat×TI)} (h:oX P l):gW P (fun t=>Dm l t):=by
 intro t i hi
 induction l with
 |nil=>cases hi
 |cons x l ih=>
  obtain⟨t',i'⟩:=x
  simp only[Dm]at hi
  cases e:Nat.beq t t' with
  |false=>rw[e]at hi;exact ih h.2 hi
  |true=>
   rw[e]at hi
   have:=Nat.eq_of_beq_eq_true e
   subst this
   cases hi
   exact h.1
structure kz (P:Program) (t:TypeId):Prop where
 u:P.underlying t=some .bool\/∃k,P.underlying t=some (.int k)
 ok:∃i,oJ P t i/\i.d.agg=false
theorem kz.part {P:Program} {t:TypeId} (h:kz P t) {xs:Array Value} {o:Nat} {v:Value} (hv:xs[o]?=some v) (w:World):(part t xs o).run P w= .ok v w:=by
 obtain⟨i,hi,ha⟩:=h.ok
 have hlt:=(Array.getElem?_eq_some_iff.1 hv).1
 have hG:gW P (fun s=>cond (Nat.beq s t) (some i) none):=fun s j hs=>by
  cases e:Nat.beq s t with
  |false=>simp only[e]at hs;cases hs
  |true=>
   simp only[e]at hs
   cases hs
   rw[Nat.eq_of_beq_eq_true e];exact hi
 have:=kr (t:=t) hG (i:=i) qS xs o w (by rw[ha];simp;omega)
 rw[this,ha]
 simp only[Bool.false_eq_true,if_false]
 rw[Array.getD_eq_getD_getElem?,hv];rfl
theorem kz.Mi {P:Program} {t:TypeId} (h:kz P t) {k:IntKind} {a b:Int} (w:World) (hk:∃k,P.underlying t=some (.int k)) (d:Nat):(Op.equalIn (d+1) t (.int k a) (.int k b)).run P w= .ok (a==b) w:=by
 obtain⟨k',hu⟩:=hk
 simp[Op.equalIn,run_underlying hu]
theorem kz.Ng {P:Program} {t:TypeId} (h:kz P t) {a b:Bool} (w:World) (hk:P.underlying t=some .bool) (d:Nat):(Op.equalIn (d+1) t (.bool a) (.bool b)).run P w= .ok (a==b) w:=by
 simp[Op.equalIn,run_underlying hk]
inductive nu (P:Program):Nat->List Field->List PV->Prop where
 |nil {o}:nu P o [] []
 |int {o f fs k z zs} (hn:f.name≠ "_") (ho:f.offset=o) (hp:kz P f.type) (hk:∃k,P.underlying f.type=some (.int k)) (h:nu P (o+1) fs zs):nu P o (f::fs) (.int k z::zs)
 |bool {o f fs z zs} (hn:f.name≠ "_") (ho:f.offset=o) (hp:kz P f.type) (hk:P.underlying f.type=some .bool) (h:nu P (o+1) fs zs):nu P o (f::fs) (.bool z::zs)
theorem yM {P:Program} {w:World} {d:Nat} {xs ys:Array Value} {o:Nat} {fs:List Field} {zs:List PV} (hf:nu P o fs zs):∀{l1 l2:List Value} {r:Bool},I3 l1 l2 r->iB zs l1->
  (∀i v,l1[i]?=some v->xs[o+i]?=some v)->(∀i v,l2[i]?=some v->ys[o+i]?=some v)->(Op.eqFields (d+1) xs ys fs).run P w= .ok r w:=by
 induction hf with
 |nil=>intro l1 l2 r h hk _ _;cases hk;cases h;simp[Op.eqFields]
 | @int o f fs k z zs hn ho hp hu _ ih=>
  intro l1 l2 r h hk h1 h2
  cases hk with| @int _ _ a _ _ hk=>
  cases h with| @int _ _ b _ _ _ h=>
  have a1:=hp.part (h1 0 _ rfl) w
  have a2:=hp.part (h2 0 _ rfl) w
  rw[Nat.add_zero,<-ho]at a1 a2
  have a3:=fun a b=>hp.Mi (k:=k) (a:=a) (b:=b) w hu d
  have a4:=ih h hk (fun i v e=>by rw[show o+1+i=o+(i+1) by omega];exact h1 (i+1) v (by simpa using e)) (fun i v e=>by rw[show o+1+i=o+(i+1) by omega];exact h2 (i+1) v (by simpa using e))
  rw[Op.eqFields,if_pos hn]
  simp only[Sem.run_bind,a1,a2,a3,Result.andThen_ok]
  cases hb:(a==b)<;>simp[a4]
 | @bool o f fs z zs hn ho hp hu _ ih=>
  intro l1 l2 r h hk h1 h2
  cases hk with| @bool _ a _ _ hk=>
  cases h with| @bool _ b _ _ _ h=>
  have a1:=hp.part (h1 0 _ rfl) w
  have a2:=hp.part (h2 0 _ rfl) w
  rw[Nat.add_zero,<-ho]at a1 a2
  have a3:=fun a b=>hp.Ng (a:=a) (b:=b) w hu d
  have a4:=ih h hk (fun i v e=>by rw[show o+1+i=o+(i+1) by omega];exact h1 (i+1) v (by simpa using e)) (fun i v e=>by rw[show o+1+i=o+(i+1) by omega];exact h2 (i+1) v (by simpa using e))
  rw[Op.eqFields,if_pos hn]
  simp only[Sem.run_bind,a1,a2,a3,Result.andThen_ok]
  cases hb:(a==b)<;>simp[a4]
theorem vG {P:Program} {t:TypeId} (hp:kz P t) {v:Value} (hv:(∃k n,v= .int k n)\/∃b,v= .bool b) (b:Bool) (d:Nat) (w:World):(Instr.checkKey b (d+1) t v).run P w= .ok () w:=by
 unfold Instr.checkKey
 rcases hp.u with hu|⟨k,hu⟩<;>rcases hv with⟨k',n,rfl⟩|⟨b',rfl⟩<;>simp[run_underlying hu]
theorem sP {zs:List PV} {l:List Value} (h:iB zs l):∀(i:Nat) v,l[i]?=some v->(∃k n,v= .int k n)\/∃b,v= .bool b:=by
 induction h with
 |nil=>intro i v e;simp at e
 |int h ih=>intro i v e;cases i with
  |zero=>simp at e;exact .inl ⟨_,_,e.symm⟩
  |succ i=>exact ih i v (by simpa using e)
 |bool h ih=>intro i v e;cases i with
  |zero=>simp at e;exact .inr ⟨_,e.symm⟩
  |succ i=>exact ih i v (by simpa using e)
theorem nu.PZ {P:Program} {o:Nat} {fs:List Field} {zs:List PV} (hf:nu P o fs zs):zs.length=fs.length/\∀(i:Nat) f,fs[i]?=some f->f.name≠ "_" /\f.offset=o+i/\kz P f.type:=by
 induction hf with
 |nil=>exact⟨rfl,fun i f e=>by simp at e⟩
 |int hn ho hp hk _ ih=>
  refine⟨by simp[ih.1],fun i f e=>?_⟩
  cases i with
  |zero=>simp at e;subst e;exact⟨hn,qO,hp⟩
  |succ i=>have:=ih.2 i f (by simpa using e);exact⟨this.1,by rw[this.2.1];omega,this.2.2⟩
 |bool hn ho hp hk _ ih=>
  refine⟨by simp[ih.1],fun i f e=>?_⟩
  cases i with
  |zero=>simp at e;subst e;exact⟨hn,qO,hp⟩
  |succ i=>have:=ih.2 i f (by simpa using e);exact⟨this.1,by rw[this.2.1];omega,this.2.2⟩
theorem iB.len {zs:List PV} {l:List Value} (h:iB zs l):l.length=zs.length:=by
 induction h with
 |nil=>rfl
 |int _ ih=>simp[ih]
 |bool _ ih=>simp[ih]
theorem Lg {P:Program} {t:TypeId} {i:TI} (h:oJ P t {i with eq:=false}) {fs:Array Field} (hu:P.underlying t=some (.struct fs)) (hp:P.stoodInHeld t=false) (hg:P.eqGuardType P.depth t=false) (hf:nu P 0 fs.toList i.zero):oJ P t i:=by
 refine⟨h.desc,h.info,h.plain,fun _=>⟨hg,fun w xs ys r he hk=>?_⟩,fun _ w b xs hk=>?_,h.Mx,h.NV⟩
 rotate_left
 ·show(Instr.checkKey b (9999+1) t (.agg xs.toArray)).run P w= .ok () w
  rw[Instr.checkKey]
  simp only[Sem.run_bind,run_underlying hu,Result.andThen_ok]
  rw[<-Array.forIn_toList]
  obtain⟨hzl,hfs⟩:=hf.PZ
  have hxl:xs.length=fs.toList.length:=by rw[hk.len,hzl]
  have each:∀f∈fs.toList,f.name≠ "_" /\∃v,(part f.type xs.toArray f.offset).run P w= .ok v w/\(Instr.checkKey b (9998+1) f.type v).run P w= .ok () w:=fun f hm=>by
   obtain⟨i,hi⟩:=List.getElem?_of_mem hm
   obtain⟨h1,h2,h3⟩:=hfs i f hi
   have hil:i<xs.length:=by rw[hxl];exact(List.getElem?_eq_some_iff.1 hi).1
   have hx:xs[i]?=some xs[i]:=List.getElem?_eq_getElem hil
   exact⟨h1,xs[i],h3.part (by rw[h2,Nat.zero_add];simp) w,vG h3 (sP hk i _ hx) b 9998 w⟩
  generalize fs.toList=L at each
  induction L with
  |nil=>simp
  |cons f L ih=>
   obtain⟨hn,v,p1,p2⟩:=each f qS
   simp only[List.forIn_cons,Sem.run_bind,hn,ne_eq,not_false_eq_true,if_true,Result.andThen_ok,p1,p2,Sem.run_pure]
   exact ih (fun y hy=>each y (by simp[hy]))
 have hfs:P.fieldsOf t=fs:=by simp[Program.fieldsOf,hu]
 show(Op.equalIn (9998+1+1) t (.agg xs.toArray) (.agg ys.toArray)).run P w= .ok r w
 rw[run_equalIn_struct (P:=P) w (9998+1) t _ _ (by rw[hfs];exact hu) hp,hfs]
 exact yM hf he hk (fun i v e=>by simpa using e) (fun i v e=>by simpa using e)
theorem Cu {P:Program} {w:World} {d:Nat} {e:TypeId} {k:IntKind} (hp:kz P e) (hu:P.underlying e=some (.int k)) (hc:P.cellsOf e=1) {xs ys:Array Value}:∀(m o:Nat) {l1 l2:List Value} {r:Bool},I3 l1 l2 r->iB (List.replicate m (.int k 0)) l1->
  (∀i v,l1[i]?=some v->xs[o+i]?=some v)->(∀i v,l2[i]?=some v->ys[o+i]?=some v)->(Op.eqItems (d+1) e (P.cellsOf e) xs ys (List.range' o m)).run P w= .ok r w:=by
 intro m
 induction m with
 |zero=>intro o l1 l2 r h hk _ _;cases hk;cases h;simp[Op.eqItems]
 |succ m ih=>
  intro o l1 l2 r h hk h1 h2
  rw[List.replicate_succ]at hk
  cases hk with| @int _ _ a _ _ hk=>
  cases h with| @int _ _ b _ _ _ h=>
  have a1:=hp.part (h1 0 _ rfl) w
  have a2:=hp.part (h2 0 _ rfl) w
  rw[Nat.add_zero]at a1 a2
  have a3:=fun a b=>hp.Mi (k:=k) (a:=a) (b:=b) w ⟨k,hu⟩ d
  have a4:=ih (o+1) h hk (fun i v e=>by rw[show o+1+i=o+(i+1) by omega];exact h1 (i+1) v (by simpa using e)) (fun i v e=>by rw[show o+1+i=o+(i+1) by omega];exact h2 (i+1) v (by simpa using e))
  rw[List.range'_succ]
  simp only[hc]at a4
  simp only[Op.eqItems,Sem.run_bind,hc,Nat.mul_one,a1,a2,a3,Result.andThen_ok]
  cases hb:(a==b)<;>simp[a4]
theorem HZ {P:Program} {t:TypeId} {i:TI} (h:oJ P t {i with eq:=false}) {e:TypeId} {n:Nat} {k:IntKind} (hu:P.underlying t=some (.array n e)) (hg:P.eqGuardType P.depth t=false) (hp:kz P e) (he:P.underlying e=some (.int k)) (hc:P.cellsOf e=1) (hz:i.zero=List.replicate n (.int k 0)):oJ P t i:=by
 obtain⟨i',hi',_⟩:=hp.ok
 obtain⟨info,z,hi,_⟩:=hi'.info
 refine⟨h.desc,h.info,h.plain,fun _=>⟨hg,fun w xs ys r hxy hk=>?_⟩,fun _ w b xs hk=>?_,h.Mx,h.NV⟩
 rotate_left
 ·show(Instr.checkKey b (9999+1) t (.agg xs.toArray)).run P w= .ok () w
  rw[Instr.checkKey]
  simp only[Sem.run_bind,run_underlying hu,Result.andThen_ok]
  simp only[Std.Legacy.Range.forIn_eq_forIn_range',Std.Legacy.Range.size,Nat.sub_zero,Nat.add_one_sub_one,Nat.div_one]
  have hxl:xs.length=n:=by rw[hk.len,hz];simp
  have hsz:(sizeOf e).run P w= .ok 1 w:=by
   have hcells:info.size=1:=by
    have:=hc
    simp only[Program.cellsOf,hi]at this
    simpa using this
   simp[sizeOf,typeInfo,hi,hcells]
  have each:∀j∈List.range' 0 n,∃v,(part e xs.toArray (j*1)).run P w= .ok v w/\(Instr.checkKey b (9998+1) e v).run P w= .ok () w:=fun j hj=>by
   have hj':j<xs.length:=by rw[hxl];simpa using hj
   have hx:xs[j]?=some xs[j]:=List.getElem?_eq_getElem hj'
   exact⟨xs[j],hp.part (by rw[Nat.mul_one];simp) w,vG hp (sP hk j _ hx) b 9998 w⟩
  generalize List.range' 0 n=L at each
  induction L with
  |nil=>simp
  |cons j L ih=>
   obtain⟨v,p1,p2⟩:=each j qS
   simp only[List.forIn_cons,Sem.run_bind,hsz,Result.andThen_ok,p1,p2,Sem.run_pure]
   exact ih (fun y hy=>each y (by simp[hy]))
 show(Op.equalIn (9998+1+1) t (.agg xs.toArray) (.agg ys.toArray)).run P w= .ok r w
 rw[run_equalIn_array (P:=P) (w:=w) (9998+1) _ _ hu hi,List.range_eq_range']
 rw[hz]at hk
 exact Cu hp he hc n 0 hxy hk (fun i v e=>by simpa using e) (fun i v e=>by simpa using e)
section
def Ma:List (Nat×TI):=[
 (2,⟨.int .i64,1,8,[.int .i64 0],false⟩),
 (3,⟨.int .i64,1,8,[.int .i64 0],false⟩),
 (4,⟨.bool,1,1,[.bool false],false⟩),
 (5,⟨.int .u8,1,1,[.int .u8 0],false⟩),
 (7,⟨.struct [(0,2),(1,3),(2,4),(3,6)],4,24,[.int .i64 0,.int .i64 0,.bool false,.int .u8 0],false⟩),
 (9,⟨.string,1,16,[.raw (.string ByteArray.empty)],false⟩),
 (12,⟨.int .u64,1,8,[.int .u64 0],false⟩),
 (13,⟨.struct [(0,9),(1,12)],2,24,[.raw (.string ByteArray.empty),.int .u64 0],false⟩),
 (18,⟨.struct [(0,17)],1,8,[.raw (.pointer none)],false⟩),
 (21,⟨.int .i32,1,4,[.int .i32 0],false⟩),
 (22,⟨.slice 3,1,24,[.sl false 1 []],false⟩),
 (24,⟨.slice 31,1,24,[.sl false 3 []],false⟩),
 (25,⟨.struct [(0,3),(1,3),(2,3),(3,24),(4,24),(5,24),(6,24)],7,120,[.int .i64 0,.int .i64 0,.int .i64 0,.raw (.slice none 0 0),.raw (.slice none 0 0),.raw (.slice none 0 0),.raw (.slice none 0 0)],false⟩),
 (26,⟨.struct [(0,3),(1,3),(2,3),(3,24),(4,24),(5,24),(6,24)],7,120,[.int .i64 0,.int .i64 0,.int .i64 0,.raw (.slice none 0 0),.raw (.slice none 0 0),.raw (.slice none 0 0),.raw (.slice none 0 0)],false⟩),
 (29,⟨.slice 100,1,24,[.sl false 1 []],false⟩),
 (30,⟨.struct [(0,4),(1,29),(2,29)],3,56,[.bool false,.sl false 1 [],.sl false 1 []],false⟩),
 (31,⟨.struct [(0,4),(1,29),(2,29)],3,56,[.bool false,.sl false 1 [],.sl false 1 []],false⟩),
 (32,⟨.int .i64,1,8,[.int .i64 0],false⟩),
 (35,⟨.slice 47,1,24,[.sl false 1 []],false⟩),
 (40,⟨.slice 24,1,24,[.sl false 1 []],false⟩),
 (45,⟨.slice 49,1,24,[.sl false 2 []],false⟩),
 (47,⟨.int .u64,1,8,[.int .u64 0],false⟩),
 (48,⟨.struct [(0,47),(1,47)],2,16,[.int .u64 0,.int .u64 0],false⟩),
 (49,⟨.struct [(0,47),(1,47)],2,16,[.int .u64 0,.int .u64 0],true⟩),
 (83,⟨.struct [(0,4),(1,29),(2,3),(3,4)],4,48,[.bool false,.sl false 1 [],.int .i64 0,.bool false],false⟩),
 (84,⟨.struct [(0,4),(1,29),(2,3),(3,4)],4,48,[.bool false,.sl false 1 [],.int .i64 0,.bool false],false⟩),
 (100,⟨.int .u32,1,4,[.int .u32 0],false⟩),
 (101,⟨.int .u64,1,8,[.int .u64 0],false⟩),
 (102,⟨.struct [(0,26),(7,24)],8,144,[.int .i64 0,.int .i64 0,.int .i64 0,.sl false 3 [],.sl false 3 [],.sl false 3 [],.sl false 3 [],.sl false 3 []],false⟩),
 (103,⟨.struct [(0,26),(7,24)],8,144,[.int .i64 0,.int .i64 0,.int .i64 0,.sl false 3 [],.sl false 3 [],.sl false 3 [],.sl false 3 [],.sl false 3 []],false⟩),
 (105,⟨.struct [(0,4),(1,4)],2,2,[.bool false,.bool false],false⟩),
 (106,⟨.struct [(0,4),(1,4)],2,2,[.bool false,.bool false],true⟩),
 (109,⟨.array 4 24,4,96,[.sl false 3 [],.sl false 3 [],.sl false 3 [],.sl false 3 []],false⟩),
 (111,⟨.map 115 113,1,8,[.raw (.map none)],false⟩),
 (113,⟨.array 3 3,3,24,[.int .i64 0,.int .i64 0,.int .i64 0],true⟩),
 (114,⟨.struct [(0,3),(1,3)],2,16,[.int .i64 0,.int .i64 0],false⟩),
 (115,⟨.struct [(0,3),(1,3)],2,16,[.int .i64 0,.int .i64 0],true⟩),
 (123,⟨.struct [(0,31)],3,56,[.bool false,.sl false 1 [],.sl false 1 []],false⟩),
 (124,⟨.struct [(0,31)],3,56,[.bool false,.sl false 1 [],.sl false 1 []],false⟩),
 (133,⟨.other,1,8,[.raw (.nilFunc)],false⟩),
 (140,⟨.other,1,8,[.raw (.nilFunc)],false⟩),
 (143,⟨.array 2 3,2,16,[.int .i64 0,.int .i64 0],true⟩),
 (144,⟨.array 2 3,2,16,[.int .i64 0,.int .i64 0],true⟩),
 (146,⟨.struct [(0,4),(1,3)],2,16,[.bool false,.int .i64 0],false⟩),
 (147,⟨.struct [(0,4),(1,3)],2,16,[.bool false,.int .i64 0],true⟩),
 (170,⟨.struct [(0,22),(1,40),(2,40),(3,31)],6,128,[.raw (.slice none 0 0),.raw (.slice none 0 0),.raw (.slice none 0 0),.bool false,.sl false 1 [],.sl false 1 []],false⟩),
 (171,⟨.struct [(0,22),(1,40),(2,40),(3,31)],6,128,[.raw (.slice none 0 0),.raw (.slice none 0 0),.raw (.slice none 0 0),.bool false,.sl false 1 [],.sl false 1 []],false⟩),
 (175,⟨.map 3 140,1,8,[.raw (.map none)],false⟩),
 (177,⟨.array 5 47,5,40,[.int .u64 0,.int .u64 0,.int .u64 0,.int .u64 0,.int .u64 0],true⟩),
 (182,⟨.struct [(0,40),(1,31)],4,80,[.raw (.slice none 0 0),.bool false,.sl false 1 [],.sl false 1 []],false⟩),
 (183,⟨.struct [(0,40),(1,31)],4,80,[.raw (.slice none 0 0),.bool false,.sl false 1 [],.sl false 1 []],false⟩),
 (185,⟨.map 192 31,1,8,[.raw (.map none)],false⟩),
 (186,⟨.struct [(0,40),(1,22),(2,185),(3,31)],6,112,[.sl false 1 [],.sl false 1 [],.raw (.map none),.bool false,.sl false 1 [],.sl false 1 []],false⟩),
 (187,⟨.struct [(0,40),(1,22),(2,185),(3,31)],6,112,[.sl false 1 [],.sl false 1 [],.raw (.map none),.bool false,.sl false 1 [],.sl false 1 []],false⟩),
 (191,⟨.struct [(0,3),(1,3)],2,16,[.int .i64 0,.int .i64 0],false⟩),
 (192,⟨.struct [(0,3),(1,3)],2,16,[.int .i64 0,.int .i64 0],true⟩),
 (206,⟨.struct [(0,3),(1,3)],2,16,[.int .i64 0,.int .i64 0],false⟩),
 (207,⟨.struct [(0,3),(1,3)],2,16,[.int .i64 0,.int .i64 0],true⟩),
 (215,⟨.slice 31,1,24,[.sl false 3 []],false⟩),
 (220,⟨.map 238 31,1,8,[.raw (.map none)],false⟩),
 (221,⟨.struct [(0,3),(1,220),(2,220)],3,24,[.int .i64 0,.raw (.map none),.raw (.map none)],false⟩),
 (222,⟨.struct [(0,3),(1,220),(2,220)],3,24,[.int .i64 0,.raw (.map none),.raw (.map none)],false⟩),
 (225,⟨.struct [(0,40),(1,24),(2,24)],3,72,[.sl false 1 [],.sl false 3 [],.sl false 3 []],false⟩),
 (226,⟨.struct [(0,40),(1,24),(2,24)],3,72,[.sl false 1 [],.sl false 3 [],.sl false 3 []],false⟩),
 (232,⟨.map 244 31,1,8,[.raw (.map none)],false⟩),
 (233,⟨.map 244 31,1,8,[.raw (.map none)],false⟩),
 (234,⟨.struct [(0,3),(1,233),(2,233),(3,233),(4,4),(5,4)],6,40,[.int .i64 0,.raw (.map none),.raw (.map none),.raw (.map none),.bool false,.bool false],false⟩),
 (235,⟨.struct [(0,3),(1,233),(2,233),(3,233),(4,4),(5,4)],6,40,[.int .i64 0,.raw (.map none),.raw (.map none),.raw (.map none),.bool false,.bool false],false⟩),
 (238,⟨.array 2 3,2,16,[.int .i64 0,.int .i64 0],true⟩),
 (240,⟨.array 2 3,2,16,[.int .i64 0,.int .i64 0],true⟩),
 (243,⟨.struct [(0,3),(1,3)],2,16,[.int .i64 0,.int .i64 0],false⟩),
 (244,⟨.struct [(0,3),(1,3)],2,16,[.int .i64 0,.int .i64 0],true⟩),
 (247,⟨.struct [(0,17),(1,17),(2,17),(3,9)],4,40,[.raw (.pointer none),.raw (.pointer none),.raw (.pointer none),.raw (.string ByteArray.empty)],false⟩),
 (259,⟨.struct [(0,12),(1,12),(2,100),(3,253),(4,5),(5,5),(6,254),(7,255),(8,256),(9,257),(10,258)],11,48,[.int .u64 0,.int .u64 0,.int .u32 0,.int .u8 0,.int .u8 0,.int .u8 0,.int .u8 0,.raw (.nilFunc),.raw (.pointer none),.int .i32 0,.int .i32 0],false⟩)]
abbrev Γ:oy:=fun t=>Dm Ma t
section
variable {t:TypeId} {i:TI} {l:List (Nat×TI)}
theorem tk (hd:s5 Tryz.prog t i.d) (h:oX Tryz.prog l) (hi:(Tryz.prog.info? t).map (fun x=>(x.zero,x.size,x.bytes))=some (some i.val,i.size,i.bytes):=by kernel_rfl) (hs:i.zero.length=i.size:=by rfl) (hz:i.zero.all kX=true:=by rfl) (hc:(i.d.agg||Nat.beq i.zero.length 1)=true:=by rfl) (he:i.eq=false:=by rfl) (hr:i.FW=true:=by rfl):oX Tryz.prog ((t,i)::l):=
 ⟨nm hd hi hs hz hc he hr,h⟩
theorem te (hd:s5 Tryz.prog t i.d) {fs:Array Field} (hu:Tryz.prog.underlying t=some (.struct fs)) (hf:nu Tryz.prog 0 fs.toList i.zero) (h:oX Tryz.prog l) (hi:(Tryz.prog.info? t).map (fun x=>(x.zero,x.size,x.bytes))=some (some i.val,i.size,i.bytes):=by kernel_rfl) (hs:i.zero.length=i.size:=by rfl) (hz:i.zero.all kX=true:=by rfl)
  (hc:(i.d.agg||Nat.beq i.zero.length 1)=true:=by rfl) (hp:Tryz.prog.stoodInHeld t=false:=by kernel_rfl) (hg:Tryz.prog.eqGuardType Tryz.prog.depth t=false:=by kernel_rfl) (hr:({i with eq:=false}:TI).FW=true:=by rfl):oX Tryz.prog ((t,i)::l):=
 ⟨Lg (nm (i:={i with eq:=false}) hd hi hs hz hc rfl hr) hu hp hg hf,h⟩
theorem ta {e:TypeId} {n:Nat} {k:IntKind} (hu:Tryz.prog.underlying t=some (.array n e)) (hp:kz Tryz.prog e) (he:Tryz.prog.underlying e=some (.int k)) (h:oX Tryz.prog l) (hd:i.d= .array n e:=by rfl) (hi:(Tryz.prog.info? t).map (fun x=>(x.zero,x.size,x.bytes))=some (some i.val,i.size,i.bytes):=by kernel_rfl) (hs:i.zero.length=i.size:=by rfl) (hz:i.zero.all kX=true:=by rfl)
  (hc:(i.d.agg||Nat.beq i.zero.length 1)=true:=by rfl) (hg:Tryz.prog.eqGuardType Tryz.prog.depth t=false:=by kernel_rfl) (hq:Tryz.prog.cellsOf e=1:=by kernel_rfl) (hzz:i.zero=List.replicate n (.int k 0):=by rfl) (hr:({i with eq:=false}:TI).FW=true:=by rfl):oX Tryz.prog ((t,i)::l):=
 ⟨HZ (nm (i:={i with eq:=false}) (by show s5 _ t i.d;rw[hd];exact hu) hi hs hz hc rfl hr) hu hg hp he hq hzz,h⟩
end
theorem p3:oJ Tryz.prog 3 ⟨.int .i64,1,8,[.int .i64 0],false⟩:=nm Tryz.underlying3 qK rfl rfl rfl rfl
theorem f3 {o:Nat} {f:Field} {fs:List Field} {k:IntKind} {z:Int} {zs:List PV} (h:nu Tryz.prog (o+1) fs zs) (ht:f.type=3:=by rfl) (hn:f.name≠ "_" :=by decide) (ho:f.offset=o:=by rfl):nu Tryz.prog o (f::fs) (.int k z::zs):=.int hn ho (ht▸⟨.inr ⟨_,Tryz.underlying3⟩,_,p3,rfl⟩) ⟨_,ht▸Tryz.underlying3⟩ h
theorem p4:oJ Tryz.prog 4 ⟨.bool,1,1,[.bool false],false⟩:=nm Tryz.underlying4 qK rfl rfl rfl rfl
theorem f4 {o:Nat} {f:Field} {fs:List Field} {z:Bool} {zs:List PV} (h:nu Tryz.prog (o+1) fs zs) (ht:f.type=4:=by rfl) (hn:f.name≠ "_" :=by decide) (ho:f.offset=o:=by rfl):nu Tryz.prog o (f::fs) (.bool z::zs):=.bool hn ho (ht▸⟨.inl Tryz.underlying4,_,p4,rfl⟩) (ht▸Tryz.underlying4) h
theorem P2:oJ Tryz.prog 47 ⟨.int .u64,1,8,[.int .u64 0],false⟩:=nm Tryz.underlying47 qK rfl rfl rfl rfl
theorem P3 {o:Nat} {f:Field} {fs:List Field} {k:IntKind} {z:Int} {zs:List PV} (h:nu Tryz.prog (o+1) fs zs) (ht:f.type=47:=by rfl) (hn:f.name≠ "_" :=by decide) (ho:f.offset=o:=by rfl):nu Tryz.prog o (f::fs) (.int k z::zs):=.int hn ho (ht▸⟨.inr ⟨_,Tryz.underlying47⟩,_,P2,rfl⟩) ⟨_,ht▸Tryz.underlying47⟩ h
theorem vI:gW Tryz.prog Γ:=BO (show oX Tryz.prog Ma from
 tk Tryz.underlying2<|
 tk Tryz.underlying3<|
 tk Tryz.underlying4<|
 tk Tryz.underlying5<|
 tk ⟨_,Tryz.underlying7,rfl⟩<|
 tk Tryz.underlying9<|
 tk Tryz.underlying12<|
 tk ⟨_,Tryz.underlying13,rfl⟩<|
 tk ⟨_,Tryz.underlying18,rfl⟩<|
 tk Tryz.underlying21<|
 tk Tryz.underlying22<|
 tk Tryz.underlying24<|
 tk ⟨_,Tryz.underlying25,rfl⟩<|
 tk ⟨_,Tryz.underlying26,rfl⟩<|
 tk Tryz.underlying29<|
 tk ⟨_,Tryz.underlying30,rfl⟩<|
 tk ⟨_,Tryz.underlying31,rfl⟩<|
 tk Tryz.underlying32<|
 tk Tryz.underlying35<|
 tk Tryz.underlying40<|
 tk Tryz.underlying45<|
 tk Tryz.underlying47<|
 tk ⟨_,Tryz.underlying48,rfl⟩<|
 te ⟨_,Tryz.underlying49,rfl⟩ Tryz.underlying49 (P3 (P3 .nil))<|
 tk ⟨_,Tryz.underlying83,rfl⟩<|
 tk ⟨_,Tryz.underlying84,rfl⟩<|
 tk Tryz.underlying100<|
 tk Tryz.underlying101<|
 tk ⟨_,Tryz.underlying102,rfl⟩<|
 tk ⟨_,Tryz.underlying103,rfl⟩<|
 tk ⟨_,Tryz.underlying105,rfl⟩<|
 te ⟨_,Tryz.underlying106,rfl⟩ Tryz.underlying106 (f4 (f4 .nil))<|
 tk Tryz.underlying109<|
 tk Tryz.underlying111<|
 ta Tryz.underlying113 ⟨.inr ⟨_,Tryz.underlying3⟩,_,p3,rfl⟩ Tryz.underlying3<|
 tk ⟨_,Tryz.underlying114,rfl⟩<|
 te ⟨_,Tryz.underlying115,rfl⟩ Tryz.underlying115 (f3 (f3 .nil))<|
 tk ⟨_,Tryz.underlying123,rfl⟩<|
 tk ⟨_,Tryz.underlying124,rfl⟩<|
 tk ⟨_,Tryz.underlying133,trivial⟩<|
 tk ⟨_,Tryz.underlying140,trivial⟩<|
 ta Tryz.underlying143 ⟨.inr ⟨_,Tryz.underlying3⟩,_,p3,rfl⟩ Tryz.underlying3<|
 ta Tryz.underlying144 ⟨.inr ⟨_,Tryz.underlying3⟩,_,p3,rfl⟩ Tryz.underlying3<|
 tk ⟨_,Tryz.underlying146,rfl⟩<|
 te ⟨_,Tryz.underlying147,rfl⟩ Tryz.underlying147 (f4 (f3 .nil))<|
 tk ⟨_,Tryz.underlying170,rfl⟩<|
 tk ⟨_,Tryz.underlying171,rfl⟩<|
 tk Tryz.underlying175<|
 ta Tryz.underlying177 ⟨.inr ⟨_,Tryz.underlying47⟩,_,P2,rfl⟩ Tryz.underlying47<|
 tk ⟨_,Tryz.underlying182,rfl⟩<|
 tk ⟨_,Tryz.underlying183,rfl⟩<|
 tk Tryz.underlying185<|
 tk ⟨_,Tryz.underlying186,rfl⟩<|
 tk ⟨_,Tryz.underlying187,rfl⟩<|
 tk ⟨_,Tryz.underlying191,rfl⟩<|
 te ⟨_,Tryz.underlying192,rfl⟩ Tryz.underlying192 (f3 (f3 .nil))<|
 tk ⟨_,Tryz.underlying206,rfl⟩<|
 te ⟨_,Tryz.underlying207,rfl⟩ Tryz.underlying207 (f3 (f3 .nil))<|
 tk Tryz.underlying215<|
 tk Tryz.underlying220<|
 tk ⟨_,Tryz.underlying221,rfl⟩<|
 tk ⟨_,Tryz.underlying222,rfl⟩<|
 tk ⟨_,Tryz.underlying225,rfl⟩<|
 tk ⟨_,Tryz.underlying226,rfl⟩<|
 tk Tryz.underlying232<|
 tk Tryz.underlying233<|
 tk ⟨_,Tryz.underlying234,rfl⟩<|
 tk ⟨_,Tryz.underlying235,rfl⟩<|
 ta Tryz.underlying238 ⟨.inr ⟨_,Tryz.underlying3⟩,_,p3,rfl⟩ Tryz.underlying3<|
 ta Tryz.underlying240 ⟨.inr ⟨_,Tryz.underlying3⟩,_,p3,rfl⟩ Tryz.underlying3<|
 tk ⟨_,Tryz.underlying243,rfl⟩<|
 te ⟨_,Tryz.underlying244,rfl⟩ Tryz.underlying244 (f3 (f3 .nil))<|
 tk ⟨_,Tryz.underlying247,rfl⟩<|
 tk ⟨_,Tryz.underlying259,rfl⟩<|trivial)
end
abbrev bV (l:List Nat):List PV:=l.map fun(x:Nat)=>.int .u32 x
abbrev dn (l:List Int):List PV:=l.map fun x=>.int .i64 x
abbrev vN:FuncId->Bool:=fun _=>false
theorem mixed:Tryz.prog.follows .mixedOrders=true:=qK
theorem jx {a b:Int} (h:a=b):(a==b)=true:=beq_iff_eq.2 h
theorem iO {a b:Int} (h:a≠b):(a==b)=false:=beq_eq_false_iff_ne.2 h
theorem BA {a b:Int} (h:a≠b):(a !=b)=true:=bne_iff_ne.2 h
theorem uQ {a b:Int} (h:a=b):(a !=b)=false:=by rw[h];exact bne_self_eq_false b
theorem cx {a b:Nat} (h:Nat.ble a b=true):a<=b:=Nat.le_of_ble_eq_true h
theorem ox (k:IntKind) (hs:k.signed=false) (e:Int):k.wrap e=e%2^k.bits:=by
 simp only[IntKind.wrap,hs,Bool.false_and,if_neg Bool.false_ne_true]
theorem ai.u64 {e:Int} {K:Int->Prop} (h:0<=e/\e<18446744073709551616) (hk:K e):ai .u64 e K:=.mk e (by rw[ox _ rfl];exact Int.emod_eq_of_lt h.1 h.2) hk
theorem ai.M3 {e:Int} {K:Int->Prop} (hk:K (e%18446744073709551616)):ai .u64 e K:=.mk _ (by rw[ox _ rfl];rfl) hk
theorem ai.bD {e:Int} {K:Int->Prop} (z:Int) (hz:e=z) (h: -9223372036854775808<=z/\z<9223372036854775808) (hk:K z):ai .i64 e K:=.mk z (by rw[IntKind.wrap_i64];omega) hk
theorem ai.ed {e:Int} {K:Int->Prop} (z:Nat) (hz:e=z) (h:z<18446744073709551616) (hk:K z):ai .u64 e K:=.mk z (by rw[ox _ rfl,hz];exact Int.emod_eq_of_lt qO (by show(z:Int)<18446744073709551616;omega)) hk
theorem ai.gS {e:Int} {K:Int->Prop} (z:Nat) (hz:e%4294967296=z) (hk:K z):ai .u32 e K:=.mk z (by rw[ox _ rfl];exact hz) hk
theorem ai.Ed {e:Int} {K:Int->Prop} (z:Nat) (hz:e%18446744073709551616=z) (hk:K z):ai .u64 e K:=.mk z (by rw[ox _ rfl];exact hz) hk
theorem aF.lb {l:List Nat} {i:Int} {K:Nat->PV->Prop} (j:Nat) (hi:i=j) (hj:j<l.length) (hk:K j (.int .u32 ((l.getD j 0:Nat):Int))):aF (bV l) i K:=
 .mk j _ hi (by simp[List.getElem?_map,List.getElem?_eq_getElem hj,List.getD]) hk
theorem aF.ib {l:List Int} {i:Int} {K:Nat->PV->Prop} (j:Nat) (hi:i=j) (hj:j<l.length) (hk:K j (.int .i64 (l.getD j 0))):aF (dn l) i K:=
 .mk j _ hi (by simp[List.getElem?_map,List.getElem?_eq_getElem hj,List.getD]) hk
@[simp] theorem aA.Ps {T:TypeId} {W:Nat} {es:List PV}:(aA.vec T W es).top= .vec T W es:=rfl
@[simp] theorem aA.Px {T:TypeId} {cs:List AV}:(aA.box T cs).top= .box T cs:=rfl
@[simp] theorem aA.Ph {T:TypeId} {cs:List AV}:(aA.rows T cs).top= .rows T cs:=rfl
@[simp] theorem aA.Pv {es:List (PV×PV)}:(aA.map es).top= .map es:=rfl
@[simp] theorem aA.OI:aA.dead.top= .dead:=rfl
theorem bI (h:Hd):look [] h= .free:=by cases h<;>rfl
theorem ab.pure {av r:AV} {H:Hp} (h:Conv [] H av r):ab [] av H r []:=
 .mk [] rfl List.nodup_nil rfl (Nat.le_refl _) (fun h hl=>by rw[bI]at hl;exact hl.elim) (fun h hl=>absurd (bI h) hl) (fun i h B e=>by simp at e) h
theorem gZ {a:Nat} {K:Int->Prop} (hk:K ((a/4294967296:Nat):Int)):DH 32 (SZ ((a:Int).fdiv (2^(min (32:Int).toNat (IntKind.bits .u64)))) K):=
 .mk qD (.mk _ (by
  show Int.fdiv (a:Int) 4294967296=_
  rw[Int.fdiv_eq_ediv_of_nonneg _ qD];omega) hk)
theorem A5 {a:Nat} {K:Int->Prop} (hk:K ((a/9223372036854775808:Nat):Int)):DH 63 (SZ ((a:Int).fdiv (2^(min (63:Int).toNat (IntKind.bits .u64)))) K):=
 .mk qD (.mk _ (by
  show Int.fdiv (a:Int) 9223372036854775808=_
  rw[Int.fdiv_eq_ediv_of_nonneg _ qD];omega) hk)
theorem bl.all {es:List PV} {n:Nat} {K:List PV->Prop} (hn:n=es.length) (hk:K es):bl es 0 n K:=.mk es (by rw[List.drop_zero];exact List.take_of_length_le qO) qO hk
theorem dp.set {l:List Nat} {i x:Nat} {K:List PV->Prop} (hk:K (bV (l.set i x))):dp ((bV l).set i (.int .u32 x)) K:=.mk _ (by simp[bV,List.map_set]) hk
theorem cm.set {l:List Nat} {i:Nat} {K:Prop} (h:i<l.length) (hk:K):cm i (bV l).length K:=.mk (by simpa using h) hk
theorem aF.xf {l:List Nat} {i:Nat} {K:Nat->PV->Prop} (hj:i<l.length) (hk:K i (.int .u32 ((l.getD i 0:Nat):Int))):aF (bV l) (i:Int) K:=.lb i rfl hj hk
theorem bM (n:Nat):List.replicate n (PV.int .u32 0)=bV (List.replicate n 0):=by simp[bV]
theorem cy.u32 {n:Int} {K:Nat->Prop} (j:Nat) (hi:n=j) (h:j<=4398046511104) (hk:K j):cy n 4 K:=.mk j hi qO qO hk
theorem aa.pure {P:Program} {wr:Bool} {f:FuncId} {L:Hd->aA} {base:Nat} {K:AV->List (Hd×aA)->Prop} {raw:List AV} {pvs:List PV} {r:PV} (hc:ae P f pvs (.p r) []) (hk:K (.p r) []):aa P wr f raw (pvs.map .p) L base K:=
 .mk [] (pvs.map .p) (.p r) [] [] (fun _=>rfl) .nil (fun _ h=>by simp at h) (by rw[AV.bP,List.map_map];exact List.map_congr_left fun _ _=>rfl) rfl (fun i h B e=>by simp at e) (fun _ h=>by simp at h) (fun _ h=>by simp at h) (Nat.zero_le _) (fun _ h=>by simp at h)
  (fun a ha k hk=>by obtain⟨v,_,rfl⟩:=List.mem_map.1 ha;simp only[AV.aT]at hk) hc hk
section
theorem aW {f:FuncId} {fn:Func} {c:Code} {args:List AV} {Hin:Hp} {r:AV} {Hout:Hp} (hf:Tryz.prog.funcs[f]?=some fn) (h:VC Γ Tryz.prog vN (Hin.map aA.K8) c (Oa Γ Tryz.prog vN fn.results.toList Hin r Hout) (nO 0 args) Hin)
  (h1:(fn.name== "runtime.NumGoroutine")=false:=by kernel_rfl) (h2:fn.body=some c:=by rfl) (h3:fits fn.ntmps c=true:=by kernel_rfl) (h4:args.length<=fn.ntmps:=by exact cx rfl) (h5:∀B∈Hin,B≠ .free:=by simp):df Tryz.prog f args Hin r Hout:=
 bZ vI mixed hf h1 h2 h3 h4 h5 h
theorem Jy {wr:FuncId->Bool} {f:FuncId} {fn:Func} {c:Code} {args:List AV} {Hin:Hp} {r:AV} {Hout:Hp} (hf:Tryz.prog.funcs[f]?=some fn) (h:VC Γ Tryz.prog wr (Hin.map aA.K8) c (Oa Γ Tryz.prog wr fn.results.toList Hin r Hout) (nO 0 args) Hin)
  (h1:(fn.name== "runtime.NumGoroutine")=false:=by kernel_rfl) (h2:fn.body=some c:=by rfl) (h3:fits fn.ntmps c=true:=by kernel_rfl) (h4:args.length<=fn.ntmps:=by exact cx rfl) (h5:∀B∈Hin,B≠ .free:=by simp):df Tryz.prog f args Hin r Hout:=
 bZ vI mixed hf h1 h2 h3 h4 h5 h
theorem af {α β:Type} {a:α} {b:β}:a=a/\b=b:=⟨rfl,rfl⟩
section
variable {F:(AV->List (Hd×aA)->Prop)->Prop} {q:Bool} {base:Nat} {K:AV->List (Hd×aA)->Prop} {v:AV} {ups:List (Hd×aA)}
theorem aq (hk:K v ups) (h:F (fun v' ups'=>v'=v/\ups'=ups):=by exact⟨rfl,rfl⟩) (hb:(!q||ups.all fun x=>Hd.from base x.1)=true:=by rfl):e9 F q base K:=.mk v ups h hb hk
theorem ag (h:F fun v' ups'=>v'=v/\ups'=ups) (hk:K v ups) (hb:(!q||ups.all fun x=>Hd.from base x.1)=true:=by rfl):e9 F q base K:=.mk v ups h hb hk
end
section
variable {e:Int} {K:Int->Prop}
theorem kJ (z:Int) (hk:K z) (hz:e=z:=by omega) (h: -9223372036854775808<=z/\z<9223372036854775808:=by omega):ai .i64 e K:=.bD z hz h hk
theorem a5 (z:Nat) (hk:K z) (hz:e=z:=by omega) (h:(z:Int)<9223372036854775808:=by omega):ai .i64 e K:=.bD z hz ⟨by omega,h⟩ hk
theorem xt (z:Nat) (hk:K z) (hz:e=z:=by omega) (h:z<18446744073709551616:=by omega):ai .u64 e K:=.ed z hz h hk
end
section
variable {b:Bool} {K:AV->Prop}
theorem bo (hk:K (.tf true)) (h:b=true:=by exact decide_eq_true (by omega)):ao b K:=.yes h hk
theorem bd (hk:K (.tf false)) (h:b=false:=by exact decide_eq_false (by omega)):ao b K:=.no h hk
theorem ir (hk:K (.tf true)) (h:b=true:=by rfl):ao b K:=.yes h hk
theorem cJ (hk:K (.tf false)) (h:b=false:=by rfl):ao b K:=.no h hk
end
section
variable {A B:Prop} {b b2:Bool}
theorem gv (h:A):iK true A B:=.mk (fun _=>h) fun h=>by cases h
theorem fI (h:B):iK false A B:=.mk (fun h=>by cases h) fun _=>h
theorem gx (hk:A) (h:b=true:=by kernel_rfl):pD b A b2 B:=.mk h hk
theorem cS (hk:B) (h:b2=true:=by kernel_rfl):pD b A b2 B:=.Oo h hk
theorem cX (hk:A) (h:b=true:=by kernel_rfl):vo b A b2 B:=.mk h hk
end
theorem aY {nin:List (Option Nat)} {hs:List Nat} {p:Sl×Hp} {s:Sl} {H:Hp} (sh:rq (sA p.2 p.1 (mY p.2 p.2 (oV nin p.2 True))) hs (dy hs p.2) H p.2 0:=by repeat (first|exact trivial|refine⟨rfl,?_⟩))
  (ss:vP (dy hs p.2) s p.1:=by repeat (first|exact trivial|refine⟨rfl,?_⟩)) (pre:hs.take nin.length=List.range nin.length:=by rfl) (nd:(hs.flatMap gp).Nodup:=by simp) (len:hs.length=p.2.length:=by rfl)
  (bs:tJ p.2.length p.1=true:=by rfl) (bh:sH p.2.length p.2=true:=by rfl):Ev nin hs p s H:=⟨pre,nd,len,bs,bh,ss,sh⟩
theorem cA {P:Prop} (h:P:=by first|omega|(dsimp only[id];omega)):P:=h
section
variable {H:Hp} {c0 c1 c2 c3 d0 d1 d2 d3:AV}
theorem eT (h0:Conv [] H c0 d0) (h1:Conv [] H c1 d1):ab [] (.bK [c0,c1]) H (.bK [d0,d1]) []:=ab.pure (.bK rfl fun i c d e1 e2=>by
 match i,e1,e2 with
 |0,e1,e2=>cases e1;cases e2;exact h0
 |1,e1,e2=>cases e1;cases e2;exact h1)
theorem yl (h0:Conv [] H c0 d0) (h1:Conv [] H c1 d1) (h2:Conv [] H c2 d2):ab [] (.bK [c0,c1,c2]) H (.bK [d0,d1,d2]) []:=ab.pure (.bK rfl fun i c d e1 e2=>by
 match i,e1,e2 with
 |0,e1,e2=>cases e1;cases e2;exact h0
 |1,e1,e2=>cases e1;cases e2;exact h1
 |2,e1,e2=>cases e1;cases e2;exact h2)
end
end
end Go.Proofs.YtiakeknbdclaoaaGreat
