/- FTOwn: what its proof needs, part 3. -/
import Derived.Test.YtnilcfiemgmfdaaGreatMTOwn2
set_option linter.unusedVariables false
set_option linter.unusedSimpArgs false
namespace Go.Proofs.YtnilcfiemgmfdaaGreat
open Go
set_option maxRecDepth 10000
section
def aK {σ:Type} (app:σ->Nat->σ) (D:Nat->Bool) (x:σ):Nat->σ
 |0=>x
 |k+1=>bif D k then app (aK app D x k) k else aK app D x k
def eh (D:Nat->Bool) (k:Nat):Nat->Bool:=fun j=>D j||Nat.beq j k
def bf:Nat->Bool:=fun _=>true
theorem fQ {σ:Type} {app:σ->Nat->σ} {D D':Nat->Bool} {x:σ}:∀(n:Nat),(∀j,j<n->D j=D' j)->aK app D x n=aK app D' x n:=by
 intro n
 induction n with
 |zero=>intro _;rfl
 |succ n ih=>
  intro h
  simp only[aK]
  rw[ih fun j hj=>h j (by omega),h n (by omega)]
theorem vd {i j:Nat} (h:i≠j):Nat.beq i j=false:=by
 cases e:Nat.beq i j with
 |false=>rfl
 |true=>exact(h (Nat.eq_of_beq_eq_true e)).elim
theorem gX {D:Nat->Bool} {k j:Nat} (h:j≠k):eh D k j=D j:=by simp[eh,vd h]
theorem iB {D:Nat->Bool} {k:Nat}:eh D k k=true:=by simp[eh]
theorem mC {σ:Type} {app:σ->Nat->σ} {D:Nat->Bool} {x:σ} {k:Nat} (hk:D k=false):∀n,k<n->(∀j,k<j->j<n->D j=true->∀y,app (app y k) j=app (app y j) k)->aK app (eh D k) x n=app (aK app D x n) k:=by
 intro n
 induction n with
 |zero=>intro h;omega
 |succ n ih=>
  intro hn hc
  simp only[aK]
  by_cases e:k=n
  ·subst e
   rw[iB,hk,fQ (D':=D) k fun j hj=>gX (by omega)]
   rfl
  ·rw[gX (by omega),ih (by omega) fun j h1 h2=>hc j h1 (by omega)]
   cases hd:D n with
   |false=>rfl
   |true=>exact hc n (by omega) (by omega) hd _
theorem cT {σ:Type} {app:σ->Nat->σ} {x:σ}:∀n,aK app bf x (n+1)=aK (fun y k=>app y (k+1)) bf (app x 0) n:=by
 intro n
 induction n with
 |zero=>rfl
 |succ n ih=>
  rw[aK,ih]
  rfl
def eW (ops:List Oper) (D:Nat->Bool):Prop:=∀j o,D j=true->ops[j]?=some o->∀e∈o.after.toList,Region.binds .any e=true->D e.on=true
theorem xP {ops:List Oper} {D:Nat->Bool} (hD:eW ops D) {acc:List Nat} (hacc:∀j,j<acc.length->D j=true->∀i,(acc.getD j 0).testBit i=true->D i=true):∀(es:List Edge),(∀e∈es,Region.binds .any e=true->D e.on=true)->∀i,(i9 acc es).testBit i=true->D i=true:=by
 intro es
 induction es with
 |nil=>intro _ i h;simp[i9]at h
 |cons e es ih=>
  intro hes i h
  simp only[i9]at h
  cases hb:Region.binds .any e with
  |false=>rw[hb]at h;exact ih (fun e he=>hes e (List.mem_cons_of_mem _ he)) i h
  |true=>
   rw[hb]at h
   have hon:=hes e List.mem_cons_self hb
   have h:((2^e.on|||acc.getD e.on 0)|||i9 acc es).testBit i=true:=h
   rw[Nat.testBit_or,Nat.testBit_or,Bool.or_eq_true,Bool.or_eq_true]at h
   rcases h with(h|h)|h
   ·rw[Nat.testBit_two_pow]at h
    have:e.on=i:=by simpa using h
    rw[<-this];exact hon
   ·rcases Nat.lt_or_ge e.on acc.length with hlt|hge
    ·exact hacc _ hlt hon i h
    ·rw[dI _ _ hge]at h;simp at h
   ·exact ih (fun e he=>hes e (List.mem_cons_of_mem _ he)) i h
theorem nY {ops:List Oper} {D:Nat->Bool} (hD:eW ops D):∀(rest:List Oper) (acc:List Nat),ops.drop acc.length=rest->(∀j,j<acc.length->D j=true->∀i,(acc.getD j 0).testBit i=true->D i=true)->
  ∀j,D j=true->∀i,((gS rest acc).getD j 0).testBit i=true->D i=true:=by
 intro rest
 induction rest with
 |nil=>
  intro acc _ hacc j hj i h
  simp only[gS]at h
  rcases Nat.lt_or_ge j acc.length with hlt|hge
  ·exact hacc j hlt hj i h
  ·rw[dI _ _ hge]at h;simp at h
 |cons o rest ih=>
  intro acc hd hacc j hj i h
  simp only[gS]at h
  have ho:ops[acc.length]?=some o:=by
   have:=congrArg (fun l=>l[0]?) hd
   simpa[List.getElem?_drop]using this
  refine ih (acc++[i9 acc o.after.toList]) ?_ ?_ j hj i h
  ·have:=congrArg (List.drop 1) hd
   rw[List.drop_drop]at this
   simpa using this
  ·intro j hlt hj i h
   by_cases e:j<acc.length
   ·refine hacc j e hj i ?_
    simpa[List.getD,List.getElem?_append_left e]using h
   ·have:j=acc.length:=by simp at hlt;omega
    subst this
    have h:(i9 acc o.after.toList).testBit i=true:=by simpa[List.getD]using h
    exact xP hD hacc _ (fun e he hb=>hD _ o hj ho e he hb) i h
section
variable {P:Program} {Γ:kU} {E:Env} {n:Nat}
theorem ve {ops:Array Oper} (h:qY ops=true) {j:Nat} {o:Oper} (ho:ops[j]?=some o):∀e∈o.after.toList,Region.binds .any e=true->e.on<j:=by
 intro e he hb
 have hm:(o,j)∈ops.toList.zipIdx:=by rw[List.mem_zipIdx_iff_getElem?];simpa using ho
 have:=List.all_eq_true.1 h _ hm
 rw[Bool.and_eq_true]at this
 have:=List.all_eq_true.1 this.1 e he
 rw[hb]at this
 simpa using this
theorem tN {ops:Array Oper} (h:qY ops=true) {i j:Nat} {x y:Oper} (hx:ops[i]?=some x) (hy:ops[j]?=some y) (hij:i<j):
  (x.apart ops y=true/\quiet ops x.op=true/\quiet ops y.op=true)\/∀D,eW ops.toList D->D j=true->D i=true:=by
 have hmx:(x,i)∈ops.toList.zipIdx:=by rw[List.mem_zipIdx_iff_getElem?];simpa using hx
 have hmy:(y,j)∈ops.toList.zipIdx:=by rw[List.mem_zipIdx_iff_getElem?];simpa using hy
 have:=List.all_eq_true.1 h _ hmy
 rw[Bool.and_eq_true]at this
 have:=List.all_eq_true.1 this.2 _ hmx
 have hlt:Nat.blt i j=true:=by simpa using hij
 simp only[hlt,Bool.not_true,Bool.false_or,Bool.or_eq_true,Bool.and_eq_true]at this
 rcases this with h1|h2
 ·exact .inl h1
 ·exact .inr fun D hD hj=>nY hD _ [] rfl (fun j hj=>absurd hj (Nat.not_lt_zero _)) j hj i h2
theorem m5 {ops:Array Oper} (h:iV ops=true) {j:Nat} {o:Oper} (ho:ops[j]?=some o):∀e∈o.after.toList,Region.binds .any e=true->e.on<j:=by
 intro e he hb
 have hm:(o,j)∈ops.toList.zipIdx:=by rw[List.mem_zipIdx_iff_getElem?];simpa using ho
 have:=List.all_eq_true.1 h _ hm
 rw[Bool.and_eq_true]at this
 have:=List.all_eq_true.1 this.1 e he
 rw[hb]at this
 simpa using this
theorem q8 {ops:Array Oper} {acc:Acc} (h:iV ops=true) (hdy:xG ops acc=true) {i j:Nat} {x y:Oper} (hx:ops[i]?=some x) (hy:ops[j]?=some y) (hij:i<j):
  (x.apart ops y=true/\((quiet ops x.op=true/\quiet ops y.op=true)\/(dP x.op=true/\dP y.op=true/\zG (acc.getD i ([],[])) (acc.getD j ([],[]))=true)))\/∀D,eW ops.toList D->D j=true->D i=true:=by
 have hmx:(x,i)∈ops.toList.zipIdx:=by rw[List.mem_zipIdx_iff_getElem?];simpa using hx
 have hmy:(y,j)∈ops.toList.zipIdx:=by rw[List.mem_zipIdx_iff_getElem?];simpa using hy
 have:=List.all_eq_true.1 h _ hmy
 rw[Bool.and_eq_true]at this
 have h1:=List.all_eq_true.1 this.2 _ hmx
 have h2:=List.all_eq_true.1 (List.all_eq_true.1 hdy _ hmy) _ hmx
 have hlt:Nat.blt i j=true:=by simpa using hij
 simp only[hlt,Bool.not_true,Bool.false_or,Bool.or_eq_true,Bool.and_eq_true]at h1 h2
 have ord:((gS ops.toList []).getD j 0).testBit i=true->∀D,eW ops.toList D->D j=true->D i=true:=fun h2 D hD hj=>nY hD _ [] rfl (fun j hj=>absurd hj (Nat.not_lt_zero _)) j hj i h2
 rcases h1 with⟨ha,hq⟩|h1
 ·rcases h2 with h2|h2|h2
  ·exact .inl ⟨ha,.inl h2⟩
  ·exact .inr (ord h2)
  ·exact .inl ⟨ha,.inr ⟨hq.1,hq.2,h2⟩⟩
 ·exact .inr (ord h1)
theorem AV.AZ:∀{c:AV} {h:Hd},c.aU h->h.key∈c.xd:=by
 have key:∀(m:Nat) (c:AV),SizeOf.sizeOf c<=m->∀h,c.aU h->h.key∈c.xd:=by
  intro m
  induction m with
  |zero=>intro c hc;cases c<;>simp at hc
  |succ m ih=>
   intro c hc h hm
   have list:∀cs:List AV,SizeOf.sizeOf cs<=m->AV.bo cs h->h.key∈AV.fc cs:=by
    intro cs
    induction cs with
    |nil=>intro _ h;simp only[AV.bo]at h
    |cons d cs ih2=>
     intro hs hj
     simp only[AV.bo]at hj
     simp at hs
     simp only[AV.fc,List.mem_append]
     rcases hj with hj|hj
     ·exact .inl (ih d (by omega) h hj)
     ·exact .inr (ih2 (by omega) hj)
   cases c<;>simp only[AV.aU]at hm<;>simp only[AV.xd]
   case aF g o=>subst hm;simp
   case c5 g _ _ _=>subst hm;simp
   case vec g _ _ _=>subst hm;simp
   case map g=>subst hm;simp
   case agg cs=>exact list cs (by simp at hc;omega) hm
   case bq cs=>exact list cs (by simp at hc;omega) hm
   case fn f fs cs=>
    rw[List.mem_append]
    rcases hm with hm|hm
    ·exact .inl (list fs (by simp at hc;omega) hm)
    ·exact .inr (list cs (by simp at hc;omega) hm)
 exact fun{c h}=>key _ c (Nat.le_refl _) h
theorem AV.mB {cs:List AV} {c:AV} {h:Hd} (hc:c∈cs) (hm:c.aU h):h.key∈AV.fc cs:=by
 induction cs with
 |nil=>cases hc
 |cons d cs ih=>
  simp only[AV.fc,List.mem_append]
  rcases List.mem_cons.1 hc with rfl|hc
  ·exact .inl (AV.AZ hm)
  ·exact .inr (ih hc)
abbrev W0 (s:Nat->AV) (x:Operand) (K:AV->Prop):Prop:=K (cf s x)
abbrev fW (L:Hd->aC) (h:Hd) (K:aC->Prop):Prop:=K (L h)
theorem mE {s:Sl} {t:Nat} {K:AV->Prop}:jv s t K=K (aT s t):=by
 induction s with
 |nil=>rfl
 |cons x s ih=>
  obtain⟨i,v⟩:=x
  simp only[jv,aT]
  cases e:Nat.beq i t
  ·exact ih
  ·rfl
theorem xB (s:Sl):WK s=W0 (aT s):=by
 funext x K
 cases x with
 |tmp t=>exact mE
 |_=>rfl
section
variable {s s':Nat->AV} {L L':Hd->aC} {base:Nat}
theorem td:∀(xs:List Operand) (K:List AV->Prop),(∀x∈xs,cf s x=cf s' x)->eK (W0 s) xs K=eK (W0 s') xs K:=by
 intro xs
 induction xs with
 |nil=>intro K _;rfl
 |cons x xs ih=>
  intro K h
  simp only[eK,W0]
  rw[h x List.mem_cons_self,ih _ fun y hy=>h y (List.mem_cons_of_mem _ hy)]
theorem gK:∀(xs:List Operand) (K:List AV->Prop),eK (W0 s) xs K=K (xs.map (cf s)):=by
 intro xs
 induction xs with
 |nil=>intro K;rfl
 |cons x xs ih=>intro K;simp only[eK,W0];rw[ih];rfl
theorem rk {place:Nat->Option (Nat×TypeId)}:∀(ps:List (Nat×Operand)) (cs:List AV) (K:List AV->Prop),(∀x∈ps,cf s x.2=cf s' x.2)->e9 Γ (W0 s) place ps cs K=e9 Γ (W0 s') place ps cs K:=by
 intro ps
 induction ps with
 |nil=>intro cs K _;rfl
 |cons x ps ih=>
  intro cs K h
  obtain⟨i,x⟩:=x
  have e:=h (i,x) List.mem_cons_self
  simp only[e9,W0]
  simp only at e
  rw[e]
  have ih':∀cs',e9 Γ (W0 s) place ps cs' K=e9 Γ (W0 s') place ps cs' K:=fun cs'=>ih cs' K fun y hy=>h y (List.mem_cons_of_mem _ hy)
  simp only[ih']
theorem rp {e:TypeId} {size:Nat}:∀(ps:List (Nat×Operand)) (m:Nat) (K:List PV->Prop),(∀x∈ps,cf s x.2=cf s' x.2)->eJ Γ (W0 s) e size m ps K=eJ Γ (W0 s') e size m ps K:=by
 intro ps
 induction ps with
 |nil=>intro m K _;rfl
 |cons x ps ih=>
  intro m K h
  obtain⟨i,x⟩:=x
  have e:=h (i,x) List.mem_cons_self
  simp only[eJ,W0]
  simp only at e
  rw[e]
  have ih':∀K',eJ Γ (W0 s) _ size (m+1) ps K'=eJ Γ (W0 s') _ size (m+1) ps K':=fun K'=>ih (m+1) K' fun y hy=>h y (List.mem_cons_of_mem _ hy)
  simp only[ih']
theorem s5 {e:TypeId}:∀(ps:List (Nat×Operand)) (m:Nat) (K:List AV->Prop),(∀x∈ps,cf s x.2=cf s' x.2)->gY Γ (W0 s) e m ps K=gY Γ (W0 s') e m ps K:=by
 intro ps
 induction ps with
 |nil=>intro m K _;rfl
 |cons x ps ih=>
  intro m K h
  obtain⟨i,x⟩:=x
  have e:=h (i,x) List.mem_cons_self
  simp only[gY,W0]
  simp only at e
  rw[e]
  have ih':∀K',gY Γ (W0 s) _ (m+1) ps K'=gY Γ (W0 s') _ (m+1) ps K':=fun K'=>ih (m+1) K' fun y hy=>h y (List.mem_cons_of_mem _ hy)
  simp only[ih']
theorem kF (x:Option Operand) (d:Int) (K:Int->Prop) (h:∀y,x=some y->cf s y=cf s' y):fZ (W0 s) x d K=fZ (W0 s') x d K:=by
 cases x with
 |none=>rfl
 |some y=>simp only[fZ,W0];rw[h y rfl]
def Reach (L:Hd->aC) (v:AV) (h:Hd):Prop:=v.aU h\/(∃k,v.aU k/\(L k).aU h)\/∃k k',v.aU k/\(L k).aU k'/\(L k').aU h
theorem lS.congr {c:AV} {p:PV} (hL:∀h,c.aU h->L h≠ .free->L' h=L h) (h:lS L c p):lS L' c p:=by
 cases h with
 |p v ho=>exact .p _ ho
 |vec hB hl=>exact .vec ((hL _ rfl (by rw[hB];exact fun e=>by cases e)).trans hB) hl
theorem ea.congr {cs:List AV} {len:Nat} {K K':List PV->Prop} (hL:∀h,AV.bo cs h->L h≠ .free->L' h=L h) (hK:∀l,K l->K' l) (h:ea L cs len K):ea L' cs len K':=by
 obtain⟨ps,h1,h2,h3,h4⟩:=h
 exact⟨ps,h1,h2,fun i c p e1 e2=>(h3 i c p e1 e2).congr fun h hm=>hL h (AV.bm (List.mem_of_getElem? e1) hm),hK _ h4⟩
theorem sj {LK:Hd->(aC->Prop)->Prop} (hLK:∀h K,LK h K->K (L h)) {c:AV} {K K':PV->Prop} (hL:∀h,c.aU h\/(∃k,c.aU k/\(L k).aU h)->L h≠ .free->L' h=L h) (hK:∀v,K v->K' v) (hk:p8 L LK c K):p8 L' (fW L') c K':=by
 unfold p8 at hk⊢
 split at hk
 ·rename_i h W off len
  have e:=hL h (.inl rfl)
  have hR:=fun g hg=>hL g (.inr ⟨h,rfl,hg⟩)
  simp only[fW]at hk⊢
  have hk:=hLK _ _ hk
  cases hB:L h with
  |vec T W' es=>
   rw[e (by rw[hB];exact fun e=>by cases e),hB]
   rw[hB]at hk
   simp only at hk⊢
   cases hw:Nat.beq W W' with
   |false=>rw[hw]at hk;exact hk.elim
   |true=>
    rw[hw]at hk
    obtain⟨es',h1,h2,h3⟩:=hk
    exact⟨es',h1,h2,hK _ h3⟩
  |rows T cs=>
   rw[e (by rw[hB];exact fun e=>by cases e),hB]
   rw[hB]at hk hR
   simp only at hk⊢
   cases hw:(Nat.beq W 1&&Nat.beq off 0)with
   |false=>rw[hw]at hk;exact hk.elim
   |true=>rw[hw]at hk;exact ea.congr hR (fun l=>hK _) hk
  |_=>rw[hB]at hk;exact hk.elim
 ·rename_i h
  have e:=hL h (.inl rfl)
  simp only[fW]at hk⊢
  have hk:=hLK _ _ hk
  cases hB:L h with
  |map es=>
   rw[e (by rw[hB];exact fun e=>by cases e),hB]
   rw[hB]at hk
   exact hK _ hk
  |_=>rw[hB]at hk;exact hk.elim
 ·rename_i v
  cases ho:v.one with
  |true=>rw[ho]at hk;exact hK _ hk
  |false=>rw[ho]at hk;exact hk.elim
 ·exact hK _ hk
 ·exact hk.elim
theorem nc {LK:Hd->(aC->Prop)->Prop} (hLK:∀h K,LK h K->K (L h)):∀(cs:List AV) (K K':List PV->Prop),(∀h,AV.bo cs h\/(∃k,AV.bo cs k/\(L k).aU h)->L h≠ .free->L' h=L h)->(∀l,K l->K' l)->fE L LK cs K->fE L' (fW L') cs K':=by
 intro cs
 induction cs with
 |nil=>intro K K' _ hK h;exact hK _ h
 |cons c cs ih=>
  intro K K' hL hK h
  simp only[fE]at h⊢
  refine sj hLK (fun h hm=>hL h ?_) (fun v hv=>ih _ _ (fun h hm=>hL h ?_) (fun l=>hK _) hv) h
  ·rcases hm with hm|⟨k,hm,h2⟩
   ·exact .inl (.inl hm)
   ·exact .inr ⟨k,.inl hm,h2⟩
  ·rcases hm with hm|⟨k,hm,h2⟩
   ·exact .inl (.inr hm)
   ·exact .inr ⟨k,.inr hm,h2⟩
theorem fw:∀(cs:List AV) (A A':List PV->Prop) (B B':List AV->Prop),(∀l,A l->A' l)->(∀l,B l->B' l)->fq cs A B->fq cs A' B':=by
 intro cs
 induction cs with
 |nil=>intro A A' B B' hA hB h;simp only[fq]at h⊢;exact hA _ h
 |cons c cs ih=>
  intro A A' B B' hA hB h
  have reb:∀(cs:List AV) (B B':List AV->Prop),(∀l,B l->B' l)->fq.rebuild cs B->fq.rebuild cs B':=by
   intro cs
   induction cs with
   |nil=>intro B B' hB h;exact hB _ h
   |cons c cs ih=>intro B B' hB h;exact ih _ _ (fun l=>hB _) h
  cases c<;>first
   |exact ih _ _ _ _ (fun l=>hA _) (fun l=>hB _) h
   |exact reb _ _ _ (fun l=>hB _) h
theorem uK:∀(cs:List AV) (A A':List PV->Prop) (B B':List AV->Prop),(∀l,A l->A' l)->(B cs->B' cs)->fq cs A B->fq cs A' B':=by
 intro cs
 induction cs with
 |nil=>intro A A' B B' hA hB h;simp only[fq]at h⊢;exact hA _ h
 |cons c cs ih=>
  intro A A' B B' hA hB h
  have reb:∀(cs:List AV) (B B':List AV->Prop),(B cs->B' cs)->fq.rebuild cs B->fq.rebuild cs B':=by
   intro cs
   induction cs with
   |nil=>intro B B' hB h;exact hB h
   |cons c cs ih=>intro B B' hB h;exact ih (fun l=>B (c::l)) (fun l=>B' (c::l)) hB h
  cases c with
  |p v=>exact ih (fun l=>A (v::l)) (fun l=>A' (v::l)) (fun l=>B (.p v::l)) (fun l=>B' (.p v::l)) (fun l=>hA _) hB h
  |tf b=>exact ih (fun l=>A (.bool b::l)) (fun l=>A' (.bool b::l)) (fun l=>B (.tf b::l)) (fun l=>B' (.tf b::l)) (fun l=>hA _) hB h
  |_=>exact reb cs (fun l=>B (_::l)) (fun l=>B' (_::l)) hB h
theorem gb {LK:Hd->(aC->Prop)->Prop} (hLK:∀h K,LK h K->K (L h)) {t:TypeId} {v:AV} {K K':AV->Prop} (hL:∀h,Reach L v h->L h≠ .free->L' h=L h) (hK:∀v,K v->K' v) (hk:fa Γ L LK t v K):fa Γ L' (fW L') t v K':=by
 have mono:∀w:AV,po Γ t w (fun v=>K (.p v))->po Γ t w (fun v=>K' (.p v)):=by
  intro w hw
  unfold po at hw⊢
  cases w<;>simp only at hw⊢<;>first
   |exact hK _ hw
   |exact hw.elim
   |(split at hw<;>first|(split at hw<;>first|exact hK _ hw|exact hw.elim)|exact hw.elim)
   |exact fw _ _ _ _ _ (fun l=>hK _) (fun l h=>h) hw
   |skip
  case fn f fs cs=>
   cases fs with
   |nil=>exact fw _ _ _ _ _ (fun l=>hK _) (fun l h=>h) hw
   |cons _ _=>cases cs with
    |nil=>exact fw _ _ _ _ _ (fun l=>hK _) (fun l h=>h) hw
    |cons _ _=>exact hw.elim
 cases v with
 |vec h W off len=>
  simp only[fa,fW]at hk⊢
  have hk:=hLK _ _ hk
  have e:=hL h (.inl rfl)
  cases hB:L h with
  |vec T W' es=>
   rw[e (by rw[hB];simp)]
   rw[hB]at hk⊢
   simp only at hk⊢
   cases hw:Nat.beq W W' with
   |false=>rw[hw]at hk;exact hk.elim
   |true=>
    rw[hw]at hk
    obtain⟨es',h1,h2,h3⟩:=hk
    exact⟨es',h1,h2,hK _ h3⟩
  |_=>rw[hB]at hk;exact hk.elim
 |aF h o=>
  cases o with
  |succ o=>simp only[fa]at hk;exact(mono _ hk)
  |zero=>
   simp only[fa,fW]at hk⊢
   have hk:=hLK _ _ hk
   have e:=hL h (.inl rfl)
   cases hB:L h with
   |box T cs=>
    have hC:∀g,AV.bo cs g\/(∃k,AV.bo cs k/\(L k).aU g)->L g≠ .free->L' g=L g:=fun g hg=>hL g (by
     have hbm:∀g,AV.bo cs g->(L h).aU g:=fun g hg=>by rw[hB];exact hg
     rcases hg with hg|⟨k,hk,hg⟩
     ·exact .inr (.inl ⟨h,rfl,hbm g hg⟩)
     ·exact .inr (.inr ⟨h,k,rfl,hbm k hk,hg⟩))
    rw[e (by rw[hB];simp)]
    rw[hB]at hk⊢
    simp only at hk⊢
    cases hΓ:Γ T with
    |none=>rw[hΓ]at hk;exact hk.elim
    |some i=>
     rw[hΓ]at hk
     simp only at hk⊢
     cases ha:i.d.agg with
     |true=>
      rw[ha]at hk
      exact uK cs _ _ _ _ (fun l=>hK _) (fun h=>nc hLK cs _ _ hC (fun l=>hK _) h) hk
     |false=>
      rw[ha]at hk
      refine fw _ _ _ _ _ (fun l hl=>?_) (fun l h=>h) hk
      match l,hl with
      |[c],hl=>
       simp only at hl⊢
       cases ho:c.one with
       |true=>rw[ho]at hl;exact hK _ hl
       |false=>rw[ho]at hl;exact hl.elim
      |[],hl=>exact hl.elim
      |_::_::_,hl=>exact hl.elim
   |_=>rw[hB]at hk;exact hk.elim
 |map h=>
  simp only[fa,fW]at hk⊢
  have hk:=hLK _ _ hk
  have e:=hL h (.inl rfl)
  cases hB:L h with
  |map es=>
   rw[e (by rw[hB];simp)]
   rw[hB]at hk⊢
   exact hK _ hk
  |_=>rw[hB]at hk;exact hk.elim
 |_=>simp only[fa]at hk⊢;exact mono _ hk
theorem Reach.of {v w:AV} (hm:∀h,v.aU h->w.aU h) {h:Hd} (hr:Reach L v h):Reach L w h:=by
 rcases hr with hr|⟨k,h1,h2⟩|⟨k,k',h1,h2,h3⟩
 ·exact .inl (hm h hr)
 ·exact .inr (.inl ⟨k,hm k h1,h2⟩)
 ·exact .inr (.inr ⟨k,k',hm k h1,h2,h3⟩)
theorem gG {LK:Hd->(aC->Prop)->Prop} (hLK:∀h K,LK h K->K (L h)):∀(cs:List AV) (K K':List PV->Prop),(∀c∈cs,∀h,Reach L c h->L h≠ .free->L' h=L h)->(∀l,K l->K' l)->dM Γ L LK cs K->dM Γ L' (fW L') cs K':=by
 intro cs
 induction cs with
 |nil=>intro K K' _ hK h;exact hK _ h
 |cons c cs ih=>
  intro K K' hL hK h
  simp only[dM]at h⊢
  refine gb hLK (hL c (by simp)) (fun v hv=>?_) h
  cases v<;>first|exact ih _ _ (fun c hc=>hL c (by simp[hc])) (fun l=>hK _) hv|exact hv.elim
theorem sF {LK:Hd->(aC->Prop)->Prop} (hLK:∀h K,LK h K->K (L h)) {t:TypeId} {v:AV} {K K':AV->Prop} (hL:∀h,Reach L v h->L h≠ .free->L' h=L h) (hK:∀v,K v->K' v) (hk:oP Γ L LK t v K):oP Γ L' (fW L') t v K':=by
 cases v with
 |fn f fs cs=>
  cases fs with
  |nil=>exact gG hLK cs _ _ (fun c hc h hr=>hL h (hr.of fun h hm=>by simp only[AV.aU];exact .inr (AV.bm hc hm))) (fun l=>hK _) hk
  |cons c0 fs=>
   cases cs with
   |nil=>
    have hk:dM Γ L LK (c0::fs) (fun l=>K (.p (.je f l))):=hk
    show dM Γ L' (fW L') (c0::fs) (fun l=>K' (.p (.je f l)))
    exact gG hLK (c0::fs) _ _ (fun c hc h hr=>hL h (hr.of fun h hm=>by simp only[AV.aU];exact .inl (AV.bm hc hm))) (fun l=>hK _) hk
   |cons _ _=>exact gb (Γ:=Γ) (t:=t) hLK hL hK hk
 |agg cs=>
  refine gG hLK cs _ _ (fun c hc h hr=>hL h (hr.of fun h hm=>by simp only[AV.aU];exact AV.bm hc hm)) (fun l hl=>?_) hk
  cases ho:l.all PV.one with
  |false=>rw[ho]at hl;exact hl.elim
  |true=>rw[ho]at hl;exact hK _ hl
 |vec h W o len=>
  by_cases hc:W=1/\o=0
  ·obtain⟨rfl,rfl⟩:=hc
   simp only[oP,fW]at hk⊢
   have hk:=hLK _ _ hk
   have e:=hL h (.inl rfl)
   have hR:=fun g hg=>hL g (.inr (.inl ⟨h,rfl,hg⟩))
   cases hB:L h with
   |vec T W' es=>
    rw[e (by rw[hB];simp)]
    rw[hB]at hk⊢
    simp only at hk⊢
    cases hw:Nat.beq 1 W' with
    |false=>rw[hw]at hk;exact hk.elim
    |true=>
     rw[hw]at hk
     obtain⟨es',h1,h2,h3⟩:=hk
     exact⟨es',h1,h2,hK _ h3⟩
   |rows T cs=>
    rw[e (by rw[hB];simp)]
    rw[hB]at hk hR⊢
    exact ea.congr hR (fun l=>hK _) hk
   |_=>rw[hB]at hk;exact hk.elim
  ·have e:∀(L:Hd->aC) (M:Hd->(aC->Prop)->Prop) (K:AV->Prop),oP Γ L M t (.vec h W o len) K=fa Γ L M t (.vec h W o len) K:=by
    intro L M K
    match W,o,hc with
    |0,_,_=>rfl
    |1,0,hc=>exact absurd ⟨rfl,rfl⟩ hc
    |1,_+1,_=>rfl
    |_+2,_,_=>rfl
   rw[e]at hk⊢
   exact gb (Γ:=Γ) (t:=t) hLK hL hK hk
 |_=>exact gb (Γ:=Γ) (t:=t) hLK hL hK hk
theorem jy {LK:Hd->(aC->Prop)->Prop} (hLK:∀h K,LK h K->K (L h)):∀(l:List (TypeId×AV)) (K K':List AV->Prop),(∀x∈l,∀h,Reach L x.2 h->L h≠ .free->L' h=L h)->(∀l,K l->K' l)->jk Γ L LK false l K->jk Γ L' (fW L') false l K':=by
 intro l
 induction l with
 |nil=>intro K K' _ hK h;exact hK _ h
 |cons x l ih=>
  intro K K' hL hK h
  simp only[jk]at h⊢
  exact sF hLK (hL x List.mem_cons_self) (fun v hv=>ih _ _ (fun y hy=>hL y (List.mem_cons_of_mem _ hy)) (fun l=>hK _) hv) h
theorem ab.congr {f:FuncId} {raw args:List AV} {K:AV->List (Hd×aC)->Prop} (hA:∀a∈raw,∀h,a.aU h->L h≠ .free->L' h=L h) (hR:∀a∈raw,∀m,a.aU (.t m)->L (.t m)≠ .free->∀k,L (.r m k)= .free->L' (.r m k)= .free) (h:ab P false f raw args L base K):ab P false f raw args L' base K:=by
 cases h with
 |app g W n m T es es' pvs e hL hLr hb hc hk=>
  have hne:L (.t g)≠ .free:=by rw[hL];exact fun e=>by cases e
  have hg:(AV.vec (.t g) W 0 n)∈raw:=by rw[<-e];exact List.mem_cons_self
  exact .app g W n m T es es' pvs e ((hA _ hg _ rfl hne).trans hL) (fun k=>hR _ hg g rfl hne k (hLr k)) hb hc hk
 |ni pvs r e hc hk=>exact .ni pvs r e hc hk
 |mk hs args' r Hin Hout hw hn hb ha hin0 hin hl hm hlen' hfree' hargs hc hk=>
 have:hs=[]:=hw rfl
 subst this
 have:Hin=[]:=List.length_eq_zero_iff.1 hin0
 subst this
 exact .mk [] args' r [] Hout hw hn hb ha rfl (fun i h B e=>by simp at e) (fun B hB=>by simp at hB) (fun B hB=>by simp at hB) hlen' hfree' hargs hc hk
theorem ot {LK:Hd->(aC->Prop)->Prop} (hLK:∀h K,LK h K->K (L h)) {v:AV} {K K':List (PV×PV)->Prop} (hL:∀h,v.aU h->L h≠ .free->L' h=L h) (hK:∀es,K es->K' es) (hk:iO LK v K):iO (fW L') v K':=by
 unfold iO at hk⊢
 split at hk
 ·rename_i h
  have e:=hL h rfl
  simp only[fW]at hk⊢
  have hk:=hLK _ _ hk
  cases hB:L h with
  |map es=>
   rw[e (by rw[hB];exact fun e=>by cases e),hB]
   rw[hB]at hk
   exact hK _ hk
  |_=>rw[hB]at hk;exact hk.elim
 ·exact hK _ hk
 ·exact hk.elim
theorem qi {t:TypeId} {K K':TypeId->TI->TypeId->TI->Prop} (hK:∀a b c d,K a b c d->K' a b c d) (hk:jo Γ t K):jo Γ t K':=by
 unfold jo at hk⊢
 split at hk
 ·split at hk
  ·split at hk
   ·split at hk
    ·exact hK _ _ _ _ hk
    ·exact hk.elim
   ·exact hk.elim
  ·exact hk.elim
 ·exact hk.elim
theorem oG {t:TypeId} {w:AV} {K K':PV->Prop} (hK:∀v,K v->K' v) (hw:po Γ t w K):po Γ t w K':=by
 unfold po at hw⊢
 cases w<;>simp only at hw⊢<;>first
  |exact hK _ hw
  |exact hw.elim
  |(split at hw<;>first|(split at hw<;>first|exact hK _ hw|exact hw.elim)|exact hw.elim)
  |exact fw _ _ _ _ _ (fun l=>hK _) (fun l h=>h) hw
  |skip
 case fn f fs cs=>
  cases fs with
  |nil=>exact fw _ _ _ _ _ (fun l=>hK _) (fun l h=>h) hw
  |cons _ _=>cases cs with
   |nil=>exact fw _ _ _ _ _ (fun l=>hK _) (fun l h=>h) hw
   |cons _ _=>exact hw.elim
theorem pD {LK:Hd->(aC->Prop)->Prop} (hLK:∀h K,LK h K->K (L h)) {t:TypeId} {x k:AV} {ok:Bool} {K:AV->List (Hd×aC)->Prop} (hL:∀h,x.aU h->L h≠ .free->L' h=L h) (hk:nE Γ LK t x k ok K):nE Γ (fW L') t x k ok K:=by
 unfold nE at hk⊢
 refine qi (fun kt ki et ei hk=>oG (fun key hk=>?_) hk) hk
 cases hb:ki.pb key with
 |false=>rw[hb]at hk;exact hk.elim
 |true=>rw[hb]at hk;exact ot hLK hL (fun _ h=>h) hk
theorem kp {LK:Hd->(aC->Prop)->Prop} (hLK:∀h K,LK h K->K (L h)) {t:TypeId} {m k x:AV} {K:AV->List (Hd×aC)->Prop} (hL:∀h,m.aU h->L h≠ .free->L' h=L h) (hk:dm Γ LK t m k x K):dm Γ (fW L') t m k x K:=by
 unfold dm at hk⊢
 refine qi (fun kt ki et ei hk=>oG (fun key hk=>oG (fun val hk=>?_) hk) hk) hk
 cases hb:ki.pb key with
 |false=>rw[hb]at hk;exact hk.elim
 |true=>
  rw[hb]at hk
  simp only[cond_true]at hk⊢
  split at hk
  ·rename_i h _ _ _
   have e:=hL h rfl
   simp only[fW]at hk⊢
   have hk:=hLK _ _ hk
   cases hB:L h with
   |map es=>
    rw[e (by rw[hB];exact fun e=>by cases e),hB]
    rw[hB]at hk
    exact hk
   |_=>rw[hB]at hk;exact hk.elim
  ·exact hk.elim
theorem rW {LK:Hd->(aC->Prop)->Prop} (hLK:∀h K,LK h K->K (L h)) {v:AV} {K K':Nat->List PV->Prop} (hL:∀h,v.aU h->L h≠ .free->L' h=L h) (hK:∀W es,K W es->K' W es) (hk:mN LK v K):mN (fW L') v K':=by
 cases v with
 |vec h W off len=>
  simp only[mN,fW]at hk⊢
  have hk:=hLK _ _ hk
  have e:=hL h rfl
  cases hB:L h with
  |vec T W' es=>
   rw[e (by rw[hB];simp)]
   rw[hB]at hk⊢
   simp only at hk⊢
   cases hw:Nat.beq W W' with
   |false=>rw[hw]at hk;exact hk.elim
   |true=>
    rw[hw]at hk
    obtain⟨es',h1,h2,h3⟩:=hk
    exact⟨es',h1,h2,hK _ _ h3⟩
  |_=>rw[hB]at hk;exact hk.elim
 |emp=>exact hK _ _ hk
 |p v=>
  cases v with
  |sl m W es=>exact hK _ _ hk
  |_=>exact hk.elim
 |_=>exact hk.elim
theorem iY {LK:Hd->(aC->Prop)->Prop} (hLK:∀h K,LK h K->K (L h)) {size:Nat} {v:AV} {K K':List PV->Prop} (hL:∀h,v.aU h->L h≠ .free->L' h=L h) (hK:∀es,K es->K' es) (hk:jl LK size v K):jl (fW L') size v K':=by
 unfold jl at hk⊢
 refine rW hLK hL (fun W es h=>?_) hk
 have cc:cond (Nat.beq W size) (K es) False->cond (Nat.beq W size) (K' es) False:=by
  cases Nat.beq W size with
  |true=>exact hK _
  |false=>exact id
 cases v with
 |emp=>exact hK _ h
 |_=>exact cc h
theorem pF {LK:Hd->(aC->Prop)->Prop} (hLK:∀h K,LK h K->K (L h)) {e0:TypeId} {i:TI} {x y:AV} {K:AV->List (Hd×aC)->Prop} (hx:∀h,x.aU h->L h≠ .free->L' h=L h) (hy:∀h,y.aU h->L h≠ .free->L' h=L h)
  (hk:jN LK base e0 i x y K):jN (fW L') base e0 i x y K:=by
 unfold jN at hk⊢
 cases h1:Nat.ble 1 i.size with
 |false=>rw[h1]at hk;exact hk.elim
 |true=>
  rw[h1]at hk
  simp only[cond_true]at hk⊢
  cases x with
  |emp=>exact iY hLK hy (fun _=>id) hk
  |m6 m W es=>
   simp only at hk⊢
   cases hc:Nat.beq W i.size with
   |false=>rw[hc]at hk;exact hk.elim
   |true=>
    rw[hc]at hk
    simp only[cond_true]at hk⊢
    exact iY hLK hy (fun _=>id) hk
  |vec h W o len=>
   cases o with
   |succ o=>exact hk.elim
   |zero=>
    simp only at hk⊢
    cases hc:(Nat.beq W i.size&&rX h y)with
    |false=>rw[hc]at hk;exact hk.elim
    |true=>
     rw[hc]at hk
     simp only[cond_true,fW]at hk⊢
     have hk:=hLK _ _ hk
     have e:=hx h rfl
     cases hB:L h with
     |vec T W' es=>
      rw[e (by rw[hB];simp)]
      rw[hB]at hk⊢
      simp only at hk⊢
      cases hw:(Nat.beq W W'&&Nat.beq T e0)with
      |false=>rw[hw]at hk;exact hk.elim
      |true=>
       rw[hw]at hk
       obtain⟨h2,h3⟩:=hk
       exact⟨h2,iY hLK hy (fun _=>id) h3⟩
     |_=>rw[hB]at hk;exact hk.elim
  |_=>exact hk.elim
theorem qZ {LK:Hd->(aC->Prop)->Prop} (hLK:∀h K,LK h K->K (L h)) {y:AV} {J J':Option (List AV)->Prop} (hy:∀h,y.aU h->L h≠ .free->L' h=L h) (hJ:∀o,J o->J' o) (hk:mK LK y J):mK (fW L') y J':=by
 unfold mK at hk⊢
 split at hk
 ·rename_i h len
  have e:=hy h rfl
  simp only[fW]at hk⊢
  have hk:=hLK _ _ hk
  cases hB:L h with
  |vec T W' es=>
   rw[e (by rw[hB];simp)]
   rw[hB]at hk⊢
   exact hJ none hk
  |rows T cs=>
   rw[e (by rw[hB];simp)]
   rw[hB]at hk⊢
   simp only at hk⊢
   cases hw:Nat.beq len cs.length with
   |false=>rw[hw]at hk;exact hk.elim
   |true=>rw[hw]at hk;exact hJ _ hk
  |_=>rw[hB]at hk;exact hk.elim
 ·exact hJ none hk
theorem pX {LK:Hd->(aC->Prop)->Prop} (hLK:∀h K,LK h K->K (L h)) {e0:TypeId} {i:TI} {x y:AV} {xs:List AV} {K:AV->List (Hd×aC)->Prop} (hx:∀h,x.aU h->L h≠ .free->L' h=L h)
  (hk:jL LK base e0 i x y xs K):jL (fW L') base e0 i x y xs K:=by
 unfold jL at hk⊢
 cases h1:(Nat.beq i.size 1&& !xs.isEmpty)with
 |false=>rw[h1]at hk;exact hk.elim
 |true=>
  rw[h1]at hk
  simp only[cond_true]at hk⊢
  split at hk
  ·exact hk
  ·rename_i h len
   have e:=hx h rfl
   simp only[fW]at hk⊢
   have hk:=hLK _ _ hk
   cases hB:L h with
   |rows T cs=>
    rw[e (by rw[hB];simp)]
    rw[hB]at hk⊢
    exact hk
   |_=>rw[hB]at hk;exact hk.elim
  ·exact hk.elim
theorem pR {LK:Hd->(aC->Prop)->Prop} (hLK:∀h K,LK h K->K (L h)) {e0:TypeId} {i:TI} {x y:AV} {K:AV->List (Hd×aC)->Prop} (hx:∀h,x.aU h->L h≠ .free->L' h=L h) (hy:∀h,y.aU h->L h≠ .free->L' h=L h)
  (hk:nt LK base e0 i x y K):nt (fW L') base e0 i x y K:=
 qZ hLK hy (fun o hk=>match o,hk with
  |none,hk=>pF hLK hx hy hk
  |some _,hk=>pX hLK hx hk) hk
theorem py {LK:Hd->(aC->Prop)->Prop} (hLK:∀h K,LK h K->K (L h)) {e0:TypeId} {i:TI} {x y:AV} {K:AV->List (Hd×aC)->Prop} (hx:∀h,x.aU h->L h≠ .free->L' h=L h)
  (hk:jW LK base e0 i x y K):jW (fW L') base e0 i x y K:=by
 unfold jW at hk⊢
 split at hk
 ·split at hk
  ·rename_i h W len
   have e:=hx h rfl
   split at hk
   ·cases h1:(Nat.beq W 1&&(Nat.beq i.size 1&& !i.d.agg))with
    |false=>rw[h1]at hk;exact hk.elim
    |true=>
     rw[h1]at hk
     simp only[cond_true,fW]at hk⊢
     have hk:=hLK _ _ hk
     cases hB:L h with
     |vec T W' es=>
      rw[e (by rw[hB];simp)]
      rw[hB]at hk⊢
      exact hk
     |_=>rw[hB]at hk;exact hk.elim
   ·exact hk.elim
  ·exact hk.elim
 ·exact hk.elim
theorem pt {LK:Hd->(aC->Prop)->Prop} (hLK:∀h K,LK h K->K (L h)) {t t':TypeId} {ts':List TypeId} {x y:AV} {K:AV->List (Hd×aC)->Prop} (hx:∀h,x.aU h->L h≠ .free->L' h=L h) (hy:∀h,y.aU h->L h≠ .free->L' h=L h)
  (hk:jj Γ LK base .append (t::t'::ts') [x,y] K):jj Γ (fW L') base .append (t::t'::ts') [x,y] K:=by
 simp only[jj]at hk⊢
 cases hc:(Nat.beq t t'&&ts'.isEmpty)with
 |false=>
  rw[hc]at hk
  simp only[cond_false]at hk⊢
  cases hd:(qQ Γ t'&&ts'.isEmpty)with
  |false=>rw[hd]at hk;exact hk.elim
  |true=>
   rw[hd]at hk
   simp only[cond_true]at hk⊢
   unfold eP at hk⊢
   split at hk
   ·split at hk
    ·split at hk
     ·exact py hLK hx hk
     ·exact hk.elim
    ·exact hk.elim
   ·exact hk.elim
 |true=>
  rw[hc]at hk
  simp only[cond_true]at hk⊢
  unfold eP at hk⊢
  split at hk
  ·rename_i i h1
   split at hk
   ·rename_i e h2
    split at hk
    ·exact pR hLK (fun h hm=>hx h (AV.Cb hm)) hy hk
    ·exact hk.elim
   ·exact hk.elim
  ·exact hk.elim
def Gp (op:Op) (L:Hd->aC) (v:AV) (h:Hd):Prop:=v.aU h\/(deep op=true/\Reach L v h)
theorem mZ {LK:Hd->(aC->Prop)->Prop} (hLK:∀h K,LK h K->K (L h)) {op:Op} {K:AV->List (Hd×aC)->Prop} (hq:dP op=true) (hs:∀x∈op.operands.toList,cf s x=cf s' x) (hA:looks op=true->∀x∈op.operands.toList,∀h,Gp op L (cf s' x) h->L h≠ .free->L' h=L h)
  (hR:looks op=true->deep op=true->∀x∈op.operands.toList,∀m,(cf s' x).aU (.t m)->L (.t m)≠ .free->∀k,L (.r m k)= .free->L' (.r m k)= .free)
  (hk:aY Γ P (fun _=>false) (W0 s) LK L base op K):aY Γ P (fun _=>false) (W0 s') (fW L') L' base op K:=by
 have hL:looks op=true->∀x∈op.operands.toList,∀h,(cf s' x).aU h->L h≠ .free->L' h=L h:=fun hl x hx h hm=>hA hl x hx h (.inl hm)
 cases op<;>first|(simp only[dP]at hq;exact absurd hq (by decide))|skip
 case move x=>simp only[aY,W0]at hk⊢;rw[<-hs x (by simp[Op.operands])];exact hk
 case assign x=>simp only[aY,W0]at hk⊢;rw[<-hs x (by simp[Op.operands])];exact hk
 case pick c x y=>simp only[aY,W0]at hk⊢;rw[<-hs c (by simp[Op.operands]),<-hs x (by simp[Op.operands]),<-hs y (by simp[Op.operands])];exact hk
 case alloc t=>exact hk
 case box t x=>simp only[aY,W0]at hk⊢;rw[<-hs x (by simp[Op.operands])];exact hk
 case build t ps=>
  have e:∀place cs K,e9 Γ (W0 s) place ps.toList cs K=e9 Γ (W0 s') place ps.toList cs K:=fun place cs K=>rk _ _ _ fun x hx=>hs _ (by simp only[Op.operands];exact List.mem_map_of_mem hx)
  simp only[aY,e]at hk⊢
  exact hk
 case buildSlice t m ps=>
  have e:∀ee size m K,eJ Γ (W0 s) ee size m ps.toList K=eJ Γ (W0 s') ee size m ps.toList K:=fun ee size m K=>rp _ _ _ fun x hx=>hs _ (by simp only[Op.operands];exact List.mem_map_of_mem hx)
  have e2:∀ee m K,gY Γ (W0 s) ee m ps.toList K=gY Γ (W0 s') ee m ps.toList K:=fun ee m K=>s5 _ _ _ fun x hx=>hs _ (by simp only[Op.operands];exact List.mem_map_of_mem hx)
  have e3:∀K,eK (W0 s) (ps.toList.map (·.2)) K=eK (W0 s') (ps.toList.map (·.2)) K:=fun K=>td _ _ fun x hx=>hs _ (by simp only[Op.operands];exact hx)
  simp only[aY,e,e2,e3]at hk⊢
  exact hk
 case load t x=>
  have e:=hs x (by simp[Op.operands])
  have hL:=hL rfl x (by simp[Op.operands])
  simp only[aY,W0]at hk⊢
  rw[e]at hk
  generalize cf s' x=v at hk hL
  cases v with
  |aF h off=>
   have hk:=hLK h _ (show LK h _ from hk)
   by_cases hfr:L h= .free
   ·rw[hfr]at hk;exact hk.elim
   ·show fW L' h _
    unfold fW
    rw[hL h rfl hfr];exact hk
  |c5 h W i off=>
   have hk:=hLK h _ (show LK h _ from hk)
   by_cases hfr:L h= .free
   ·rw[hfr]at hk;exact hk.elim
   ·show fW L' h _
    unfold fW
    rw[hL h rfl hfr];exact hk
  |p v=>cases v<;>exact hk
  |_=>exact hk
 case store t x y=>
  have e:=hs x (by simp[Op.operands])
  have e2:=hs y (by simp[Op.operands])
  have hL:=hL rfl x (by simp[Op.operands])
  simp only[aY,W0]at hk⊢
  rw[e,e2]at hk
  generalize cf s' x=v at hk hL
  cases v with
  |aF h off=>
   have hk:=hLK h _ (show LK h _ from hk)
   by_cases hfr:L h= .free
   ·rw[hfr]at hk;exact hk.elim
   ·show fW L' h _
    unfold fW
    rw[hL h rfl hfr];exact hk
  |c5 h W i off=>
   cases off with
   |zero=>
    have hk:=hLK h _ (show LK h _ from hk)
    by_cases hfr:L h= .free
    ·rw[hfr]at hk;exact hk.elim
    ·show fW L' h _
     unfold fW
     rw[hL h rfl hfr];exact hk
   |succ off=>exact hk
  |_=>exact hk
 case binOp op t x y ty=>simp only[aY,W0]at hk⊢;rw[<-hs x (by simp[Op.operands]),<-hs y (by simp[Op.operands])];exact hk
 case unOp op t x=>simp only[aY,W0]at hk⊢;rw[<-hs x (by simp[Op.operands])];exact hk
 case nilCheck x=>simp only[aY,W0]at hk⊢;rw[<-hs x (by simp[Op.operands])];exact hk
 case convert src dst x=>simp only[aY,W0]at hk⊢;rw[<-hs x (by simp[Op.operands])];exact hk
 case makeFunc f fs cs=>
  cases f with
  |func f=>
   simp only[aY]at hk⊢
   rw[gK]at hk⊢
   rw[gK]at hk⊢
   have e1:fs.toList.map (cf s)=fs.toList.map (cf s'):=List.map_congr_left fun x hx=>hs x (by simp only[Op.operands,Array.toList_append];exact List.mem_append_left _ hx)
   have e2:cs.toList.map (cf s)=cs.toList.map (cf s'):=List.map_congr_left fun x hx=>hs x (by simp only[Op.operands,Array.toList_append];exact List.mem_append_right _ hx)
   rw[e1,e2]at hk
   exact hk
  |_=>exact hk
 case makeMap t r=>
  cases r with
  |none=>exact hk
  |some r=>simp only[dP]at hq;exact absurd hq (by decide)
 case lookup t x k ok=>
  simp only[aY,W0]at hk⊢
  rw[<-hs x (by simp[Op.operands]),<-hs k (by simp[Op.operands])]
  exact pD hLK (by rw[hs x (by simp[Op.operands])];exact hL rfl x (by simp[Op.operands])) hk
 case mapUpdate t m k x=>
  simp only[aY,W0]at hk⊢
  rw[<-hs m (by simp[Op.operands]),<-hs k (by simp[Op.operands]),<-hs x (by simp[Op.operands])]
  exact kp hLK (by rw[hs m (by simp[Op.operands])];exact hL rfl m (by simp[Op.operands])) hk
 case insert t m k x=>
  simp only[aY,W0]at hk⊢
  rw[<-hs m (by simp[Op.operands]),<-hs k (by simp[Op.operands]),<-hs x (by simp[Op.operands])]
  exact kp hLK (by rw[hs m (by simp[Op.operands])];exact hL rfl m (by simp[Op.operands])) hk
 case makeSlice t l c=>
  simp only[aY,W0]at hk⊢
  cases hz:nF l with
  |true=>simp only[hz]at hk⊢;rw[<-hs c (by simp[Op.operands])];exact hk
  |false=>simp only[hz]at hk⊢;rw[<-hs l (by simp[Op.operands]),<-hs c (by simp[Op.operands])];exact hk
 case slice t x lo hi mx=>
  have e:=hs x (by simp[Op.operands])
  have e1:∀d K,fZ (W0 s) lo d K=fZ (W0 s') lo d K:=fun d K=>kF _ _ _ fun y hy=>hs y (by subst hy;simp[Op.operands])
  have e2:∀d K,fZ (W0 s) hi d K=fZ (W0 s') hi d K:=fun d K=>kF _ _ _ fun y hy=>hs y (by subst hy;simp[Op.operands])
  have e3:∀d K,fZ (W0 s) mx d K=fZ (W0 s') mx d K:=fun d K=>kF _ _ _ fun y hy=>hs y (by subst hy;simp[Op.operands])
  simp only[aY]at hk⊢
  have hk:ob Γ (W0 s) t (cf s x) lo hi mx K:=hk
  show ob Γ (W0 s') t (cf s' x) lo hi mx K
  rw[e]at hk
  unfold ob at hk⊢
  simp only[e1,e2,e3]at hk
  exact hk
 case fieldAddr t x f=>simp only[aY,W0]at hk⊢;rw[<-hs x (by simp[Op.operands])];exact hk
 case field t x f=>simp only[aY,W0]at hk⊢;rw[<-hs x (by simp[Op.operands])];exact hk
 case indexAddr t x i=>simp only[aY,W0]at hk⊢;rw[<-hs x (by simp[Op.operands]),<-hs i (by simp[Op.operands])];exact hk
 case index t x i=>simp only[aY,W0]at hk⊢;rw[<-hs x (by simp[Op.operands]),<-hs i (by simp[Op.operands])];exact hk
 case extract x i=>simp only[aY,W0]at hk⊢;rw[<-hs x (by simp[Op.operands])];exact hk
 case call c=>
  obtain⟨f,xs,ts⟩:=c
  cases f with
  |builtin b=>
   have hmem:∀x∈xs.toList,x∈(Op.call ⟨.builtin b,xs,ts⟩).operands.toList:=fun x hx=>by simp only[Op.operands,Call.operands];simpa using hx
   have e1:xs.toList.map (cf s)=xs.toList.map (cf s'):=List.map_congr_left fun x hx=>hs x (hmem x hx)
   simp only[aY]at hk⊢
   rw[gK]at hk⊢
   rw[e1]at hk
   generalize hvs:xs.toList.map (cf s')=vs at hk
   generalize ts.toList=tl at hk
   have hLv:looks (Op.call ⟨.builtin b,xs,ts⟩)=true->∀v∈vs,∀h,v.aU h->L h≠ .free->L' h=L h:=fun hl v hv h hm hne=>by
    obtain⟨x,hx,e⟩:=List.mem_map.1 (hvs▸hv)
    exact hL hl x (hmem x hx) h (by rw[e];exact hm) hne
   rcases vs with _|⟨x,_|⟨y,_|⟨z,vs⟩⟩⟩<;>rcases tl with _|⟨t,_|⟨t',ts'⟩⟩<;>cases b<;>first|(simp only[dP]at hq;exact absurd hq (by decide))|exact hk|skip
   exact pt hLK (hLv rfl x (by simp)) (hLv rfl y (by simp)) hk
  |invoke r m=>cases hq
  |value f=>
   have hf:f∈(Op.call ⟨.value f,xs,ts⟩).operands.toList:=by simp[Op.operands,Call.operands]
   have hmem:∀x∈xs.toList,x∈(Op.call ⟨.value f,xs,ts⟩).operands.toList:=fun x hx=>by simp only[Op.operands,Call.operands];simp at hx⊢;exact .inr hx
   have e1:xs.toList.map (cf s)=xs.toList.map (cf s'):=List.map_congr_left fun x hx=>hs x (hmem x hx)
   simp only[aY,W0]at hk⊢
   rw[hs f hf]at hk
   have hA:=fun x hx h hr=>hA rfl x hx h (.inr ⟨rfl,hr⟩)
   have hR:=hR rfl rfl
   have hLf:=hA f hf
   have hRf:=hR f hf
   have vA:∀a∈xs.toList.map (cf s'),∀h,a.aU h->L h≠ .free->L' h=L h:=fun a ha h hm=>by
    obtain⟨y,hy,e⟩:=List.mem_map.1 ha
    exact hA y (hmem y hy) h (.inl (by rw[e];exact hm))
   have vR:∀a∈xs.toList.map (cf s'),∀m,a.aU (.t m)->L (.t m)≠ .free->∀k,L (.r m k)= .free->L' (.r m k)= .free:=fun a ha m hm=>by
    obtain⟨y,hy,e⟩:=List.mem_map.1 ha
    exact hR y (hmem y hy) m (by rw[e];exact hm)
   have pA:∀(l:List PV),∀a∈l.map AV.p,∀h,¬a.aU h:=fun l a ha h hm=>by
    obtain⟨v,_,rfl⟩:=List.mem_map.1 ha
    simp only[AV.aU]at hm
   cases hlen:Nat.beq ts.toList.length xs.toList.length with
   |false=>rw[hlen]at hk;exact hk.elim
   |true=>
    rw[hlen]at hk
    simp only[cond_true]at hk⊢
    have hvs:∀x∈ts.toList.zip (xs.toList.map (cf s')),∀h,Reach L x.2 h->L h≠ .free->L' h=L h:=fun x hx h hm hne=>by
     have:=(List.of_mem_zip hx).2
     obtain⟨y,hy,e⟩:=List.mem_map.1 this
     exact hA y (hmem y hy) h (by rw[e];exact hm) hne
    generalize cf s' f=vf at hk hLf hRf
    cases vf with
    |fn fid fs cs=>
     simp only at hk⊢
     rw[gK]at hk⊢
     rw[e1]at hk
     refine jy hLK _ _ _ (fun x hx h hm hne=>?_) (fun l=>ab.congr (fun a ha h hm=>(by
      rcases List.mem_append.1 ha with ha|ha
      ·exact hLf h (.inl (by simp only[AV.aU,AV.cp];exact .inl ⟨a,ha,hm⟩))
      ·rcases List.mem_append.1 ha with ha|ha
       ·exact vA a ha h hm
       ·exact hLf h (.inl (by simp only[AV.aU,AV.cp];exact .inr ⟨a,ha,hm⟩)))) (fun a ha m hm=>(by
      rcases List.mem_append.1 ha with ha|ha
      ·exact hRf m (by simp only[AV.aU,AV.cp];exact .inl ⟨a,ha,hm⟩)
      ·rcases List.mem_append.1 ha with ha|ha
       ·exact vR a ha m hm
       ·exact hRf m (by simp only[AV.aU,AV.cp];exact .inr ⟨a,ha,hm⟩)))) hk
     rcases List.mem_append.1 hx with hx|hx
     ·obtain⟨v,hv,rfl⟩:=List.mem_map.1 hx
      exact hLf h (hm.of fun h hm=>by simp only[AV.aU,AV.cp];exact .inl ⟨v,hv,hm⟩) hne
     ·rcases List.mem_append.1 hx with hx|hx
      ·exact hvs x hx h hm hne
      ·obtain⟨v,hv,rfl⟩:=List.mem_map.1 hx
       exact hLf h (hm.of fun h hm=>by simp only[AV.aU,AV.cp];exact .inr ⟨v,hv,hm⟩) hne
    |p v=>
     cases v with
     |fn fid cs=>
      simp only at hk⊢
      rw[gK]at hk⊢
      rw[e1]at hk
      refine jy hLK _ _ _ (fun x hx h hm hne=>?_) (fun l=>ab.congr (fun a ha h hm=>(List.mem_append.1 ha).elim (fun ha=>vA a ha h hm) fun ha=>(pA _ a ha h hm).elim) (fun a ha m hm=>(List.mem_append.1 ha).elim (fun ha=>vR a ha m hm) fun ha=>(pA _ a ha _ hm).elim)) hk
      rcases List.mem_append.1 hx with hx|hx
      ·exact hvs x hx h hm hne
      ·obtain⟨v,hv,rfl⟩:=List.mem_map.1 hx
       have no:∀k,¬(AV.p v).aU k:=fun k hk=>by simp only[AV.aU]at hk
       rcases hm with hm|⟨k,h1,_⟩|⟨k,_,h1,_⟩
       ·exact(no _ hm).elim
       ·exact(no _ h1).elim
       ·exact(no _ h1).elim
     |je fid cs=>
      simp only at hk⊢
      rw[gK]at hk⊢
      rw[e1]at hk
      refine jy hLK _ _ _ (fun x hx h hm hne=>?_) (fun l=>ab.congr (fun a ha h hm=>(List.mem_append.1 ha).elim (fun ha=>(pA _ a ha h hm).elim) fun ha=>vA a ha h hm) (fun a ha m hm=>(List.mem_append.1 ha).elim (fun ha=>(pA _ a ha _ hm).elim) fun ha=>vR a ha m hm)) hk
      rcases List.mem_append.1 hx with hx|hx
      ·obtain⟨v,hv,rfl⟩:=List.mem_map.1 hx
       have no:∀k,¬(AV.p v).aU k:=fun k hk=>by simp only[AV.aU]at hk
       rcases hm with hm|⟨k,h1,_⟩|⟨k,_,h1,_⟩
       ·exact(no _ hm).elim
       ·exact(no _ h1).elim
       ·exact(no _ h1).elim
      ·exact hvs x hx h hm hne
     |_=>exact hk.elim
    |_=>exact hk.elim
end
end
end
section
abbrev oz:=List (Hd×aC)
abbrev bW (dst:Nat->Option Tmp) (v:Nat->AV):(Nat->AV)->Nat->(Nat->AV):=fun s k=>gN s (dst k) (v k)
abbrev bY (ups:Nat->oz):(Hd->aC)->Nat->(Hd->aC):=fun L k=>a7 L (ups k)
theorem cx {s:Nat->AV} {d:Option Tmp} {v:AV} {t:Nat} (h:d≠some t):gN s d v t=s t:=by
 cases d with
 |none=>rfl
 |some d=>exact aD _ _ (fun e=>h (by rw[e]))
theorem gu {s:Nat->AV} {v:AV} {t:Nat}:gN s (some t) v t=v:=aA _ _ _
theorem qa {s:Nat->AV} {d d':Option Tmp} {v v':AV} (h:∀t,d=some t->d'≠some t):gN (gN s d v) d' v'=gN (gN s d' v') d v:=by
 funext t
 by_cases e1:d=some t
 ·rw[cx (h t e1),e1,gu,gu]
 ·by_cases e2:d'=some t
  ·rw[e2,gu,cx e1,gu]
  ·rw[cx e2,cx e1,cx e1,cx e2]
theorem BZ {L:Hd->aC} {g h:Hd} {B:aC} (hk:g.key≠h.key):dL L g B h=L h:=by
 cases g with
 |t n=>exact gJ (fun e=>hk (by rw[e];rfl))
 |r n k=>
  have ne:h≠ .r n k:=fun e=>hk (by rw[e])
  cases B<;>exact aD _ _ ne
theorem xw (g h:Hd) (B:aC):(∀L,dL L g B h=L h)\/∀L L',dL L g B h=dL L' g B h:=by
 have up:∀B:aC,(∀L:Hd->aC,bz L g B h=L h)\/∀L L':Hd->aC,bz L g B h=bz L' g B h:=fun B=>by
  by_cases e:h=g
  ·subst e;exact .inr fun L L'=>by rw[aA,aA]
  ·exact .inl fun L=>aD _ _ e
 cases B with
 |bt T W rows=>
  cases g with
  |r n k=>exact up _
  |t n=>
   cases h with
   |t m=>
    by_cases e:m=n
    ·exact .inr fun L L'=>by simp[dL,fh,e]
    ·exact .inl fun L=>by simp[dL,fh,e]
   |r m k=>
    by_cases e:m=n
    ·exact .inr fun L L'=>by simp[dL,fh,e]
    ·exact .inl fun L=>by simp[dL,fh,e]
 |_=>exact up _
theorem cI {L:Hd->aC} {ups:oz} {h:Hd}:(∀x∈ups,x.1.key≠h.key)->a7 L ups h=L h:=by
 induction ups generalizing L with
 |nil=>intro _;rfl
 |cons x ups ih=>
  intro hh
  show a7 (dL L x.1 x.2) ups h=_
  rw[ih fun y hy=>hh y (List.mem_cons_of_mem _ hy)]
  exact BZ (hh x List.mem_cons_self)
theorem kr {L L':Hd->aC} {ups:oz} {h:Hd}:L h=L' h->a7 L ups h=a7 L' ups h:=by
 induction ups generalizing L L' with
 |nil=>exact id
 |cons x ups ih=>
  intro hh
  show a7 (dL L x.1 x.2) ups h=a7 (dL L' x.1 x.2) ups h
  refine ih ?_
  rcases xw x.1 h x.2 with e|e
  ·rw[e,e];exact hh
  ·exact e _ _
theorem sH (ups:oz) (h:Hd):(∀L,a7 L ups h=L h)\/∀L L',a7 L ups h=a7 L' ups h:=by
 induction ups with
 |nil=>exact .inl fun L=>rfl
 |cons x ups ih=>
  rcases ih with ih|ih
  ·rcases xw x.1 h x.2 with e|e
   ·exact .inl fun L=>(ih _).trans (e L)
   ·exact .inr fun L L'=>by
     show a7 (dL L x.1 x.2) ups h=a7 (dL L' x.1 x.2) ups h
     rw[ih,ih];exact e _ _
  ·exact .inr fun L L'=>ih _ _
theorem pJ {L:Hd->aC} {u u':oz} (h:∀x∈u,∀y∈u',x.1.key≠y.1.key):a7 (a7 L u) u'=a7 (a7 L u') u:=by
 funext k
 by_cases e1:∃x∈u,x.1.key=k.key
 ·have e2:∀y∈u',y.1.key≠k.key:=fun y hy e=>by obtain⟨x,hx,e'⟩:=e1;exact h x hx y hy (e'.trans e.symm)
  rw[cI e2]
  exact kr (cI e2).symm
 ·have e1':∀x∈u,x.1.key≠k.key:=fun x hx e=>e1 ⟨x,hx,e⟩
  rw[cI (L:=a7 L u') e1']
  exact kr (cI e1')
theorem su {ups:oz} {H:Hp} {K:Hp->Prop} (hk:ln ups H K):∃H',K H'/\look H'=a7 (look H) ups/\H.length<=H'.length/\∀x∈ups,x.1.key<H'.length:=by
 induction ups generalizing H with
 |nil=>exact⟨H,hk,rfl,Nat.le_refl _,by simp⟩
 |cons x ups ih=>
  obtain⟨h,B⟩:=x
  obtain⟨H1,hk,e1,l1,m1⟩:=wv hk
  obtain⟨H2,hk,e2,l2,m2⟩:=ih hk
  refine⟨H2,hk,by rw[e2,e1];rfl,by omega,fun y hy=>?_⟩
  rcases List.mem_cons.1 hy with rfl|hy
  ·exact Nat.lt_of_lt_of_le m1 l2
  ·exact m2 y hy
section
variable {P:Program} {Γ:kU} {E:Env} {n:Nat}
structure uk (P:Program) (Γ:kU) (all:Array Oper) (o:Oper) (s:Nat->AV) (L:Hd->aC) (base base':Nat) (v:AV) (ups:oz) (run:Bool):Prop where
 guard:match o.guard with
  |none=>run=true
  |some (j,want)=>∃t,(all[j]?).bind (·.dst)=some t/\((∃b,(s t= .tf b\/s t= .p (.bool b))/\run=(b==want))\/(s t= .undef/\run=false))
 FD:run=true->(∃LK:Hd->(aC->Prop)->Prop,(∀h K,LK h K->K (L h))/\aY Γ P (fun _=>false) (W0 s) LK L base o.op (fun v' ups'=>v'=v/\ups'=ups))/\(quiet all o.op=true->∀x∈ups,base<=x.1.key)
 not:run=false->v= .undef/\ups=[]
 le:base<=base'
 lt:∀x∈ups,x.1.key<base'
 free:∀h,base<=h.key->L h= .free
theorem rq (all:Array Oper):∀(rest:List Oper) (K:Sl->Hp->Prop) (s:Sl) (H:Hp),ji Γ P all rest K s H->
  ∃(v:Nat->AV) (ups:Nat->oz) (base:Nat->Nat) (run:Nat->Bool),(∀k o,rest[k]?=some o->uk P Γ all o (aK (bW (fun k=>(rest[k]?).bind (·.dst)) v) bf (aT s) k) (aK (bY ups) bf (look H) k) (base k) (base (k+1)) (v k) (ups k) (run k))/\
   ∃s' H',K s' H'/\aT s'=aK (bW (fun k=>(rest[k]?).bind (·.dst)) v) bf (aT s) rest.length/\look H'=aK (bY ups) bf (look H) rest.length/\base 0=H.length:=by
 intro rest
 induction rest with
 |nil=>intro K s H hk;exact⟨fun _=>.undef,fun _=>[],fun _=>H.length,fun _=>true,by simp,s,H,hk,rfl,rfl,rfl⟩
 |cons o rest ih=>
  intro K s H hk
  have step:∀(v0:AV) (u0:oz) (r0:Bool) (H1:Hp),look H1=a7 (look H) u0->uk P Γ all o (aT s) (look H) H.length H1.length v0 u0 r0->ji Γ P all rest K (eI o.dst v0 s) H1->
    ∃(v:Nat->AV) (ups:Nat->oz) (base:Nat->Nat) (run:Nat->Bool),(∀k o',(o::rest)[k]?=some o'->uk P Γ all o' (aK (bW (fun k=>((o::rest)[k]?).bind (·.dst)) v) bf (aT s) k) (aK (bY ups) bf (look H) k) (base k) (base (k+1)) (v k) (ups k) (run k))/\
     ∃s' H',K s' H'/\aT s'=aK (bW (fun k=>((o::rest)[k]?).bind (·.dst)) v) bf (aT s) (o::rest).length/\look H'=aK (bY ups) bf (look H) (o::rest).length/\base 0=H.length:=by
   intro v0 u0 r0 H1 eL hstp hk
   obtain⟨v,ups,base,run,h1,s',H',hK,e1,e2,hb0⟩:=ih K _ H1 hk
   refine⟨fun k=>match k with|0=>v0|k+1=>v k,fun k=>match k with|0=>u0|k+1=>ups k,fun k=>match k with|0=>H.length|k+1=>base k,fun k=>match k with|0=>r0|k+1=>run k,?_,s',H',hK,?_,?_,rfl⟩
   ·intro k o' ho'
    cases k with
    |zero=>
     simp only[List.getElem?_cons_zero,Option.some.injEq]at ho'
     subst ho'
     show uk P Γ all o (aT s) (look H) H.length (base 0) v0 u0 r0
     rw[hb0];exact hstp
    |succ k=>
     have:=h1 k o' (by simpa using ho')
     rw[cT,cT]
     have e:gN (aT s) o.dst v0=aT (eI o.dst v0 s):=(dX _ _ _).symm
     show uk P Γ all o' (aK _ bf (gN (aT s) o.dst v0) k) (aK _ bf (a7 (look H) u0) k) (base k) (base (k+1)) (v k) (ups k) (run k)
     rw[e,<-eL]
     exact this
   ·rw[List.length_cons,cT]
    have e:gN (aT s) o.dst v0=aT (eI o.dst v0 s):=(dX _ _ _).symm
    show aT s'=aK _ bf (gN (aT s) o.dst v0) rest.length
    rw[e];exact e1
   ·rw[List.length_cons,cT]
    show look H'=aK _ bf (a7 (look H) u0) rest.length
    rw[<-eL];exact e2
  have run:(kh H 0 fun base=>aj (fun K'=>aY Γ P (fun _=>false) (WK s) (ko H) (look H) base o.op K') (quiet all o.op) base fun v ups=>ln ups H fun H'=>ji Γ P all rest K (eI o.dst v s) H')->
    ∃v0 u0 H1,look H1=a7 (look H) u0/\H.length<=H1.length/\(∀x∈u0,x.1.key<H1.length)/\((∃LK:Hd->(aC->Prop)->Prop,(∀h K,LK h K->K (look H h))/\aY Γ P (fun _=>false) (W0 (aT s)) LK (look H) H.length o.op (fun v' ups'=>v'=v0/\ups'=u0))/\(quiet all o.op=true->∀x∈u0,H.length<=x.1.key))/\ji Γ P all rest K (eI o.dst v0 s) H1:=by
   intro hk
   have hk:=oL hk
   rw[Nat.zero_add]at hk
   obtain⟨v0,u0,h1,hb,hk⟩:=hk
   obtain⟨H1,hk,e1,l1,m1⟩:=su hk
   refine⟨v0,u0,H1,e1,l1,m1,⟨?_,fun hq x hx=>?_⟩,hk⟩
   ·rw[xB]at h1;exact⟨_,fun h K hk=>lG H h K hk,h1⟩
   ·rw[hq]at hb
    have hb:(u0.all fun x=>Hd.from H.length x.1)=true:=hb
    have:=List.all_eq_true.1 hb x hx
    cases hx1:x.1<;>rw[hx1]at this<;>first|exact Nat.le_of_ble_eq_true this|cases this
  have hk:kK Γ P all o (ji Γ P all rest) K s H:=hk
  simp only[kK]at hk
  cases hg:o.guard with
  |none=>
   rw[hg]at hk
   obtain⟨v0,u0,H1,e1,l1,m1,hr,hk⟩:=run hk
   exact step v0 u0 true H1 e1 ⟨by rw[hg],fun _=>hr,(fun h=>by cases h),l1,m1,fun h hh=>cC hh⟩ hk
  |some jw=>
   obtain⟨j,want⟩:=jw
   rw[hg]at hk
   simp only at hk
   cases ht:(all[j]?).bind (·.dst)with
   |none=>rw[ht]at hk;exact hk.elim
   |some t=>
    rw[ht]at hk
    simp only at hk
    rw[mE]at hk
    have skip:(∃b,(aT s t= .tf b\/aT s t= .p (.bool b))/\false=(b==want))\/(aT s t= .undef/\false=false)->ji Γ P all rest K (eI o.dst .undef s) H->_:=fun hc hk=>
     step .undef [] false H rfl ⟨by rw[hg];exact⟨t,ht,hc⟩,(fun h=>by cases h),fun _=>⟨rfl,rfl⟩,Nat.le_refl _,by simp,fun h hh=>cC hh⟩ hk
    cases hv:aT s t with
    |tf b=>
     rw[hv]at hk
     simp only at hk
     cases hbw:(b==want)with
     |true=>
      rw[hbw]at hk
      obtain⟨v0,u0,H1,e1,l1,m1,hr,hk⟩:=run hk
      exact step v0 u0 true H1 e1 ⟨by rw[hg];exact⟨t,ht,.inl ⟨b,.inl hv,hbw.symm⟩⟩,fun _=>hr,(fun h=>by cases h),l1,m1,fun h hh=>cC hh⟩ hk
     |false=>rw[hbw]at hk;exact skip (.inl ⟨b,.inl hv,hbw.symm⟩) hk
    |undef=>rw[hv]at hk;exact skip (.inr ⟨hv,rfl⟩) hk
    |p pv=>
     rw[hv]at hk
     cases pv with
     |bool b=>
      simp only at hk
      cases hbw:(b==want)with
      |true=>
       rw[hbw]at hk
       obtain⟨v0,u0,H1,e1,l1,m1,hr,hk⟩:=run hk
       exact step v0 u0 true H1 e1 ⟨by rw[hg];exact⟨t,ht,.inl ⟨b,.inr hv,hbw.symm⟩⟩,fun _=>hr,(fun h=>by cases h),l1,m1,fun h hh=>cC hh⟩ hk
      |false=>rw[hbw]at hk;exact skip (.inl ⟨b,.inr hv,hbw.symm⟩) hk
     |_=>exact hk.elim
    |_=>rw[hv]at hk;exact hk.elim
def js (o:Oper) (s:Nat->AV) (L:Hd->aC) (h:Hd):Prop:=looks o.op=true/\∃z∈o.op.operands.toList,Gp o.op L (cf s z) h
theorem i4 {H:Hp} {l:List Nat} {k h:Hd} (hk:k.key∈l) (hm:(look H k).aU h):h.key∈gx H l:=by
 unfold gx
 rw[List.mem_append,List.mem_flatMap]
 cases k with
 |r n j=>exact(aC.j9 _ _ _ hm).elim
 |t n=>
  refine .inr ⟨n,hk,?_⟩
  have hm:(H.getD n .free).top.aU h:=hm
  generalize H.getD n .free=B at hm
  cases B<;>first|exact hm.elim|skip
  ·obtain⟨c,hc,hm⟩:=lR hm
   exact AV.mB hc hm
  ·obtain⟨c,hc,hm⟩:=lR hm
   exact AV.mB hc hm
theorem eo {H:Hp} {l:List Nat} {n:Nat} (h:n∈l):n∈gx H l:=by unfold gx;exact List.mem_append_left _ h
theorem yG {o:Oper} {s:Sl} {H:Hp} {h:Hd} (hm:js o (aT s) (look H) h):h.key∈oq o.op H (AV.fc (o.op.operands.toList.map (cf (aT s)))):=by
 obtain⟨hlk,z,hz,hm⟩:=hm
 unfold oq
 rw[hlk,cond_true]
 have b:∀k:Hd,(cf (aT s) z).aU k->k.key∈AV.fc (o.op.operands.toList.map (cf (aT s))):=fun k hk=>AV.mB (List.mem_map_of_mem hz) hk
 rcases hm with hm|⟨hd,hm⟩
 ·cases deep o.op with
  |false=>exact b h hm
  |true=>rw[cond_true];unfold uI;exact eo (eo (b h hm))
 rw[hd,cond_true]
 unfold uI
 rcases hm with hm|⟨k,h1,h2⟩|⟨k,k',h1,h2,h3⟩
 ·exact eo (eo (b h hm))
 ·exact eo (i4 (b k h1) h2)
 ·exact i4 (i4 (b k h1) h2) h3
theorem pY (all:Array Oper):∀(rest:List Oper) (K:Acc->Sl->Hp->Prop) (acc:Acc) (s:Sl) (H:Hp),gZ Γ P all rest K acc s H->
  ∃(v:Nat->AV) (ups:Nat->oz) (base:Nat->Nat) (run:Nat->Bool),(∀k o,rest[k]?=some o->uk P Γ all o (aK (bW (fun k=>(rest[k]?).bind (·.dst)) v) bf (aT s) k) (aK (bY ups) bf (look H) k) (base k) (base (k+1)) (v k) (ups k) (run k))/\
   ∃s' H',(∃acc2:Acc,acc2.length=rest.length/\K (acc++acc2) s' H'/\∀k o,rest[k]?=some o->∃rd,acc2[k]?=some (rd,(ups k).map fun x=>x.1.key)/\(run k=true->∀h,js o (aK (bW (fun k=>(rest[k]?).bind (·.dst)) v) bf (aT s) k) (aK (bY ups) bf (look H) k) h->h.key∈rd))/\aT s'=aK (bW (fun k=>(rest[k]?).bind (·.dst)) v) bf (aT s) rest.length/\look H'=aK (bY ups) bf (look H) rest.length/\base 0=H.length:=by
 intro rest
 induction rest with
 |nil=>intro K acc s H hk;exact⟨fun _=>.undef,fun _=>[],fun _=>H.length,fun _=>true,by simp,s,H,⟨[],rfl,by rw[List.append_nil];exact hk,by simp⟩,rfl,rfl,rfl⟩
 |cons o rest ih=>
  intro K acc s H hk
  have step:∀(v0:AV) (u0:oz) (r0:Bool) (H1:Hp) (rd:List Nat),(r0=true->∀h,js o (aT s) (look H) h->h.key∈rd)->look H1=a7 (look H) u0->uk P Γ all o (aT s) (look H) H.length H1.length v0 u0 r0->gZ Γ P all rest K (acc++[(rd,u0.map fun x=>x.1.key)]) (eI o.dst v0 s) H1->
    ∃(v:Nat->AV) (ups:Nat->oz) (base:Nat->Nat) (run:Nat->Bool),(∀k o',(o::rest)[k]?=some o'->uk P Γ all o' (aK (bW (fun k=>((o::rest)[k]?).bind (·.dst)) v) bf (aT s) k) (aK (bY ups) bf (look H) k) (base k) (base (k+1)) (v k) (ups k) (run k))/\
     ∃s' H',(∃acc2:Acc,acc2.length=(o::rest).length/\K (acc++acc2) s' H'/\∀k o',(o::rest)[k]?=some o'->∃rd,acc2[k]?=some (rd,(ups k).map fun x=>x.1.key)/\(run k=true->∀h,js o' (aK (bW (fun k=>((o::rest)[k]?).bind (·.dst)) v) bf (aT s) k) (aK (bY ups) bf (look H) k) h->h.key∈rd))/\aT s'=aK (bW (fun k=>((o::rest)[k]?).bind (·.dst)) v) bf (aT s) (o::rest).length/\look H'=aK (bY ups) bf (look H) (o::rest).length/\base 0=H.length:=by
   intro v0 u0 r0 H1 rd hrd eL hstp hk
   obtain⟨v,ups,base,run,h1,s',H',⟨acc2,hlen,hK,hacc⟩,e1,e2,hb0⟩:=ih K _ _ H1 hk
   refine⟨fun k=>match k with|0=>v0|k+1=>v k,fun k=>match k with|0=>u0|k+1=>ups k,fun k=>match k with|0=>H.length|k+1=>base k,fun k=>match k with|0=>r0|k+1=>run k,?_,s',H',⟨(rd,u0.map fun x=>x.1.key)::acc2,by simp[hlen],by rw[List.append_assoc]at hK;exact hK,fun k o' ho'=>?_⟩,?_,?_,rfl⟩
   ·intro k o' ho'
    cases k with
    |zero=>
     simp only[List.getElem?_cons_zero,Option.some.injEq]at ho'
     subst ho'
     show uk P Γ all o (aT s) (look H) H.length (base 0) v0 u0 r0
     rw[hb0];exact hstp
    |succ k=>
     have:=h1 k o' (by simpa using ho')
     rw[cT,cT]
     have e:gN (aT s) o.dst v0=aT (eI o.dst v0 s):=(dX _ _ _).symm
     show uk P Γ all o' (aK _ bf (gN (aT s) o.dst v0) k) (aK _ bf (a7 (look H) u0) k) (base k) (base (k+1)) (v k) (ups k) (run k)
     rw[e,<-eL]
     exact this
   ·cases k with
    |zero=>
     simp only[List.getElem?_cons_zero,Option.some.injEq]at ho'
     subst ho'
     exact⟨rd,rfl,hrd⟩
    |succ k=>
     obtain⟨rd',h3,h4⟩:=hacc k o' (by simpa using ho')
     refine⟨rd',by simpa using h3,fun hr=>?_⟩
     rw[cT,cT]
     have e:gN (aT s) o.dst v0=aT (eI o.dst v0 s):=(dX _ _ _).symm
     show ∀h,js o' (aK _ bf (gN (aT s) o.dst v0) k) (aK _ bf (a7 (look H) u0) k) h->h.key∈rd'
     rw[e,<-eL]
     exact h4 hr
   ·rw[List.length_cons,cT]
    have e:gN (aT s) o.dst v0=aT (eI o.dst v0 s):=(dX _ _ _).symm
    show aT s'=aK _ bf (gN (aT s) o.dst v0) rest.length
    rw[e];exact e1
   ·rw[List.length_cons,cT]
    show look H'=aK _ bf (a7 (look H) u0) rest.length
    rw[<-eL];exact e2
  have run:(eK (WK s) o.op.operands.toList fun vs=>kh H 0 fun base=>aj (fun K'=>aY Γ P (fun _=>false) (WK s) (ko H) (look H) base o.op K') (quiet all o.op) base fun v ups=>ln ups H fun H'=>gZ Γ P all rest K (acc++[(oq o.op H (AV.fc vs),ups.map fun x=>x.1.key)]) (eI o.dst v s) H')->
    ∃v0 u0 H1 rd,(∀h,js o (aT s) (look H) h->h.key∈rd)/\look H1=a7 (look H) u0/\H.length<=H1.length/\(∀x∈u0,x.1.key<H1.length)/\((∃LK:Hd->(aC->Prop)->Prop,(∀h K,LK h K->K (look H h))/\aY Γ P (fun _=>false) (W0 (aT s)) LK (look H) H.length o.op (fun v' ups'=>v'=v0/\ups'=u0))/\(quiet all o.op=true->∀x∈u0,H.length<=x.1.key))/\gZ Γ P all rest K (acc++[(rd,u0.map fun x=>x.1.key)]) (eI o.dst v0 s) H1:=by
   intro hk
   rw[xB,gK,<-xB]at hk
   have hk:=oL hk
   rw[Nat.zero_add]at hk
   obtain⟨v0,u0,h1,hb,hk⟩:=hk
   obtain⟨H1,hk,e1,l1,m1⟩:=su hk
   refine⟨v0,u0,H1,oq o.op H (AV.fc (o.op.operands.toList.map (cf (aT s)))),fun h hm=>yG hm,e1,l1,m1,⟨?_,fun hq x hx=>?_⟩,hk⟩
   ·rw[xB]at h1;exact⟨_,fun h K hk=>lG H h K hk,h1⟩
   ·rw[hq]at hb
    have hb:(u0.all fun x=>Hd.from H.length x.1)=true:=hb
    have:=List.all_eq_true.1 hb x hx
    cases hx1:x.1<;>rw[hx1]at this<;>first|exact Nat.le_of_ble_eq_true this|cases this
  have hk:jB Γ P all o (gZ Γ P all rest) K acc s H:=hk
  simp only[jB]at hk
  cases hg:o.guard with
  |none=>
   rw[hg]at hk
   obtain⟨v0,u0,H1,rd,hrd,e1,l1,m1,hr,hk⟩:=run hk
   exact step v0 u0 true H1 rd (fun _=>hrd) e1 ⟨by rw[hg],fun _=>hr,(fun h=>by cases h),l1,m1,fun h hh=>cC hh⟩ hk
  |some jw=>
   obtain⟨j,want⟩:=jw
   rw[hg]at hk
   simp only at hk
   cases ht:(all[j]?).bind (·.dst)with
   |none=>rw[ht]at hk;exact hk.elim
   |some t=>
    rw[ht]at hk
    simp only at hk
    rw[mE]at hk
    have skip:(∃b,(aT s t= .tf b\/aT s t= .p (.bool b))/\false=(b==want))\/(aT s t= .undef/\false=false)->gZ Γ P all rest K (acc++[([],[])]) (eI o.dst .undef s) H->_:=fun hc hk=>
     step .undef [] false H [] (fun h=>by cases h) rfl ⟨by rw[hg];exact⟨t,ht,hc⟩,(fun h=>by cases h),fun _=>⟨rfl,rfl⟩,Nat.le_refl _,by simp,fun h hh=>cC hh⟩ hk
    cases hv:aT s t with
    |tf b=>
     rw[hv]at hk
     simp only at hk
     cases hbw:(b==want)with
     |true=>
      rw[hbw]at hk
      obtain⟨v0,u0,H1,rd,hrd,e1,l1,m1,hr,hk⟩:=run hk
      exact step v0 u0 true H1 rd (fun _=>hrd) e1 ⟨by rw[hg];exact⟨t,ht,.inl ⟨b,.inl hv,hbw.symm⟩⟩,fun _=>hr,(fun h=>by cases h),l1,m1,fun h hh=>cC hh⟩ hk
     |false=>rw[hbw]at hk;exact skip (.inl ⟨b,.inl hv,hbw.symm⟩) hk
    |undef=>rw[hv]at hk;exact skip (.inr ⟨hv,rfl⟩) hk
    |p pv=>
     rw[hv]at hk
     cases pv with
     |bool b=>
      simp only at hk
      cases hbw:(b==want)with
      |true=>
       rw[hbw]at hk
       obtain⟨v0,u0,H1,rd,hrd,e1,l1,m1,hr,hk⟩:=run hk
       exact step v0 u0 true H1 rd (fun _=>hrd) e1 ⟨by rw[hg];exact⟨t,ht,.inl ⟨b,.inr hv,hbw.symm⟩⟩,fun _=>hr,(fun h=>by cases h),l1,m1,fun h hh=>cC hh⟩ hk
      |false=>rw[hbw]at hk;exact skip (.inl ⟨b,.inr hv,hbw.symm⟩) hk
     |_=>exact hk.elim
    |_=>rw[hv]at hk;exact hk.elim
def Hb (u1:oz) (r1:Bool) (m1:Hd->Prop) (u2:oz) (r2:Bool) (m2:Hd->Prop):Prop:=(∀p∈u1,∀q∈u2,p.1.key≠q.1.key)/\(r2=true->∀p∈u1,∀h,m2 h->p.1.key≠h.key)/\(r1=true->∀q∈u2,∀h,m1 h->q.1.key≠h.key)
def Cr (ops:Array Oper) (x:Oper) (sx:Nat->AV) (Lx:Hd->aC) (ux:oz) (rx:Bool) (y:Oper) (sy:Nat->AV) (Ly:Hd->aC) (uy:oz) (ry:Bool):Prop:=
 (quiet ops x.op=true/\quiet ops y.op=true)\/(dP x.op=true/\dP y.op=true/\Hb ux rx (js x sx Lx) uy ry (js y sy Ly))
theorem Cr.q0 {ops:Array Oper} {x:Oper} {sx:Nat->AV} {Lx:Hd->aC} {ux:oz} {rx:Bool} {y:Oper} {sy:Nat->AV} {Ly:Hd->aC} {uy:oz} {ry:Bool} (h:Cr ops x sx Lx ux rx y sy Ly uy ry):dP x.op=true/\dP y.op=true:=by
 rcases h with⟨h1,h2⟩|⟨h1,h2,_⟩
 ·exact⟨(Bool.and_eq_true ..▸h1).1,(Bool.and_eq_true ..▸h2).1⟩
 ·exact⟨h1,h2⟩
theorem St.drawn {s:Nat->AV} {L:Hd->aC} {a:Act} {w:World} (h:St E n s L a w):St E n s L a {w with drawn:=w.drawn+1}:=by
 obtain⟨F,β,h⟩:=h
 exact⟨F,β,h.still rfl rfl rfl rfl⟩
theorem qF (hΓ:fk P Γ) (ops:Array Oper) (hfit:kE n ops.toList=true) (hdepF:∀{j:Nat} {o:Oper},ops[j]?=some o->∀e∈o.after.toList,Region.binds .any e=true->e.on<j) (Q:Exit->Act->World->Prop)
  (s:Sl) (H:Hp) (a:Act) (w:World) (v:Nat->AV) (ups:Nat->oz) (base:Nat->Nat) (run:Nat->Bool)
  (hstp:∀k o,ops.toList[k]?=some o->uk P Γ ops o (aK (bW (fun k=>(ops.toList[k]?).bind (·.dst)) v) bf (aT s) k) (aK (bY ups) bf (look H) k) (base k) (base (k+1)) (v k) (ups k) (run k))
  (s':Sl) (H':Hp) (hQ':∀a w,St E n (aT s') (look H') a w->Q .normal a w) (e1:aT s'=aK (bW (fun k=>(ops.toList[k]?).bind (·.dst)) v) bf (aT s) ops.toList.length) (e2:look H'=aK (bY ups) bf (look H) ops.toList.length) (hb0:base 0=H.length)
  (hpair:∀{i j:Nat} {x y:Oper},ops[i]?=some x->ops[j]?=some y->i<j->(x.apart ops y=true/\Cr ops x (aK (bW (fun k=>(ops.toList[k]?).bind (·.dst)) v) bf (aT s) i) (aK (bY ups) bf (look H) i) (ups i) (run i) y (aK (bW (fun k=>(ops.toList[k]?).bind (·.dst)) v) bf (aT s) j) (aK (bY ups) bf (look H) j) (ups j) (run j))\/∀D,eW ops.toList D->D j=true->D i=true)
  (hst:St E n (aT s) (look H) a w):wpAny P .any ops Q ops.size (Array.replicate ops.size false) a w:=by
 rw[Array.length_toList]at e1 e2
 generalize hdst:(fun(k:Nat)=>(ops.toList[k]?).bind (fun(o:Oper)=>o.dst))=dst at hstp e1 hpair
 have hdst':∀{k:Nat} {o:Oper},ops[k]?=some o->dst k=o.dst:=fun{k o} h=>by rw[<-hdst];simp[h]
 have hstp:∀{k:Nat} {o:Oper},ops[k]?=some o->uk P Γ ops o (aK (bW dst v) bf (aT s) k) (aK (bY ups) bf (look H) k) (base k) (base (k+1)) (v k) (ups k) (run k):=fun{k o} h=>hstp k o (by simpa using h)
 have hget:∀k,k<ops.size->∃o,ops[k]?=some o:=fun k hk=>⟨ops[k],by simp[hk]⟩
 have hmono:∀j,j<=ops.size->∀i,i<=j->base i<=base j:=by
  intro j
  induction j with
  |zero=>intro _ i hi;rw[Nat.le_zero.1 hi];exact Nat.le_refl _
  |succ j ih=>
   intro hj i hi
   by_cases e:i=j+1
   ·rw[e];exact Nat.le_refl _
   ·obtain⟨o,ho⟩:=hget j (by omega)
    exact Nat.le_trans (ih (by omega) i (by omega)) (hstp ho).le
 have hupslt:∀{k:Nat},k<ops.size->∀x∈ups k,x.1.key<base (k+1):=fun{k} hk=>by
  obtain⟨o,ho⟩:=hget k hk;exact(hstp ho).lt
 have hupsge:∀{k:Nat} {o:Oper},ops[k]?=some o->quiet ops o.op=true->∀x∈ups k,base k<=x.1.key:=fun{k o} ho hq x hx=>by
  cases hr:run k with
  |true=>exact((hstp ho).FD hr).2 hq x hx
  |false=>rw[((hstp ho).not hr).2]at hx;simp at hx
 have done:∀(D:Nat->Bool) (a:Act) (w:World),(∀i,i<ops.size->D i=true)->St E n (aK (bW dst v) D (aT s) ops.size) (aK (bY ups) D (look H) ops.size) a w->Q .normal a w:=by
  intro D a w hD hst
  rw[fQ (D':=bf) ops.size fun j hj=>hD j hj,fQ (D':=bf) ops.size fun j hj=>hD j hj,<-e1,<-e2]at hst
  exact hQ' a w hst
 have key:∀(fuel:Nat) (listed:Array Bool) (a:Act) (w:World),listed.size=ops.size->eW ops.toList (fun j=>listed.getD j false)->((List.range ops.size).filter fun i=> !listed.getD i false).length<=fuel->
   St E n (aK (bW dst v) (fun j=>listed.getD j false) (aT s) ops.size) (aK (bY ups) (fun j=>listed.getD j false) (look H) ops.size) a w->wpAny P .any ops Q fuel listed a w:=by
  intro fuel
  induction fuel with
  |zero=>
   intro listed a w hsz hcl hcnt hst
   have hall:∀i,i<ops.size->listed.getD i false=true:=fun i hi=>by
    have:=List.eq_nil_of_length_eq_zero (Nat.le_zero.1 hcnt)
    rw[List.filter_eq_nil_iff]at this
    simpa using this i (List.mem_range.2 hi)
   refine⟨?_,done _ a w hall hst⟩
   unfold Region.ready
   rw[List.filter_eq_nil_iff]
   intro i hi
   have hi:=List.mem_range.1 hi
   have:=hall i hi
   have e:listed.getD i true=true:=by simpa[Array.getD,hsz,hi]using this
   simp[e]
  |succ fuel ih=>
   intro listed a w hsz hcl hcnt hst
   refine⟨fun hnil=>?_,fun i hi=>?_⟩
   ·refine done _ a w (fun i=>?_) hst
    induction i using Nat.strongRecOn with
    |_ i ihs=>
     intro hi
     cases hd:listed.getD i false with
     |true=>rfl
     |false=>
      exfalso
      obtain⟨o,ho⟩:=hget i hi
      have:i∈Region.ready .any ops listed:=by
       unfold Region.ready
       rw[List.mem_filter]
       refine⟨List.mem_range.2 hi,?_⟩
       have e:listed.getD i true=false:=by simpa[Array.getD,hsz,hi]using hd
       rw[e,ho]
       simp only[Bool.not_false,Option.map_some,Option.getD_some,Bool.true_and]
       rw[<-Array.all_toList,List.all_eq_true]
       intro e he
       cases hb:Region.binds .any e with
       |false=>rfl
       |true=>
        have hlt:=hdepF ho e he hb
        have hd:=ihs e.on hlt (by omega)
        rw[hd];rfl
      rw[hnil]at this
      simp at this
   ·
    unfold Region.ready at hi
    rw[List.mem_filter]at hi
    obtain⟨hlt,hi⟩:=hi
    have hlt:=List.mem_range.1 hlt
    obtain⟨o,ho⟩:=hget i hlt
    rw[ho]at hi
    simp only[Option.map_some,Option.getD_some,Bool.and_eq_true]at hi
    obtain⟨hi1,hi2⟩:=hi
    generalize hD:(fun j=>listed.getD j false)=D at hcl hst
    have hDi:D i=false:=by
     rw[<-hD]
     have:listed.getD i true=false:=by simpa using hi1
     simpa[Array.getD,hsz,hlt]using this
    have hdep:∀e∈o.after.toList,Region.binds .any e=true->D e.on=true:=fun e he hb=>by
     rw[<-Array.all_toList,List.all_eq_true]at hi2
     have:=hi2 e he
     rw[hb]at this
     rw[<-hD];simpa using this
    have hD':(fun j=>(listed.setIfInBounds i true).getD j false)=eh D i:=by
     funext j
     rw[<-hD]
     by_cases e:j=i
     ·subst e;rw[iB];simp[Array.getD,hsz,hlt]
     ·rw[gX e]
      simp only[Array.getD_eq_getD_getElem?,Array.getElem?_setIfInBounds_ne (fun h=>e h.symm)]
    have hcl':eW ops.toList (eh D i):=by
     intro j oj hj hoj e he hb
     by_cases hji:j=i
     ·subst hji
      have:oj=o:=by
       have h1:ops[j]?=some oj:=by simpa using hoj
       rw[ho]at h1;cases h1;rfl
      subst this
      simp[eh,hdep e he hb]
     ·rw[gX hji]at hj
      simp[eh,hcl j oj hj hoj e he hb]
    have lo:∀{j:Nat} {x:Oper},ops[j]?=some x->j<i->(x.apart ops o=true/\Cr ops x (aK (bW dst v) bf (aT s) j) (aK (bY ups) bf (look H) j) (ups j) (run j) o (aK (bW dst v) bf (aT s) i) (aK (bY ups) bf (look H) i) (ups i) (run i))\/D j=true:=fun{j x} hx hji=>by
     rcases hpair hx ho hji with h|h
     ·exact .inl h
     ·have:=h _ hcl' iB
      rw[gX (by omega)]at this
      exact .inr this
    have hi':∀{j:Nat} {x:Oper},ops[j]?=some x->i<j->D j=true->o.apart ops x=true/\Cr ops o (aK (bW dst v) bf (aT s) i) (aK (bY ups) bf (look H) i) (ups i) (run i) x (aK (bW dst v) bf (aT s) j) (aK (bY ups) bf (look H) j) (ups j) (run j):=fun{j x} hx hij hj=>by
     rcases hpair ho hx hij with h|h
     ·exact h
     ·rw[h _ hcl hj]at hDi;cases hDi
    have hDlt:∀{j:Nat},D j=true->j<ops.size:=fun{j} hj=>by
     rw[<-hD]at hj
     by_cases h:j<listed.size
     ·rwa[hsz]at h
     ·simp[Array.getD,h]at hj
    have slot:∀t,t∈o.looksAt ops->aK (bW dst v) D (aT s) ops.size t=aK (bW dst v) bf (aT s) i t:=by
     intro t ht
     have low:∀m,m<=i->aK (bW dst v) D (aT s) m t=aK (bW dst v) bf (aT s) m t:=by
      intro m
      induction m with
      |zero=>intro _;rfl
      |succ m ihm=>
       intro hm
       have ihm:=ihm (by omega)
       simp only[aK,bf,cond_true]
       cases hdm:D m with
       |true=>
        simp only[cond_true]
        by_cases e:dst m=some t
        ·simp only[bW,e,gu]
        ·simp only[bW];rw[cx e,cx e];exact ihm
       |false=>
        simp only[cond_false]
        have:dst m≠some t:=fun e=>by
         obtain⟨x,hx⟩:=hget m (by omega)
         rw[hdst' hx]at e
         rcases lo hx (by omega)with⟨h,_⟩|h
         ·exact(Oper.apart_spec h).1 t e ht
         ·rw[hdm]at h;cases h
        simp only[bW]
        rw[cx this];exact ihm
     have high:∀m,m<=ops.size->i<=m->aK (bW dst v) D (aT s) m t=aK (bW dst v) D (aT s) i t:=by
      intro m
      induction m with
      |zero=>intro _ hm;rw[Nat.le_zero.1 hm]
      |succ m ihm=>
       intro hmn hm
       by_cases e:i=m+1
       ·rw[e]
       ·have ihm:=ihm (by omega) (by omega)
        simp only[aK]
        cases hdm:D m with
        |false=>exact ihm
        |true=>
         simp only[cond_true,bW]
         have hne:i≠m:=fun e=>by rw[e,hdm]at hDi;cases hDi
         obtain⟨x,hx⟩:=hget m (by omega)
         rw[cx fun e=>by
          rw[hdst' hx]at e
          exact(Oper.apart_spec (hi' hx (by omega) hdm).1).2.2 t e ht]
         exact ihm
     rw[high ops.size (Nat.le_refl _) (by omega),low i (Nat.le_refl _)]
    have loud:dP o.op=false->∀{σ:Type} (app:σ->Nat->σ) (x:σ),aK app D x ops.size=aK app bf x i:=by
     intro hq σ app x
     have high:∀m,m<=ops.size->i<=m->aK app D x m=aK app D x i:=by
      intro m
      induction m with
      |zero=>intro _ hm;rw[Nat.le_zero.1 hm]
      |succ m ihm=>
       intro hmn hm
       by_cases e:i=m+1
       ·rw[e]
       ·have ihm:=ihm (by omega) (by omega)
        simp only[aK]
        cases hdm:D m with
        |false=>exact ihm
        |true=>
         have hne:i≠m:=fun e=>by rw[e,hdm]at hDi;cases hDi
         obtain⟨y,hy⟩:=hget m (by omega)
         have:=(hi' hy (by omega) hdm).2.q0.1
         rw[hq]at this;cases this
     rw[high ops.size (Nat.le_refl _) (by omega)]
     exact fQ i fun j hj=>by
      obtain⟨y,hy⟩:=hget j (by omega)
      rcases lo hy hj with⟨_,h⟩|h
      ·have h:=h.q0.2
       rw[hq]at h;cases h
      ·exact h
    have next:∀a' w',St E n (gN (aK (bW dst v) D (aT s) ops.size) o.dst (v i)) (a7 (aK (bY ups) D (look H) ops.size) (ups i)) a' w'->wpAny P .any ops Q fuel (listed.setIfInBounds i true) a' w':=by
     intro a' w' hst'
     refine ih _ a' w' (by simpa using hsz) (by rw[hD'];exact hcl') ?_ ?_
     ·have hsub:((List.range ops.size).filter fun j=> !(listed.setIfInBounds i true).getD j false).length<((List.range ops.size).filter fun j=> !listed.getD j false).length:=by
       have e1:(fun j=> !(listed.setIfInBounds i true).getD j false)=fun j=>(!listed.getD j false)&& !(Nat.beq j i):=by
        funext j
        have this:(listed.setIfInBounds i true).getD j false=eh D i j:=congrFun hD' j
        rw[this,<-hD]
        simp[eh]
       rw[e1,<-List.countP_eq_length_filter,<-List.countP_eq_length_filter]
       have strict:∀(l:List Nat),i∈l->List.countP (fun j=>(!listed.getD j false)&& !(Nat.beq j i)) l<List.countP (fun j=> !listed.getD j false) l:=by
        have r4:∀(l:List Nat),List.countP (fun j=>(!listed.getD j false)&& !(Nat.beq j i)) l<=List.countP (fun j=> !listed.getD j false) l:=fun l=>
         List.countP_mono_left fun x _ h=>by simp only[Bool.and_eq_true]at h;exact h.1
        have hno:listed.getD i false=false:=(congrFun hD i).trans hDi
        intro l
        induction l with
        |nil=>intro h;simp at h
        |cons x l ihl=>
         intro h
         rw[List.countP_cons,List.countP_cons]
         by_cases e:x=i
         ·subst e
          have:=r4 l
          have hb:Nat.beq x x=true:=by simp
          rw[hno,hb]
          simp only[Bool.not_false,Bool.not_true,Bool.and_false,if_true,Bool.false_eq_true,if_false]
          omega
         ·have:=ihl (by rcases List.mem_cons.1 h with h|h;exact(e h.symm).elim;exact h)
          rw[vd e]
          simp only[Bool.not_false,Bool.and_true]
          split<;>omega
       exact strict _ (List.mem_range.2 hlt)
      omega
     ·rw[hD',mC hDi ops.size hlt,mC hDi ops.size hlt]
      ·simp only[bW,bY]
       rw[hdst' ho]
       exact hst'
      ·intro j hij hjn hj y
       obtain⟨x,hx⟩:=hget j hjn
       have hq:=hi' hx hij hj
       simp only[bY]
       refine pJ fun p hp q hq'=>?_
       rcases hq.2 with⟨_,hqx⟩|⟨_,_,hdis⟩
       ·have h1:=hupslt hlt p hp
        have h2:=hupsge hx hqx q hq'
        have h3:=hmono j (by omega) (i+1) (by omega)
        omega
       ·have:=hdis.1 p hp q hq'
        omega
      ·intro j hij hjn hj y
       obtain⟨x,hx⟩:=hget j hjn
       simp only[bW]
       refine qa fun t ht=>?_
       rw[hdst' hx]
       rw[hdst' ho]at ht
       exact(Oper.apart_spec (hi' hx hij hj).1).2.1 t ht
    have hdn:∀t,o.dst=some t->t<n:=fun t ht=>by
     have hm:o∈ops.toList:=List.mem_of_getElem? (by simpa using ho:ops.toList[i]?=some o)
     have:=List.all_eq_true.1 hfit o hm
     rw[ht]at this
     simpa using this
    have hS:=hstp ho
    have hwant:Region.wanted o (yielded ops a.tmps)=run i:=by
     have hg:=hS.guard
     cases hog:o.guard with
     |none=>rw[hog]at hg;simp only at hg;rw[hg];simp[Region.wanted,hog]
     |some jw=>
      obtain⟨j,want⟩:=jw
      rw[hog]at hg
      simp only at hg
      obtain⟨t,ht,hg⟩:=hg
      have htl:t∈o.looksAt ops:=by
       unfold Oper.looksAt
       rw[hog]
       simp[ht]
      rw[<-slot t htl]at hg
      obtain⟨F,β,hst'⟩:=id hst
      have hv:=hst'.fU t
      have hlt':t<a.tmps.size:=by
       rw[hst'.len]
       cases hj:ops[j]? with
       |none=>rw[hj]at ht;cases ht
       |some oj=>
        rw[hj]at ht
        have hm:oj∈ops.toList:=List.mem_of_getElem? (by simpa using hj:ops.toList[j]?=some oj)
        have:=List.all_eq_true.1 hfit oj hm
        have ht':oj.dst=some t:=ht
        rw[ht']at this
        simpa using this
      have hgt:a.tmps[t]?=some (a.tmps.getD t Go.undef):=by simp[Array.getD,hlt']
      have hy:∀x,a.tmps.getD t Go.undef=x->yielded ops a.tmps j=(match x with| .bool b=>some b|_=>none):=by
       intro x e
       unfold yielded
       rw[ht]
       simp only[Option.bind_some,hgt,e]
       cases x<;>rfl
      rcases hg with⟨b,hb,hr⟩|⟨hb,hr⟩
      ·have he:a.tmps.getD t Go.undef= .bool b:=by
        generalize a.tmps.getD t Go.undef=x at hv
        rcases hb with hb|hb
        ·rw[hb]at hv;cases hv;rfl
        ·rw[hb]at hv;cases hv with|p hp=>cases hp;rfl
       rw[hr]
       simp only[Region.wanted,hog,hy _ he]
       cases b<;>cases want<;>rfl
      ·rw[hb]at hv
       have he:a.tmps.getD t Go.undef= .tuple #[]:=by generalize a.tmps.getD t Go.undef=x at hv;cases hv;rfl
       rw[hr]
       simp only[Region.wanted,hog,hy _ he]
       rfl
    unfold wpOp
    rw[ho]
    simp only
    rw[hwant]
    cases hr:run i with
    |false=>
     rw[if_neg (by simp)]
     refine next _ w ?_
     obtain⟨hv,hu⟩:=hS.not hr
     rw[hv,hu]
     cases hd:o.dst with
     |none=>exact hst
     |some t=>
      obtain⟨F,β,h⟩:=hst
      exact⟨F,β,h.put (hdn t hd) .undef fun k hk=>by simp only[AV.aU]at hk⟩
    |true=>
     rw[if_pos rfl]
     refine .inl ?_
     obtain⟨⟨LKi,hLKi,hsem⟩,_⟩:=hS.FD hr
     have hfreeL:∀z∈ups i,base i<=z.1.key->dT (aK (bY ups) D (look H) ops.size) z.1.key:=by
      intro z hz hh1
      have hh2:=hupslt hlt z hz
      have all:∀h:Hd,h.key=z.1.key->aK (bY ups) D (look H) ops.size h= .free:=by
       intro h hzh
       rw[<-hzh]at hh1 hh2
       have:∀m,m<=ops.size->aK (bY ups) D (look H) m h= .free:=by
        intro m
        induction m with
        |zero=>
         intro _
         exact cC (by rw[<-hb0];exact Nat.le_trans (hmono i (by omega) 0 (Nat.zero_le _)) hh1)
        |succ m ihm=>
         intro hm
         have ihm:=ihm (by omega)
         simp only[aK]
         cases hdm:D m with
         |false=>exact ihm
         |true=>
          simp only[cond_true,bY]
          have hne:m≠i:=fun e=>by rw[e,hDi]at hdm;cases hdm
          rw[cI fun x hx e=>?_]
          ·exact ihm
          ·obtain⟨y,hy⟩:=hget m (by omega)
           rcases Nat.lt_or_gt_of_ne hne with hmi|hmi
           ·have h1:=hupslt (by omega) x hx
            have h2:=hmono i (by omega) (m+1) (by omega)
            omega
           ·rcases(hi' hy hmi hdm).2 with⟨_,hqy⟩|⟨_,_,hdis⟩
            ·have h1:=hupsge hy hqy x hx
             have h2:=hmono m (by omega) (i+1) (by omega)
             omega
            ·have:=hdis.1 z hz x hx
             omega
       exact this _ (Nat.le_refl _)
      exact⟨all (.t z.1.key) rfl,fun k=>all (.r z.1.key k) rfl⟩
     obtain⟨LK',hLK',hsem'⟩:∃LK':Hd->(aC->Prop)->Prop,(∀h K,LK' h K->K (aK (bY ups) D (look H) ops.size h))/\aY Γ P (fun _=>false) (W0 (aK (bW dst v) D (aT s) ops.size)) LK' (aK (bY ups) D (look H) ops.size) (base i) o.op (fun v' ups'=>v'=v i/\ups'=ups i):=by
      cases hq:dP o.op with
      |false=>rw[loud hq,loud hq];exact⟨LKi,hLKi,hsem⟩
      |true=>
       refine⟨fW _,fun h K hk=>hk,?_⟩
       have hslot:∀x∈o.op.operands.toList,cf (aK (bW dst v) bf (aT s) i) x=cf (aK (bW dst v) D (aT s) ops.size) x:=fun x hx=>by
        cases x with
        |tmp t=>
         exact(slot t (by
          unfold Oper.looksAt
          refine List.mem_append_left _ ?_
          rw[List.mem_filterMap]
          exact⟨_,hx,rfl⟩)).symm
        |_=>rfl
       have core1:∀h g,js o (aK (bW dst v) bf (aT s) i) (aK (bY ups) bf (look H) i) h->h.key=g.key->aK (bY ups) bf (look H) i h≠ .free->aK (bY ups) D (look H) ops.size g=aK (bY ups) bf (look H) i g\/aK (bY ups) D (look H) ops.size g= .free:=by
        intro h g hRD hgk hne
        have hlth:h.key<base i:=by
         rcases Nat.lt_or_ge h.key (base i)with h'|h'
         ·exact h'
         ·exact(hne (hS.free h h')).elim
        have high:∀m,m<=ops.size->i<=m->aK (bY ups) D (look H) m g=aK (bY ups) D (look H) i g:=by
         intro m
         induction m with
         |zero=>intro _ hm;rw[Nat.le_zero.1 hm]
         |succ m ihm=>
          intro hmn hm
          by_cases e:i=m+1
          ·rw[e]
          ·have ihm:=ihm (by omega) (by omega)
           simp only[aK]
           cases hdm:D m with
           |false=>exact ihm
           |true=>
            simp only[cond_true,bY]
            have hne:i≠m:=fun e=>by rw[e,hdm]at hDi;cases hDi
            obtain⟨y,hy⟩:=hget m (by omega)
            rw[cI fun x hx e=>?_]
            ·exact ihm
            ·rcases(hi' hy (by omega) hdm).2 with⟨_,hqy⟩|⟨_,_,hdis⟩
             ·have h1:=hupsge hy hqy x hx
              have h2:=hmono m (by omega) i (by omega)
              omega
             ·exact hdis.2.2 hr x hx h hRD (e.trans hgk.symm)
        have low:∀m,m<=i->aK (bY ups) D (look H) m g=aK (bY ups) bf (look H) m g\/aK (bY ups) D (look H) m g= .free:=by
         intro m
         induction m with
         |zero=>intro _;exact .inl rfl
         |succ m ihm=>
          intro hm
          have ihm:=ihm (by omega)
          obtain⟨y,hy⟩:=hget m (by omega)
          simp only[aK,bf,cond_true,bY]
          cases hdm:D m with
          |true=>
           simp only[cond_true]
           rcases sH (ups m) g with e|e
           ·rw[e,e];exact ihm
           ·exact .inl (e _ _)
          |false=>
           simp only[cond_false]
           rcases lo hy (by omega)with⟨_,hf⟩|h'
           ·rcases hf with⟨hqm,_⟩|⟨_,_,hdis⟩
            ·by_cases hex:∃x∈ups m,x.1.key=g.key
             ·obtain⟨x,hx,e⟩:=hex
              have:=hupsge hy hqm x hx
              have hfr:=(hstp hy).free g (by omega)
              rcases ihm with ihm|ihm
              ·exact .inr (ihm.trans hfr)
              ·exact .inr ihm
             ·have hex':∀x∈ups m,x.1.key≠g.key:=fun x hx e=>hex ⟨x,hx,e⟩
              rw[cI hex']
              exact ihm
            ·have hex':∀x∈ups m,x.1.key≠g.key:=fun x hx e=>hdis.2.1 hr x hx h hRD (e.trans hgk.symm)
             rw[cI hex']
             exact ihm
           ·rw[hdm]at h';cases h'
        rw[high ops.size (Nat.le_refl _) (by omega)]
        exact low i (Nat.le_refl _)
       have core:∀h,js o (aK (bW dst v) bf (aT s) i) (aK (bY ups) bf (look H) i) h->aK (bY ups) D (look H) ops.size h≠ .free->aK (bY ups) bf (look H) i h≠ .free->aK (bY ups) D (look H) ops.size h=aK (bY ups) bf (look H) i h:=fun h hRD hne' hne=>
        (core1 h h hRD rfl hne).resolve_right hne'
       have core2:∀m k,js o (aK (bW dst v) bf (aT s) i) (aK (bY ups) bf (look H) i) (.t m)->aK (bY ups) bf (look H) i (.t m)≠ .free->aK (bY ups) bf (look H) i (.r m k)= .free->aK (bY ups) D (look H) ops.size (.r m k)= .free:=fun m k hRD hne hf=>
        (core1 (.t m) (.r m k) hRD rfl hne).elim (fun e=>e.trans hf) id
       obtain⟨F,β,hst'⟩:=id hst
       refine mZ hLKi hq hslot (fun hlk x hx h hm hne=>?_) (fun hlk hdp x hx m hm hne k hk=>core2 m k ⟨hlk,x,hx,.inl (by rw[hslot x hx];exact hm)⟩ hne hk) hsem
       have zero:∀k,(cf (aK (bW dst v) D (aT s) ops.size) x).aU k->aK (bY ups) bf (look H) i k≠ .free->aK (bY ups) D (look H) ops.size k=aK (bY ups) bf (look H) i k:=fun k hk hne=>by
        refine core k ⟨hlk,x,hx,.inl (by rw[hslot x hx];exact hk)⟩ ?_ hne
        cases x with
        |tmp t=>exact hst'.ms t k hk
        |const c=>exact(sD c k hk).elim
        |global g=>simp only[cf,AV.aU]at hk
        |func f=>simp[cf,AV.aU,AV.bo]at hk
       have nfr:∀k j,(aK (bY ups) bf (look H) i k).aU j->aK (bY ups) bf (look H) i k≠ .free:=fun k j hj e=>by rw[e]at hj;exact hj.elim
       rcases hm with hm|⟨hdeep,hm⟩
       ·exact zero h hm hne
       have one:∀k j,(cf (aK (bW dst v) D (aT s) ops.size) x).aU k->(aK (bY ups) bf (look H) i k).aU j->aK (bY ups) bf (look H) i j≠ .free->aK (bY ups) D (look H) ops.size j=aK (bY ups) bf (look H) i j:=fun k j hk hj hne=>by
        refine core j ⟨hlk,x,hx,.inr ⟨hdeep,.inr (.inl ⟨k,by rw[hslot x hx];exact hk,hj⟩)⟩⟩ ?_ hne
        exact hst'.mb k j (by rw[zero k hk (nfr k j hj)];exact hj)
       rcases hm with hm|⟨k,h1,h2⟩|⟨k,k',h1,h2,h3⟩
       ·exact zero h hm hne
       ·exact one k h h1 h2 hne
       ·refine core h ⟨hlk,x,hx,.inr ⟨hdeep,.inr (.inr ⟨k,k',by rw[hslot x hx];exact h1,h2,h3⟩)⟩⟩ ?_ hne
        exact hst'.mb k' h (by rw[one k k' h1 h2 (nfr k' h h3)];exact h3)
     refine Oper.wp_mono ?_ (tO (E:=E) (n:=n) (wr:=fun _=>false) (W:=W0 _) (LK:=LK') (base:=base i) hΓ (fun x K h=>h) hLK' hst (fun v' u' hvu x hx hge=>?_) o hdn Q hsem')
     ·intro a' w' hafter
      obtain⟨v',u',⟨rfl,rfl⟩,hst'⟩:=hafter
      exact next a' w' hst'
     ·obtain⟨_,rfl⟩:=hvu
      exact hfreeL x hx hge
 refine key ops.size _ a w (by simp) (fun j o hj=>?_) ?_ ?_
 ·simp[Array.getD_eq_getD_getElem?,Array.getElem?_replicate]at hj
  split at hj<;>simp at hj
 ·exact Nat.le_trans (List.length_filter_le _ _) (by simp)
 ·have e:(fun j=>(Array.replicate ops.size false).getD j false)=fun _=>false:=by
   funext j
   simp[Array.getD_eq_getD_getElem?,Array.getElem?_replicate]
   split<;>rfl
  have z:∀{σ:Type} (app:σ->Nat->σ) (x:σ) (m:Nat),aK app (fun _=>false) x m=x:=by
   intro σ app x m
   induction m with
   |zero=>rfl
   |succ m ih=>exact ih
  rw[e,z,z]
  exact hst
theorem CJ (hΓ:fk P Γ) (ops:Array Oper) (hfit:kE n ops.toList=true) (hok:qY ops=true) (Q:Exit->Act->World->Prop) (K:Sl->Hp->Prop) (hQ:∀s H a w,K s H->St E n (aT s) (look H) a w->Q .normal a w)
  (s:Sl) (H:Hp) (a:Act) (w:World) (hk:ji Γ P ops ops.toList K s H) (hst:St E n (aT s) (look H) a w):wpAny P .any ops Q ops.size (Array.replicate ops.size false) a w:=by
 obtain⟨v,ups,base,run,hstp,s',H',hK,e1,e2,hb0⟩:=rq ops ops.toList K s H hk
 refine qF hΓ ops hfit (fun ho=>ve hok ho) Q s H a w v ups base run hstp s' H' (fun a w h=>hQ s' H' a w hK h) e1 e2 hb0 (fun{i j x y} hx hy hij=>?_) hst
 rcases tN hok hx hy hij with⟨h1,h2⟩|h
 ·exact .inl ⟨h1,.inl h2⟩
 ·exact .inr h
end
end
section
section
variable {Γ:kU}
theorem lU {t:TypeId} {F:TypeId->TI->TypeId->TI->Prop} (h:jo Γ t F):∃kt ki et ei,F kt ki et ei/\∀G:TypeId->TI->TypeId->TI->Prop,G kt ki et ei->jo Γ t G:=by
 unfold jo at h⊢
 split at h
 ·rename_i i hi
  split at h
  ·rename_i k e hd
   split at h
   ·rename_i ki hki
    split at h
    ·rename_i ei hei
     exact⟨_,_,_,_,h,fun G hG=>hG⟩
    ·exact h.elim
   ·exact h.elim
  ·exact h.elim
 ·exact h.elim
theorem AK {t:TypeId} {F G:TypeId->TI->TypeId->TI->Prop} (h:jo Γ t F) (g:jo Γ t G):jo Γ t fun a b c d=>F a b c d/\G a b c d:=by
 unfold jo at h g⊢
 cases h1:Γ t with
 |none=>rw[h1]at h;exact h.elim
 |some i=>
  rw[h1]at h g
  simp only at h g⊢
  cases h2:i.d with
  |map k e=>
   rw[h2]at h g
   simp only at h g⊢
   cases h3:Γ k with
   |none=>rw[h3]at h;exact h.elim
   |some ki=>
    rw[h3]at h g
    simp only at h g⊢
    cases h4:Γ e with
    |none=>rw[h4]at h;exact h.elim
    |some ei=>rw[h4]at h g;exact⟨h,g⟩
  |_=>rw[h2]at h;exact h.elim
theorem q9 {cs:List AV} {F:List PV->Prop} {G0:List AV->Prop} (hG0:∀l,¬G0 l) (h:fq cs F G0):∃l,F l/\∀G:List PV->Prop,G l->fq cs G G0:=by
 induction cs generalizing F G0 with
 |nil=>exact⟨[],h,fun G hG=>hG⟩
 |cons c cs ih=>
  have other:(fq.rebuild cs fun l=>G0 (c::l))->∃l,F l/\∀G:List PV->Prop,G l->fq (c::cs) G G0:=fun h=>(hG0 _ (kG (K:=fun l=>G0 (c::l)) h)).elim
  cases c with
  |p v=>
   obtain⟨l,h1,h2⟩:=ih (F:=fun l=>F (v::l)) (G0:=fun l=>G0 (.p v::l)) (fun l=>hG0 _) h
   exact⟨v::l,h1,fun G hG=>h2 (fun l=>G (v::l)) hG⟩
  |tf b=>
   obtain⟨l,h1,h2⟩:=ih (F:=fun l=>F (.bool b::l)) (G0:=fun l=>G0 (.tf b::l)) (fun l=>hG0 _) h
   exact⟨.bool b::l,h1,fun G hG=>h2 (fun l=>G (.bool b::l)) hG⟩
  |_=>exact other h
theorem qM {t:TypeId} {v:AV} {F:PV->Prop} (h:po Γ t v F):∃p,F p/\∀G:PV->Prop,G p->po Γ t v G:=by
 unfold po at h⊢
 split at h
 ·exact⟨_,h,fun G hG=>hG⟩
 ·exact⟨_,h,fun G hG=>hG⟩
 ·split at h
  ·split at h
   ·exact⟨_,h,fun G hG=>hG⟩
   ·exact h.elim
  ·exact h.elim
 ·obtain⟨l,hl,hg⟩:=q9 (fun _ h=>h) h
  exact⟨_,hl,fun G hG=>hg _ hG⟩
 ·obtain⟨l,hl,hg⟩:=q9 (fun _ h=>h) h
  exact⟨_,hl,fun G hG=>hg _ hG⟩
 ·obtain⟨l,hl,hg⟩:=q9 (fun _ h=>h) h
  exact⟨_,hl,fun G hG=>hg _ hG⟩
 ·exact h.elim
def KB (Γ:kU) (t:TypeId) (p:PV):Prop:=jo Γ t fun _ ki _ _=>ki.pb p=true
theorem E0 {p q:PV} (h:PV.f9 p q=false):PV.f9 q p=false:=by
 cases e:PV.f9 q p with
 |false=>rfl
 |true=>have:=zI e;subst this;rw[e]at h;cases h
theorem tb {L:Hd->aC} {LK:Hd->(aC->Prop)->Prop} (hLK:∀h K,LK h K->K (L h)) {t:TypeId} {h:Hd} {vk vx v:AV} {u:List (Hd×aC)} (hk:dm Γ LK t (.map h) vk vx fun v' u'=>v'=v/\u'=u):
  ∃(key val:PV) (es1:List (PV×PV)),L h= .map es1/\v= .undef/\((u=[(h,.map (es1++[(key,val)]))]/\∀e∈es1,PV.f9 key e.1=false)\/∃es',u=[(h,.map es')]/\es'.length=es1.length)/\KB Γ t key/\
   ∀(L':Hd->aC) (es2:List (PV×PV)),L' h= .map es2->(∀e∈es2,KB Γ t e.1/\PV.f9 key e.1=false)->dm Γ (fW L') t (.map h) vk vx fun v' u'=>v'= .undef/\u'=[(h,.map (es2++[(key,val)]))]:=by
 unfold dm at hk
 obtain⟨kt,ki,et,ei,hk,hm⟩:=lU hk
 obtain⟨key,hk,hkey⟩:=qM hk
 obtain⟨val,hk,hval⟩:=qM hk
 cases hb:ki.pb key with
 |false=>rw[hb]at hk;exact hk.elim
 |true=>
  rw[hb]at hk
  simp only[cond_true]at hk
  have hk:=hLK _ _ hk
  cases hB:L h with
  |map es=>
   rw[hB]at hk
   obtain⟨hks,hk⟩:=hk
   have regen:∀(L':Hd->aC) (es2:List (PV×PV)),L' h= .map es2->(∀e∈es2,KB Γ t e.1/\PV.f9 key e.1=false)->dm Γ (fW L') t (.map h) vk vx fun v' u'=>v'= .undef/\u'=[(h,.map (es2++[(key,val)]))]:=by
    intro L' es2 hL' he
    unfold dm
    refine hm _ (hkey _ (hval _ ?_))
    rw[hb]
    simp only[cond_true,fW,hL']
    refine⟨fun e hm'=>?_,.new _ (fun e hm'=>(he e hm').2) rfl (by simp)⟩
    have:=(he e hm').1
    have:=AK (hm (fun _ ki' _ _=>ki'=ki) rfl) this
    obtain⟨_,ki',_,_,⟨e1,e2⟩,_⟩:=lU this
    rw[<-e1];exact e2
   refine⟨key,val,es,rfl,?_,?_,hm _ hb,regen⟩
   ·cases hk with
    |dh i e es' h1 h2 h3 h4 hk=>exact hk.1.symm
    |new es' h1 h2 hk=>exact hk.1.symm
   ·cases hk with
    |dh i e es' h1 h2 h3 h4 hk=>exact .inr ⟨es',hk.2.symm,by rw[<-h4,List.length_set]⟩
    |new es' h1 h2 hk=>exact .inl ⟨by rw[h2];exact hk.2.symm,h1⟩
  |_=>rw[hB]at hk;exact hk.elim
end
theorem km {ops:Array Oper} (h:iV ops=true) {i j:Nat} {x y:Oper} (hx:ops[i]?=some x) (hy:ops[j]?=some y) (hij:i<j):x.apart ops y=true\/∀D,eW ops.toList D->D j=true->D i=true:=by
 have hmx:(x,i)∈ops.toList.zipIdx:=by rw[List.mem_zipIdx_iff_getElem?];simpa using hx
 have hmy:(y,j)∈ops.toList.zipIdx:=by rw[List.mem_zipIdx_iff_getElem?];simpa using hy
 have:=List.all_eq_true.1 h _ hmy
 rw[Bool.and_eq_true]at this
 have h1:=List.all_eq_true.1 this.2 _ hmx
 have hlt:Nat.blt i j=true:=by simpa using hij
 simp only[hlt,Bool.not_true,Bool.false_or,Bool.or_eq_true,Bool.and_eq_true]at h1
 rcases h1 with⟨ha,_⟩|h1
 ·exact .inl ha
 ·exact .inr fun D hD hj=>nY hD _ [] rfl (fun j hj=>absurd hj (Nat.not_lt_zero _)) j hj i h1
theorem gp {ops:Array Oper} {D:Nat->Bool} {m:Nat}:fj ops D (m+1)=fj ops D m++(if(D m&&mj ops m)=true then[m]else[]):=by
 unfold fj
 rw[List.range_succ,List.filter_append]
 congr 1
 by_cases h:(D m&&mj ops m)=true
 ·simp[h]
 ·simp[h]
theorem i5 {ops:Array Oper} {D D':Nat->Bool}:∀{m:Nat},(∀k,k<m->mj ops k=true->D k=D' k)->fj ops D m=fj ops D' m:=by
 intro m
 induction m with
 |zero=>intro _;rfl
 |succ m ih=>
  intro h
  rw[gp,gp,ih fun k hk=>h k (by omega)]
  congr 1
  cases e:mj ops m with
  |true=>rw[h m (by omega) e]
  |false=>simp
theorem sv {ops:Array Oper} {D:Nat->Bool} {m k:Nat}:k∈fj ops D m↔k<m/\D k=true/\mj ops k=true:=by
 unfold fj;rw[List.mem_filter,List.mem_range];simp
theorem Ap {ops:Array Oper} {D:Nat->Bool} {i:Nat} (hD:D i=false) (hI:mj ops i=true):∀m,i<m->(fj ops (eh D i) m).Perm (fj ops D m++[i]):=by
 intro m
 induction m with
 |zero=>intro h;omega
 |succ m ih=>
  intro hm
  rw[gp,gp]
  by_cases e:i=m
  ·subst e
   rw[show eh D i i=true by simp[eh],hI,hD]
   rw[i5 (D':=D) fun k hk _=>by simp[eh];omega]
   simp
  ·have e2:eh D i m=D m:=by simp[eh];omega
   rw[e2]
   refine((ih (by omega)).append_right _).trans ?_
   rw[List.append_assoc,List.append_assoc]
   exact List.Perm.append_left _ List.perm_append_comm
section
variable {P:Program} {Γ:kU} {E:Env} {n:Nat}
theorem BK (hΓ:fk P Γ) (ops:Array Oper) (hfit:kE n ops.toList=true) (hox:iV ops=true) (Q:Exit->Act->World->Prop)
  (s:Sl) (H:Hp) (a:Act) (w:World) (v:Nat->AV) (ups:Nat->oz) (base:Nat->Nat) (run:Nat->Bool)
  (hstp:∀k o,ops.toList[k]?=some o->uk P Γ ops o (aK (bW (fun k=>(ops.toList[k]?).bind (·.dst)) v) bf (aT s) k) (aK (bY ups) bf (look H) k) (base k) (base (k+1)) (v k) (ups k) (run k))
  (s':Sl) (H':Hp) (e1:aT s'=aK (bW (fun k=>(ops.toList[k]?).bind (·.dst)) v) bf (aT s) ops.toList.length) (e2:look H'=aK (bY ups) bf (look H) ops.toList.length) (hb0:base 0=H.length)
  (t0:TypeId) (h0:∃o,ops[0]?=some o/\o.op= .makeMap t0 none)
  (hop:∀k o,ops[k]?=some o->o.guard=none/\(k=0\/(∃m x y,o.op= .insert t0 m x y/\(ups k).map (fun x=>x.1.key)=[H.length]/\o.dst=none)\/(nS o.op=false/\dP o.op=true/\looks o.op=false/\ups k=[])))
  (esf:List (PV×PV)) (hes:look H' (.t H.length)= .map esf) (hn:esf.length=(fj ops bf ops.size).length)
  (hQ':∀es',es'.Perm esf->∀a w,St E n (aT s') (bz (look H') (.t H.length) (.map es')) a w->Q .normal a w)
  (hst:St E n (aT s) (look H) a w):wpAny P .any ops Q ops.size (Array.replicate ops.size false) a w:=by
 rw[Array.length_toList]at e1 e2
 generalize hdst:(fun(k:Nat)=>(ops.toList[k]?).bind (fun(o:Oper)=>o.dst))=dst at hstp e1
 have hdst':∀{k:Nat} {o:Oper},ops[k]?=some o->dst k=o.dst:=fun{k o} h=>by rw[<-hdst];simp[h]
 have hstp:∀{k:Nat} {o:Oper},ops[k]?=some o->uk P Γ ops o (aK (bW dst v) bf (aT s) k) (aK (bY ups) bf (look H) k) (base k) (base (k+1)) (v k) (ups k) (run k):=fun{k o} h=>hstp k o (by simpa using h)
 have hget:∀k,k<ops.size->∃o,ops[k]?=some o:=fun k hk=>⟨ops[k],by simp[hk]⟩
 have hdepF:∀{j:Nat} {o:Oper},ops[j]?=some o->∀e∈o.after.toList,Region.binds .any e=true->e.on<j:=fun ho=>m5 hox ho
 have hmono:∀j,j<=ops.size->∀i,i<=j->base i<=base j:=by
  intro j
  induction j with
  |zero=>intro _ i hi;rw[Nat.le_zero.1 hi];exact Nat.le_refl _
  |succ j ih=>
   intro hj i hi
   by_cases e:i=j+1
   ·rw[e];exact Nat.le_refl _
   ·obtain⟨o,ho⟩:=hget j (by omega)
    exact Nat.le_trans (ih (by omega) i (by omega)) (hstp ho).le
 have hrun:∀{k:Nat} {o:Oper},ops[k]?=some o->run k=true:=fun{k o} ho=>by
  have:=(hstp ho).guard
  rw[(hop k o ho).1]at this
  exact this
 obtain⟨o0,ho0,hm0⟩:=h0
 have hsz0:0<ops.size:=(Array.getElem?_eq_some_iff.1 ho0).1
 have bfree:∀h:Hd,h.key=H.length->look H h= .free:=fun h e=>cC (by omega)
 have hU0:ups 0=[(.t H.length,.map [])]:=by
  obtain⟨LKi,_,hsem⟩:=((hstp ho0).FD (hrun ho0)).1
  rw[hm0,hb0]at hsem
  simp only[aY]at hsem
  obtain⟨_,_,_,_,hsem,_⟩:=lU hsem
  exact hsem.2.symm
 have hI0:mj ops 0=false:=by unfold mj;rw[ho0];simp only[hm0];rfl
 have hb1:H.length<base 1:=by
  have:=(hstp ho0).lt (.t H.length,.map []) (by rw[hU0];simp)
  exact this
 have upd2:∀es es':List (PV×PV),a7 (bz (look H) (.t H.length) (.map es)) [(.t H.length,.map es')]=bz (look H) (.t H.length) (.map es'):=by
  intro es es'
  show bz (bz (look H) (.t H.length) (.map es)) (.t H.length) (.map es')=_
  funext h
  by_cases e:h= .t H.length
  ·rw[e,aA,aA]
  ·rw[aD _ _ e,aD _ _ e,aD _ _ e]
 have upd1:a7 (look H) [(.t H.length,.map [])]=bz (look H) (.t H.length) (.map []):=rfl
 have ins:∀{k:Nat} {o:Oper} {es:List (PV×PV)},ops[k]?=some o->k≠0->nS o.op=true->aK (bY ups) bf (look H) k=bz (look H) (.t H.length) (.map es)->
   ∃(m x y:Operand) (e:PV×PV),o.op= .insert t0 m x y/\o.dst=none/\cf (aK (bW dst v) bf (aT s) k) m= .map (.t H.length)/\v k= .undef/\KB Γ t0 e.1/\
    ((ups k=[(.t H.length,.map (es++[e]))]/\∀z∈es,PV.f9 e.1 z.1=false)\/∃es',ups k=[(.t H.length,.map es')]/\es'.length=es.length)/\
    ∀(L':Hd->aC) (es2:List (PV×PV)),L' (.t H.length)= .map es2->(∀z∈es2,KB Γ t0 z.1/\PV.f9 e.1 z.1=false)->
     dm Γ (fW L') t0 (.map (.t H.length)) (cf (aK (bW dst v) bf (aT s) k) x) (cf (aK (bW dst v) bf (aT s) k) y) fun v' u'=>v'= .undef/\u'=[(.t H.length,.map (es2++[e]))]:=by
  intro k o es ho hk0 hI hL
  obtain⟨m,x,y,hox',hkeys,hd⟩:∃m x y,o.op= .insert t0 m x y/\(ups k).map (fun x=>x.1.key)=[H.length]/\o.dst=none:=by
   rcases(hop k o ho).2 with h|h|h
   ·exact(hk0 h).elim
   ·exact h
   ·rw[hI]at h;cases h.1
  obtain⟨LKi,hLKi,hsem⟩:=((hstp ho).FD (hrun ho)).1
  rw[hox']at hsem
  simp only[aY,W0]at hsem
  generalize hvmr:cf (aK (bW dst v) bf (aT s) k) m=vm at hsem
  have hvm:∃h,vm= .map h:=by
   have hs2:=hsem
   unfold dm at hs2
   obtain⟨_,ki,_,_,hs2,_⟩:=lU hs2
   obtain⟨key,hs2,_⟩:=qM hs2
   obtain⟨val,hs2,_⟩:=qM hs2
   cases hb:ki.pb key with
   |false=>rw[hb]at hs2;exact hs2.elim
   |true=>
    rw[hb]at hs2
    simp only[cond_true]at hs2
    split at hs2
    ·exact⟨_,rfl⟩
    ·exact hs2.elim
  obtain⟨h,rfl⟩:=hvm
  obtain⟨key,val,es1,hL1,hv,hu,hkb,hre⟩:=tb hLKi hsem
  have hh:h= .t H.length:=by
   have hkey:h.key=H.length:=by
    rcases hu with⟨hu,_⟩|⟨_,hu,_⟩<;>rw[hu]at hkeys<;>simpa using hkeys
   by_cases e:h= .t H.length
   ·exact e
   ·rw[hL,aD _ _ e,bfree h hkey]at hL1;cases hL1
  subst hh
  have he1:es1=es:=by rw[hL,aA]at hL1;cases hL1;rfl
  subst he1
  exact⟨m,x,y,(key,val),hox',hd,hvmr,hv,hkb,hu,hre⟩
 have stay:∀{k:Nat} {o:Oper},ops[k]?=some o->k≠0->nS o.op=false->ups k=[]:=fun{k o} ho hk0 hI=>by
  rcases(hop k o ho).2 with h|⟨_,_,_,h,_⟩|h
  ·exact(hk0 h).elim
  ·rw[h]at hI;cases hI
  ·exact h.2.2.2
 have isI_of:∀{k:Nat} {o:Oper},ops[k]?=some o->mj ops k=nS o.op:=fun{k o} ho=>by unfold mj;rw[ho]
 have stepU:∀{k:Nat},aK (bY ups) bf (look H) (k+1)=a7 (aK (bY ups) bf (look H) k) (ups k):=rfl
 have T1:∀m,1<=m->m<=ops.size->∃es,aK (bY ups) bf (look H) m=bz (look H) (.t H.length) (.map es):=by
  intro m
  induction m with
  |zero=>intro h;omega
  |succ m ih=>
   intro _ hm
   by_cases hm0':m=0
   ·subst hm0'
    exact⟨[],by rw[stepU,hU0];exact upd1⟩
   ·obtain⟨es,hes⟩:=ih (by omega) (by omega)
    obtain⟨o,ho⟩:=hget m (by omega)
    rw[stepU]
    cases hI:nS o.op with
    |false=>rw[stay ho hm0' hI];exact⟨es,hes⟩
    |true=>
     obtain⟨_,_,_,e,_,_,_,_,_,hu,_⟩:=ins ho hm0' hI hes
     rcases hu with⟨hu,_⟩|⟨es',hu,_⟩
     ·exact⟨es++[e],by rw[hu,hes];exact upd2 _ _⟩
     ·exact⟨es',by rw[hu,hes];exact upd2 _ _⟩
 obtain⟨esT,hesT⟩:∃esT:Nat->List (PV×PV),∀m,1<=m->m<=ops.size->aK (bY ups) bf (look H) m=bz (look H) (.t H.length) (.map (esT m)):=by
  refine⟨fun m=>match aK (bY ups) bf (look H) m (.t H.length)with| .map es=>es|_=>[],fun m h1 h2=>?_⟩
  obtain⟨es,hes⟩:=T1 m h1 h2
  simp only[hes,aA]
 have esT_det:∀{m:Nat} {es:List (PV×PV)},1<=m->m<=ops.size->aK (bY ups) bf (look H) m=bz (look H) (.t H.length) (.map es)->esT m=es:=fun{m es} h1 h2 h=>by
  have:=hesT m h1 h2
  rw[h]at this
  have:=congrFun this (.t H.length)
  rw[aA,aA]at this
  cases this;rfl
 have esT1:esT 1=[]:=esT_det (Nat.le_refl _) hsz0 (by rw[stepU,hU0];exact upd1)
 have esTf:esT ops.size=esf:=esT_det hsz0 (Nat.le_refl _) (by
  have:=hesT ops.size hsz0 (Nat.le_refl _)
  rw[e2]at hes
  rw[this,aA]at hes
  cases hes;exact this)
 have T3:∀k,k≠0->k<ops.size->mj ops k=false->esT (k+1)=esT k:=fun k hk0 hk hI=>by
  obtain⟨o,ho⟩:=hget k hk
  rw[isI_of ho]at hI
  exact esT_det (by omega) (by omega) (by rw[stepU,stay ho hk0 hI];exact hesT k (by omega) (by omega))
 have T2:∀k,k≠0->k<ops.size->mj ops k=true->∃e:PV×PV,((esT (k+1)=esT k++[e]/\∀z∈esT k,PV.f9 e.1 z.1=false)\/(esT (k+1)).length=(esT k).length)/\KB Γ t0 e.1/\
   ∃(o:Oper) (m x y:Operand),ops[k]?=some o/\o.op= .insert t0 m x y/\o.dst=none/\cf (aK (bW dst v) bf (aT s) k) m= .map (.t H.length)/\v k= .undef/\
    ∀(L':Hd->aC) (es2:List (PV×PV)),L' (.t H.length)= .map es2->(∀z∈es2,KB Γ t0 z.1/\PV.f9 e.1 z.1=false)->
     dm Γ (fW L') t0 (.map (.t H.length)) (cf (aK (bW dst v) bf (aT s) k) x) (cf (aK (bW dst v) bf (aT s) k) y) fun v' u'=>v'= .undef/\u'=[(.t H.length,.map (es2++[e]))]:=fun k hk0 hk hI=>by
  obtain⟨o,ho⟩:=hget k hk
  rw[isI_of ho]at hI
  obtain⟨m,x,y,e,h1,h2,h3,h4,h5,hu,h6⟩:=ins ho hk0 hI (hesT k (by omega) (by omega))
  refine⟨e,?_,h5,o,m,x,y,ho,h1,h2,h3,h4,h6⟩
  rcases hu with⟨hu,hne⟩|⟨es',hu,hl⟩
  ·exact .inl ⟨esT_det (by omega) (by omega) (by rw[stepU,hu,hesT k (by omega) (by omega)];exact upd2 _ _),hne⟩
  ·refine .inr ?_
   rw[esT_det (m:=k+1) (es:=es') (by omega) (by omega) (by rw[stepU,hu,hesT k (by omega) (by omega)];exact upd2 _ _)]
   exact hl
 have lenS:∀k,k≠0->k<ops.size->(esT (k+1)).length<=(esT k).length+(if mj ops k=true then 1 else 0):=fun k hk0 hk=>by
  cases hI:mj ops k with
  |false=>rw[T3 k hk0 hk hI];simp
  |true=>
   obtain⟨e,h,_⟩:=T2 k hk0 hk hI
   rcases h with⟨h,_⟩|h
   ·rw[h];simp
   ·rw[h];simp
 have cntS:∀k,(fj ops bf (k+1)).length=(fj ops bf k).length+(if mj ops k=true then 1 else 0):=fun k=>by
  rw[gp,List.length_append]
  cases hI:mj ops k<;>simp[bf]
 have lenA:∀m,1<=m->m<=ops.size->(esT m).length<=(fj ops bf m).length:=by
  intro m
  induction m with
  |zero=>intro h;omega
  |succ m ih=>
   intro _ hm
   by_cases hm0':m=0
   ·subst hm0';rw[esT1];exact Nat.zero_le _
   ·have:=lenS m hm0' (by omega)
    have:=ih (by omega) (by omega)
    have:=cntS m
    omega
 have lenB:∀d m,1<=m->m+d=ops.size->(fj ops bf ops.size).length<=(esT m).length+((fj ops bf ops.size).length-(fj ops bf m).length):=by
  intro d
  induction d with
  |zero=>
   intro m h1 h;obtain rfl:m=ops.size:=by omega
   rw[esTf,hn];omega
  |succ d ih=>
   intro m h1 h
   have h3:=ih (m+1) (by omega) (by omega)
   have h4:=lenS m (by omega) (by omega)
   have h5:=cntS m
   have h6:(fj ops bf (m+1)).length<=(fj ops bf ops.size).length:=by
    have:∀j,m+1<=j->(fj ops bf (m+1)).length<=(fj ops bf j).length:=by
     intro j
     induction j with
     |zero=>intro h;omega
     |succ j ihj=>
      intro h
      by_cases e:m+1=j+1
      ·rw[e];exact Nat.le_refl _
      ·have:=ihj (by omega)
       have:=cntS j
       omega
    exact this _ (by omega)
   omega
 have allNew:∀k,k≠0->k<ops.size->mj ops k=true->(esT (k+1)).length≠(esT k).length:=fun k hk0 hk hI e=>by
  have h1:=lenA k (by omega) (by omega)
  have h2:=lenB (ops.size-(k+1)) (k+1) (by omega) (by omega)
  have h3:=cntS k
  rw[hI,if_pos rfl]at h3
  have h6:(fj ops bf (k+1)).length<=(fj ops bf ops.size).length:=by
   have:∀j,k+1<=j->(fj ops bf (k+1)).length<=(fj ops bf j).length:=by
    intro j
    induction j with
    |zero=>intro h;omega
    |succ j ihj=>
     intro h
     by_cases e:k+1=j+1
     ·rw[e];exact Nat.le_refl _
     ·have:=ihj (by omega)
      have:=cntS j
      omega
   exact this _ (by omega)
  omega
 have hI00:∀k,mj ops k=true->k≠0:=fun k h e=>by rw[e,hI0]at h;cases h
 obtain⟨en,hen⟩:∃en:Nat->PV×PV,∀k,k<ops.size->mj ops k=true->(esT (k+1)=esT k++[en k]/\∀z∈esT k,PV.f9 (en k).1 z.1=false)/\KB Γ t0 (en k).1/\
   ∃(o:Oper) (m x y:Operand),ops[k]?=some o/\o.op= .insert t0 m x y/\o.dst=none/\cf (aK (bW dst v) bf (aT s) k) m= .map (.t H.length)/\v k= .undef/\
    ∀(L':Hd->aC) (es2:List (PV×PV)),L' (.t H.length)= .map es2->(∀z∈es2,KB Γ t0 z.1/\PV.f9 (en k).1 z.1=false)->
     dm Γ (fW L') t0 (.map (.t H.length)) (cf (aK (bW dst v) bf (aT s) k) x) (cf (aK (bW dst v) bf (aT s) k) y) fun v' u'=>v'= .undef/\u'=[(.t H.length,.map (es2++[en k]))]:=by
  classical
  refine⟨fun k=>if h:k<ops.size/\mj ops k=true then(T2 k (hI00 k h.2) h.1 h.2).choose else(.bool false,.bool false),fun k hk hI=>?_⟩
  simp only[dif_pos (And.intro hk hI)]
  have hs:=(T2 k (hI00 k hI) hk hI).choose_spec
  exact⟨hs.1.resolve_right (allNew k (hI00 k hI) hk hI),hs.2⟩
 have T4:∀m,1<=m->m<=ops.size->esT m=(fj ops bf m).map en:=by
  intro m
  induction m with
  |zero=>intro h;omega
  |succ m ih=>
   intro _ hm
   rw[gp,List.map_append]
   by_cases hm0':m=0
   ·subst hm0';rw[esT1,hI0];rfl
   ·rw[<-ih (by omega) (by omega)]
    cases hI:mj ops m with
    |false=>rw[T3 m hm0' (by omega) hI];simp
    |true=>rw[(hen m (by omega) hI).1.1];simp[bf]
 have apart:∀j k,j<k->k<ops.size->mj ops j=true->mj ops k=true->PV.f9 (en k).1 (en j).1=false:=fun j k hjk hk hj hkI=>by
  refine(hen k hk hkI).1.2 _ ?_
  rw[T4 k (by omega) (by omega)]
  exact List.mem_map.2 ⟨j,sv.2 ⟨hjk,rfl,hj⟩,rfl⟩
 have apart2:∀j k,j≠k->j<ops.size->k<ops.size->mj ops j=true->mj ops k=true->PV.f9 (en k).1 (en j).1=false:=fun j k hne hj hk hjI hkI=>by
  rcases Nat.lt_or_gt_of_ne hne with h|h
  ·exact apart j k h hk hjI hkI
  ·exact E0 (apart k j h hj hkI hjI)
 let Inv:(Nat->Bool)->Act->World->Prop:=fun D a w=>∃es:List (PV×PV),es.Perm ((fj ops D ops.size).map en)/\(D 0=false->es=[])/\St E n (aK (bW dst v) D (aT s) ops.size) (bif D 0 then bz (look H) (.t H.length) (.map es)else look H) a w
 have done:∀(D:Nat->Bool) (a:Act) (w:World),(∀i,i<ops.size->D i=true)->Inv D a w->Q .normal a w:=by
  intro D a w hD ⟨es,hp,_,hst⟩
  rw[hD 0 hsz0,cond_true,fQ (D':=bf) ops.size fun j hj=>hD j hj,<-e1]at hst
  rw[i5 (D':=bf) fun k hk _=>hD k hk,<-T4 ops.size hsz0 (Nat.le_refl _),esTf]at hp
  refine hQ' es hp a w ?_
  rw[e2,hesT ops.size hsz0 (Nat.le_refl _)]
  have:bz (bz (look H) (.t H.length) (.map (esT ops.size))) (.t H.length) (.map es)=bz (look H) (.t H.length) (.map es):=upd2 _ _
  rw[this];exact hst
 have key:∀(fuel:Nat) (listed:Array Bool) (a:Act) (w:World),listed.size=ops.size->eW ops.toList (fun j=>listed.getD j false)->((List.range ops.size).filter fun i=> !listed.getD i false).length<=fuel->
   Inv (fun j=>listed.getD j false) a w->wpAny P .any ops Q fuel listed a w:=by
  intro fuel
  induction fuel with
  |zero=>
   intro listed a w hsz hcl hcnt hst
   have hall:∀i,i<ops.size->listed.getD i false=true:=fun i hi=>by
    have:=List.eq_nil_of_length_eq_zero (Nat.le_zero.1 hcnt)
    rw[List.filter_eq_nil_iff]at this
    simpa using this i (List.mem_range.2 hi)
   refine⟨?_,done _ a w hall hst⟩
   unfold Region.ready
   rw[List.filter_eq_nil_iff]
   intro i hi
   have hi:=List.mem_range.1 hi
   have:=hall i hi
   have e:listed.getD i true=true:=by simpa[Array.getD,hsz,hi]using this
   simp[e]
  |succ fuel ih=>
   intro listed a w hsz hcl hcnt hst
   refine⟨fun hnil=>?_,fun i hi=>?_⟩
   ·refine done _ a w (fun i=>?_) hst
    induction i using Nat.strongRecOn with
    |_ i ihs=>
     intro hi
     cases hd:listed.getD i false with
     |true=>rfl
     |false=>
      exfalso
      obtain⟨o,ho⟩:=hget i hi
      have:i∈Region.ready .any ops listed:=by
       unfold Region.ready
       rw[List.mem_filter]
       refine⟨List.mem_range.2 hi,?_⟩
       have e:listed.getD i true=false:=by simpa[Array.getD,hsz,hi]using hd
       rw[e,ho]
       simp only[Bool.not_false,Option.map_some,Option.getD_some,Bool.true_and]
       rw[<-Array.all_toList,List.all_eq_true]
       intro e he
       cases hb:Region.binds .any e with
       |false=>rfl
       |true=>
        have hlt:=hdepF ho e he hb
        have hd:=ihs e.on hlt (by omega)
        rw[hd];rfl
      rw[hnil]at this
      simp at this
   ·
    unfold Region.ready at hi
    rw[List.mem_filter]at hi
    obtain⟨hlt,hi⟩:=hi
    have hlt:=List.mem_range.1 hlt
    obtain⟨o,ho⟩:=hget i hlt
    rw[ho]at hi
    simp only[Option.map_some,Option.getD_some,Bool.and_eq_true]at hi
    obtain⟨hi1,hi2⟩:=hi
    generalize hD:(fun j=>listed.getD j false)=D at hcl hst
    have hDi:D i=false:=by
     rw[<-hD]
     have:listed.getD i true=false:=by simpa using hi1
     simpa[Array.getD,hsz,hlt]using this
    have hdep:∀e∈o.after.toList,Region.binds .any e=true->D e.on=true:=fun e he hb=>by
     rw[<-Array.all_toList,List.all_eq_true]at hi2
     have:=hi2 e he
     rw[hb]at this
     rw[<-hD];simpa using this
    have hD':(fun j=>(listed.setIfInBounds i true).getD j false)=eh D i:=by
     funext j
     rw[<-hD]
     by_cases e:j=i
     ·subst e;rw[iB];simp[Array.getD,hsz,hlt]
     ·rw[gX e]
      simp only[Array.getD_eq_getD_getElem?,Array.getElem?_setIfInBounds_ne (fun h=>e h.symm)]
    have hcl':eW ops.toList (eh D i):=by
     intro j oj hj hoj e he hb
     by_cases hji:j=i
     ·subst hji
      have:oj=o:=by
       have h1:ops[j]?=some oj:=by simpa using hoj
       rw[ho]at h1;cases h1;rfl
      subst this
      simp[eh,hdep e he hb]
     ·rw[gX hji]at hj
      simp[eh,hcl j oj hj hoj e he hb]
    have lo:∀{j:Nat} {x:Oper},ops[j]?=some x->j<i->x.apart ops o=true\/D j=true:=fun{j x} hx hji=>by
     rcases km hox hx ho hji with h|h
     ·exact .inl h
     ·have:=h _ hcl' iB
      rw[gX (by omega)]at this
      exact .inr this
    have hi':∀{j:Nat} {x:Oper},ops[j]?=some x->i<j->D j=true->o.apart ops x=true:=fun{j x} hx hij hj=>by
     rcases km hox ho hx hij with h|h
     ·exact h
     ·rw[h _ hcl hj]at hDi;cases hDi
    have slot:∀t,t∈o.looksAt ops->aK (bW dst v) D (aT s) ops.size t=aK (bW dst v) bf (aT s) i t:=by
     intro t ht
     have low:∀m,m<=i->aK (bW dst v) D (aT s) m t=aK (bW dst v) bf (aT s) m t:=by
      intro m
      induction m with
      |zero=>intro _;rfl
      |succ m ihm=>
       intro hm
       have ihm:=ihm (by omega)
       simp only[aK,bf,cond_true]
       cases hdm:D m with
       |true=>
        simp only[cond_true]
        by_cases e:dst m=some t
        ·simp only[bW,e,gu]
        ·simp only[bW];rw[cx e,cx e];exact ihm
       |false=>
        simp only[cond_false]
        have:dst m≠some t:=fun e=>by
         obtain⟨x,hx⟩:=hget m (by omega)
         rw[hdst' hx]at e
         rcases lo hx (by omega)with h|h
         ·exact(Oper.apart_spec h).1 t e ht
         ·rw[hdm]at h;cases h
        simp only[bW]
        rw[cx this];exact ihm
     have high:∀m,m<=ops.size->i<=m->aK (bW dst v) D (aT s) m t=aK (bW dst v) D (aT s) i t:=by
      intro m
      induction m with
      |zero=>intro _ hm;rw[Nat.le_zero.1 hm]
      |succ m ihm=>
       intro hmn hm
       by_cases e:i=m+1
       ·rw[e]
       ·have ihm:=ihm (by omega) (by omega)
        simp only[aK]
        cases hdm:D m with
        |false=>exact ihm
        |true=>
         simp only[cond_true,bW]
         have hne:i≠m:=fun e=>by rw[e,hdm]at hDi;cases hDi
         obtain⟨x,hx⟩:=hget m (by omega)
         rw[cx fun e=>by
          rw[hdst' hx]at e
          exact(Oper.apart_spec (hi' hx (by omega) hdm)).2.2 t e ht]
         exact ihm
     rw[high ops.size (Nat.le_refl _) (by omega),low i (Nat.le_refl _)]
    have next:∀a' w' (es':List (PV×PV)),es'.Perm ((fj ops (eh D i) ops.size).map en)->(eh D i 0=false->es'=[])->St E n (gN (aK (bW dst v) D (aT s) ops.size) o.dst (v i)) (bif eh D i 0 then bz (look H) (.t H.length) (.map es')else look H) a' w'->wpAny P .any ops Q fuel (listed.setIfInBounds i true) a' w':=by
     intro a' w' es' hp' h0' hst'
     refine ih _ a' w' (by simpa using hsz) (by rw[hD'];exact hcl') ?_ ?_
     ·have hsub:((List.range ops.size).filter fun j=> !(listed.setIfInBounds i true).getD j false).length<((List.range ops.size).filter fun j=> !listed.getD j false).length:=by
       have e1:(fun j=> !(listed.setIfInBounds i true).getD j false)=fun j=>(!listed.getD j false)&& !(Nat.beq j i):=by
        funext j
        have this:(listed.setIfInBounds i true).getD j false=eh D i j:=congrFun hD' j
        rw[this,<-hD]
        simp[eh]
       rw[e1,<-List.countP_eq_length_filter,<-List.countP_eq_length_filter]
       have strict:∀(l:List Nat),i∈l->List.countP (fun j=>(!listed.getD j false)&& !(Nat.beq j i)) l<List.countP (fun j=> !listed.getD j false) l:=by
        have r4:∀(l:List Nat),List.countP (fun j=>(!listed.getD j false)&& !(Nat.beq j i)) l<=List.countP (fun j=> !listed.getD j false) l:=fun l=>
         List.countP_mono_left fun x _ h=>by simp only[Bool.and_eq_true]at h;exact h.1
        have hno:listed.getD i false=false:=(congrFun hD i).trans hDi
        intro l
        induction l with
        |nil=>intro h;simp at h
        |cons x l ihl=>
         intro h
         rw[List.countP_cons,List.countP_cons]
         by_cases e:x=i
         ·subst e
          have:=r4 l
          have hb:Nat.beq x x=true:=by simp
          rw[hno,hb]
          simp only[Bool.not_false,Bool.not_true,Bool.and_false,if_true,Bool.false_eq_true,if_false]
          omega
         ·have:=ihl (by rcases List.mem_cons.1 h with h|h;exact(e h.symm).elim;exact h)
          rw[vd e]
          simp only[Bool.not_false,Bool.and_true]
          split<;>omega
       exact strict _ (List.mem_range.2 hlt)
      omega
     ·rw[hD']
      refine⟨es',hp',h0',?_⟩
      rw[mC hDi ops.size hlt]
      ·simp only[bW]
       rw[hdst' ho]
       exact hst'
      ·intro j hij hjn hj y
       obtain⟨x,hx⟩:=hget j hjn
       simp only[bW]
       refine qa fun t ht=>?_
       rw[hdst' hx]
       rw[hdst' ho]at ht
       exact(Oper.apart_spec (hi' hx hij hj)).2.1 t ht
    have hdn:∀t,o.dst=some t->t<n:=fun t ht=>by
     have hm:o∈ops.toList:=List.mem_of_getElem? (by simpa using ho:ops.toList[i]?=some o)
     have:=List.all_eq_true.1 hfit o hm
     rw[ht]at this
     simpa using this
    have hwant:Region.wanted o (yielded ops a.tmps)=true:=by simp[Region.wanted,(hop i o ho).1]
    unfold wpOp
    rw[ho]
    simp only
    rw[hwant,if_pos rfl]
    refine .inl ?_
    obtain⟨⟨LKi,hLKi,hsem⟩,_⟩:=((hstp ho).FD (hrun ho))
    have hslot:∀x∈o.op.operands.toList,cf (aK (bW dst v) bf (aT s) i) x=cf (aK (bW dst v) D (aT s) ops.size) x:=fun x hx=>by
     cases x with
     |tmp t=>
      exact(slot t (by
       unfold Oper.looksAt
       refine List.mem_append_left _ ?_
       rw[List.mem_filterMap]
       exact⟨_,hx,rfl⟩)).symm
     |_=>rfl
    obtain⟨es,hp,hes0,hstD⟩:=hst
    by_cases hi0:i=0
    ·
     subst hi0
     obtain rfl:o=o0:=by rw[ho]at ho0;cases ho0;rfl
     rw[hDi,cond_false]at hstD
     have hes0:=hes0 hDi
     have hsem':aY Γ P (fun _=>false) (W0 (aK (bW dst v) D (aT s) ops.size)) (fW (look H)) (look H) (base 0) o.op (fun v' ups'=>v'=v 0/\ups'=ups 0):=by
      rw[hm0]at hsem⊢
      simp only[aY]at hsem⊢
      exact hsem
     refine Oper.wp_mono ?_ (tO (E:=E) (n:=n) (wr:=fun _=>false) (W:=W0 _) (LK:=fW _) (base:=base 0) hΓ (fun x K h=>h) (fun h K hk=>hk) hstD (fun v' u' hvu x hx hge=>?_) o hdn Q hsem')
     ·intro a' w' hafter
      obtain⟨v',u',⟨rfl,rfl⟩,hst'⟩:=hafter
      refine next a' w' [] ?_ (fun _=>rfl) ?_
      ·rw[i5 (D':=D) fun k hk hkI=>by
        have:=hI00 k hkI
        simp[eh];omega]
       rw[hes0]at hp;exact hp
      ·rw[show eh D 0 0=true by simp[eh],cond_true]
       rw[hU0]at hst'
       exact hst'
     ·obtain⟨_,rfl⟩:=hvu
      rw[hU0]at hx
      obtain rfl:x=(.t H.length,.map []):=by simpa using hx
      exact⟨bfree _ rfl,fun k=>bfree _ rfl⟩
    ·have h00:eh D i 0=D 0:=by simp[eh];omega
     cases hI:mj ops i with
     |true=>
      obtain⟨⟨hnew,hne⟩,hkb,o',m,x,y,ho',hox',hd',hmr,hv,hre⟩:=hen i hlt hI
      obtain rfl:o'=o:=by rw[ho]at ho';cases ho';rfl
      have hmD:cf (aK (bW dst v) D (aT s) ops.size) m= .map (.t H.length):=by rw[<-hslot m (by rw[hox'];simp[Op.operands])];exact hmr
      have hD0:D 0=true:=by
       cases h:D 0 with
       |true=>rfl
       |false=>
        rw[h,cond_false]at hstD
        obtain⟨F,β,hst'⟩:=hstD
        have:=hst'.ug m (.t H.length) (by rw[hmD];rfl)
        exact(this (bfree _ rfl)).elim
      rw[hD0,cond_true]at hstD
      have hsem':aY Γ P (fun _=>false) (W0 (aK (bW dst v) D (aT s) ops.size)) (fW (bz (look H) (.t H.length) (.map es))) (bz (look H) (.t H.length) (.map es)) (base i) o'.op (fun v' ups'=>v'= .undef/\ups'=[(.t H.length,.map (es++[en i]))]):=by
       rw[hox']
       simp only[aY,W0]
       rw[hmD,<-hslot x (by rw[hox'];simp[Op.operands]),<-hslot y (by rw[hox'];simp[Op.operands])]
       refine hre _ es (aA _ _ _) fun z hz=>?_
       have hz:=hp.mem_iff.1 hz
       obtain⟨k,hk,rfl⟩:=List.mem_map.1 hz
       obtain⟨hk1,hk2,hk3⟩:=sv.1 hk
       exact⟨(hen k hk1 hk3).2.1,apart2 k i (fun e=>by rw[e,hDi]at hk2;cases hk2) hk1 hlt hk3 hI⟩
      refine Oper.wp_mono ?_ (tO (E:=E) (n:=n) (wr:=fun _=>false) (W:=W0 _) (LK:=fW _) (base:=base i) hΓ (fun x K h=>h) (fun h K hk=>hk) hstD (fun v' u' hvu x hx hge=>?_) o' hdn Q hsem')
      ·intro a' w' hafter
       obtain⟨v',u',⟨rfl,rfl⟩,hst'⟩:=hafter
       refine next a' w' (es++[en i]) ?_ (fun h=>by rw[h00,hD0]at h;cases h) ?_
       ·refine(hp.append_right _).trans ?_
        refine List.Perm.symm ?_
        have:=(Ap hDi hI ops.size hlt).map en
        rw[List.map_append]at this
        exact this
       ·rw[h00,hD0,cond_true,hv]
        rw[upd2]at hst'
        exact hst'
      ·obtain⟨_,rfl⟩:=hvu
       obtain rfl:x=(.t H.length,.map (es++[en i])):=by simpa using hx
       have:=hmono i (by omega) 1 (by omega)
       have hge:base i<=H.length:=hge
       omega
     |false=>
      have hIo:nS o.op=false:=by rw[<-isI_of ho];exact hI
      obtain⟨hq,hlk,hu⟩:dP o.op=true/\looks o.op=false/\ups i=[]:=by
       rcases(hop i o ho).2 with h|⟨_,_,_,h,_⟩|h
       ·exact(hi0 h).elim
       ·rw[h]at hIo;cases hIo
       ·exact h.2
      have hsem':=mZ (L':=bif D 0 then bz (look H) (.t H.length) (.map es)else look H) hLKi hq hslot (fun h=>by rw[hlk]at h;cases h) (fun h=>by rw[hlk]at h;cases h) hsem
      refine Oper.wp_mono ?_ (tO (E:=E) (n:=n) (wr:=fun _=>false) (W:=W0 _) (LK:=fW _) (base:=base i) hΓ (fun x K h=>h) (fun h K hk=>hk) hstD (fun v' u' hvu x hx hge=>?_) o hdn Q hsem')
      ·intro a' w' hafter
       obtain⟨v',u',⟨rfl,rfl⟩,hst'⟩:=hafter
       rw[hu]at hst'
       refine next a' w' es ?_ (fun h=>hes0 (by rw[<-h00];exact h)) ?_
       ·rw[i5 (D':=D) fun k hk hkI=>by
         have:k≠i:=fun e=>by rw[e,hI]at hkI;cases hkI
         simp[eh];omega]
        exact hp
       ·rw[h00];exact hst'
      ·obtain⟨_,rfl⟩:=hvu
       rw[hu]at hx;simp at hx
 refine key ops.size _ a w (by simp) (fun j o hj=>?_) ?_ ?_
 ·simp[Array.getD_eq_getD_getElem?,Array.getElem?_replicate]at hj
  split at hj<;>simp at hj
 ·exact Nat.le_trans (List.length_filter_le _ _) (by simp)
 ·have e:(fun j=>(Array.replicate ops.size false).getD j false)=fun _=>false:=by
   funext j
   simp[Array.getD_eq_getD_getElem?,Array.getElem?_replicate]
   split<;>rfl
  have z:∀{σ:Type} (app:σ->Nat->σ) (x:σ) (m:Nat),aK app (fun _=>false) x m=x:=by
   intro σ app x m
   induction m with
   |zero=>rfl
   |succ m ih=>exact ih
  rw[e]
  refine⟨[],?_,fun _=>rfl,?_⟩
  ·rw[show fj ops (fun _=>false) ops.size=[]from List.filter_eq_nil_iff.2 fun k _=>by simp];exact List.Perm.refl _
  ·rw[z];exact hst
theorem DS (hΓ:fk P Γ) (ops:Array Oper) (hfit:kE n ops.toList=true) (Q:Exit->Act->World->Prop) (K:Sl->Hp->Prop) (hQ:∀s H a w,K s H->St E n (aT s) (look H) a w->Q .normal a w)
  (s:Sl) (H:Hp) (a:Act) (w:World) (v:Nat->AV) (ups:Nat->oz) (base:Nat->Nat) (run:Nat->Bool)
  (hstp:∀k o,ops.toList[k]?=some o->uk P Γ ops o (aK (bW (fun k=>(ops.toList[k]?).bind (·.dst)) v) bf (aT s) k) (aK (bY ups) bf (look H) k) (base k) (base (k+1)) (v k) (ups k) (run k))
  (s':Sl) (H':Hp) (acc:Acc) (hlen:acc.length=ops.toList.length) (hlit:tQ ops acc=true) (hK:zM ops acc H' fun H=>K s' H) (hacc:∀k o,ops.toList[k]?=some o->∃rd,acc[k]?=some (rd,(ups k).map fun x=>x.1.key))
  (e1:aT s'=aK (bW (fun k=>(ops.toList[k]?).bind (·.dst)) v) bf (aT s) ops.toList.length) (e2:look H'=aK (bY ups) bf (look H) ops.toList.length) (hb0:base 0=H.length)
  (hst:St E n (aT s) (look H) a w):wpAny P .any ops Q ops.size (Array.replicate ops.size false) a w:=by
 unfold tQ at hlit
 rw[Bool.and_eq_true,Bool.and_eq_true]at hlit
 obtain⟨hox,_,hlit⟩:=hlit
 unfold zM at hK
 cases hops:ops.toList with
 |nil=>rw[hops]at hlit;cases hlit
 |cons o os=>
 rw[hops]at hlit
 cases acc with
 |nil=>cases hlit
 |cons ac bs=>
 obtain⟨rd,kb⟩:=ac
 cases kb with
 |nil=>cases hlit
 |cons b kb=>
 cases kb with
 |cons c kb=>cases hlit
 |nil=>
  simp only[Bool.and_eq_true]at hlit
  obtain⟨hg0,hlit⟩:=hlit
  split at hlit
  ·rename_i t0 hm0
   have ho0:ops[0]?=some o:=by
    have:ops.toList[0]?=some o:=by rw[hops];rfl
    simpa using this
   have hU0:ups 0=[(.t H.length,.map [])]:=by
    have hs0:=hstp 0 o (by rw[hops];rfl)
    have hr:run 0=true:=by
     have:=hs0.guard
     rw[Option.isNone_iff_eq_none.1 hg0]at this
     exact this
    obtain⟨LKi,_,hsem⟩:=(hs0.FD hr).1
    rw[hm0,hb0]at hsem
    simp only[aY]at hsem
    obtain⟨_,_,_,_,hsem,_⟩:=lU hsem
    exact hsem.2.symm
   have hb:b=H.length:=by
    obtain⟨rd',h1⟩:=hacc 0 o (by rw[hops];rfl)
    rw[hU0]at h1
    show b=(Hd.t H.length).key
    simpa using(congrArg (fun x=>x.map Prod.snd) h1)
   subst hb
   simp only at hK
   have hK:=gI H' _ _ hK
   obtain⟨esf,hB,hn,hk⟩:=hK
   refine BK hΓ ops hfit hox Q s H a w v ups base run hstp s' H' e1 e2 hb0 t0 ⟨o,ho0,hm0⟩ (fun k o' ho'=>?_) esf (by show(H'.getD _ .free).top=_;rw[hB];rfl) hn (fun es' hp a w hst=>?_) hst
   ·have ho'':ops.toList[k]?=some o':=by simpa using ho'
    cases k with
    |zero=>
     rw[ho0]at ho';cases ho'
     exact⟨Option.isNone_iff_eq_none.1 hg0,.inl rfl⟩
    |succ k=>
     obtain⟨rd',h1⟩:=hacc (k+1) o' ho''
     rw[hops]at ho''
     have h2:(o',(rd',(ups (k+1)).map fun x=>x.1.key))∈os.zip bs:=by
      refine List.mem_iff_getElem?.2 ⟨k,?_⟩
      rw[List.getElem?_zip_eq_some]
      exact⟨by simpa using ho'',by simpa using h1⟩
     have:=List.all_eq_true.1 hlit _ h2
     simp only[Ek,Bool.and_eq_true]at this
     obtain⟨hg,hop⟩:=this
     refine⟨Option.isNone_iff_eq_none.1 hg,.inr ?_⟩
     split at hop
     ·rename_i t m x y hop'
      simp only[Bool.and_eq_true]at hop
      obtain⟨ht,hd,hkk⟩:=hop
      have ht:=Nat.eq_of_beq_eq_true ht
      subst ht
      refine .inl ⟨m,x,y,hop',?_,Option.isNone_iff_eq_none.1 hd⟩
      split at hkk
      ·rename_i c hc
       rw[hc,Nat.eq_of_beq_eq_true hkk]
      ·cases hkk
     all_goals first
      |cases hop
      |(rename_i hop'
        have:ups (k+1)=[]:=by simpa using hop
        exact .inr ⟨by rw[hop'];rfl,by rw[hop'];rfl,by rw[hop'];rfl,this⟩)
   ·have h1:=hk es' hp
    obtain⟨H2,h2,h3⟩:=wT h1
    refine hQ s' H2 a w h2 ?_
    rw[h3]
    exact hst
  ·cases hlit
theorem BJ (hΓ:fk P Γ) (ops:Array Oper) (hfit:kE n ops.toList=true) (hok:iV ops=true) (Q:Exit->Act->World->Prop) (K:Sl->Hp->Prop) (hQ:∀s H a w,K s H->St E n (aT s) (look H) a w->Q .normal a w)
  (s:Sl) (H:Hp) (a:Act) (w:World) (hk:gZ Γ P ops ops.toList (fun acc s H=>br (xG ops acc) (K s H) (tQ ops acc) (zM ops acc H fun H=>K s H)) [] s H) (hst:St E n (aT s) (look H) a w):wpAny P .any ops Q ops.size (Array.replicate ops.size false) a w:=by
 obtain⟨v,ups,base,run,hstp,s',H',⟨acc,hlen,hfin,hacc⟩,e1,e2,hb0⟩:=pY ops ops.toList (fun acc s H=>br (xG ops acc) (K s H) (tQ ops acc) (zM ops acc H fun H=>K s H)) [] s H hk
 cases hfin with
 |G8 hlit hK=>
  rw[List.nil_append]at hlit hK
  exact DS hΓ ops hfit Q K hQ s H a w v ups base run hstp s' H' acc hlen hlit hK (fun k o h=>by obtain⟨rd,h1,_⟩:=hacc k o h;exact⟨rd,h1⟩) e1 e2 hb0 hst
 |mk hdy hK=>
  refine qF hΓ ops hfit (fun ho=>m5 hok ho) Q s H a w v ups base run hstp s' H' (fun a w h=>hQ s' H' a w hK h) e1 e2 hb0 (fun{i j x y} hx hy hij=>?_) hst
  rw[List.nil_append]at hdy
  rcases q8 hok hdy hx hy hij with⟨h1,h2⟩|h
  ·refine .inl ⟨h1,?_⟩
   rcases h2 with h2|⟨q1,q2,hd⟩
   ·exact .inl h2
   ·obtain⟨rx,ax,mx⟩:=hacc i x (by simpa using hx)
    obtain⟨ry,ay,my⟩:=hacc j y (by simpa using hy)
    have ex:acc.getD i ([],[])=(rx,(ups i).map fun x=>x.1.key):=by simp[List.getD,ax]
    have ey:acc.getD j ([],[])=(ry,(ups j).map fun x=>x.1.key):=by simp[List.getD,ay]
    rw[ex,ey]at hd
    simp only[zG,Bool.and_eq_true,List.all_eq_true]at hd
    obtain⟨d1,d2,d3⟩:=hd
    have ne:∀{g h:Nat},(!(Nat.beq g h))=true->g≠h:=fun{g h} hb e=>by subst e;simp at hb
    have mem:∀{u:oz} {p:Hd×aC},p∈u->p.1.key∈u.map fun x=>x.1.key:=fun{u p} hp=>List.mem_map.2 ⟨p,hp,rfl⟩
    refine .inr ⟨q1,q2,fun p hp q hq=>ne (d1 _ (mem hp) _ (mem hq)),fun hr p hp h hm=>?_,fun hr q hq h hm=>?_⟩
    ·exact ne (d2 _ (mem hp) _ (my hr _ hm))
    ·exact ne (d3 _ (mem hq) _ (mx hr _ hm))
  ·exact .inr h
end
end
section
section
variable {P:Program} {Γ:kU} {E:Env} {n:Nat} {wr:FuncId->Bool}
theorem DO (hΓ:fk P Γ) {s:Sl} {H:Hp} {a:Act} {w:World} (h:St E n (aT s) (look H) a w) (o:Oper) (hd:∀t,o.dst=some t->t<n) (K:Sl->Hp->Prop) (Q:Exit->Act->World->Prop)
  (hk:kh H 0 fun base=>aY Γ P wr (WK s) (ko H) (look H) base o.op fun v ups=>ln ups H fun H'=>K (eI o.dst v s) H'):
  o.wp P a w (fun a' w'=>∃s' H',K s' H'/\St E n (aT s') (look H') a' w') Q:=by
 have hk:=oL hk
 rw[Nat.zero_add]at hk
 have h1:=tO hΓ (fun x K=>zn s x K) (fun h K=>lG H h K) h (fun v ups _ x _ hx=>⟨cC hx,fun k=>cC hx⟩) o hd Q hk
 unfold Oper.wp at h1⊢
 have mono:∀r:Result Next,o.upon P a (gW E n (aT s) (look H) o.dst fun v ups=>ln ups H fun H'=>K (eI o.dst v s) H') Q r->o.upon P a (fun a' w'=>∃s' H',K s' H'/\St E n (aT s') (look H') a' w') Q r:=by
  have go:∀a' w',gW E n (aT s) (look H) o.dst (fun v ups=>ln ups H fun H'=>K (eI o.dst v s) H') a' w'->∃s' H',K s' H'/\St E n (aT s') (look H') a' w':=by
   rintro a' w' ⟨v,ups,hk,hst⟩
   obtain⟨H',hk,e⟩:=wT hk
   exact⟨_,H',hk,by rw[dX,e];exact hst⟩
  intro r hr
  cases r with
  |halt x w'=>cases x<;>first|exact hr|exact hr.elim
  |ok nx w'=>
   cases nx<;>first|exact go _ _ hr|exact hr.elim|skip
   case enter f args=>
    exact Calls.mono hr fun e w'' he=>by
     cases e with
     |returned v=>exact go _ _ he
     |panicked c=>exact he
     |outgrown=>exact he
   case row r args=>exact Rows.mono hr fun v w'' he=>go _ _ he
 exact mono _ h1
theorem yn {s:Sl} {H:Hp} {a:Act} {w:World} (h:St E n (aT s) (look H) a w) (d:Option Tmp) (hd:∀t,d=some t->t<n):St E n (aT (eI d .undef s)) (look H) (a.put d Go.undef) w:=by
 rw[dX]
 cases d with
 |none=>exact h
 |some t=>
  obtain⟨F,β,h⟩:=h
  exact⟨F,β,h.put (hd t rfl) .undef fun k hk=>by simp only[AV.aU]at hk⟩
theorem St.qc {s:Sl} {H:Hp} {a:Act} {w:World} (h:St E n (aT s) (look H) a w) {t:Nat} (b:Bool) (he:a.tmps.getD t Go.undef= .bool b):St E n (aT ((t,.tf b)::s)) (look H) a w:=by
 obtain⟨F,β,h⟩:=h
 refine⟨F,β,{h with fU:=fun k=>?_,ms:=fun k j hj=>?_}⟩
 ·simp only[aT]
  cases e:Nat.beq t k with
  |false=>exact h.fU k
  |true=>have:=Nat.eq_of_beq_eq_true e;subst this;rw[he];exact .tf b
 ·simp only[aT]at hj
  cases e:Nat.beq t k<;>rw[e]at hj
  ·exact h.ms k j hj
  ·simp only[cond_true,AV.aU]at hj
theorem A6 (hΓ:fk P Γ) (ops:Array Oper) (hfit:kE n ops.toList=true) (Q:Exit->Act->World->Prop) (K:Sl->Hp->Prop) (hQ:∀s H a w,K s H->St E n (aT s) (look H) a w->Q .normal a w):
  ∀(rest:List Oper) (i:Nat),ops.toList.drop i=rest->∀(s:Sl) (H:Hp) (a:Act) (w:World),mX Γ P wr ops rest K s H->St E n (aT s) (look H) a w->wpOps P ops Q (List.range' i rest.length) a w:=by
 intro rest
 induction rest with
 |nil=>intro i _ s H a w hk hst;exact hQ s H a w hk hst
 |cons o rest ih=>
  intro i hi s H a w hk hst
  have ho:ops[i]?=some o:=by
   have:=congrArg (fun l=>l[0]?) hi
   simpa[List.getElem?_drop]using this
  have hrest:ops.toList.drop (i+1)=rest:=by
   have:=congrArg (List.drop 1) hi
   rw[List.drop_drop]at this
   simpa using this
  have hmem:o∈ops.toList:=by
   have:o∈ops.toList.drop i:=by rw[hi];simp
   exact List.mem_of_mem_drop this
  have hd:∀t,o.dst=some t->t<n:=fun t ht=>by
   have:=List.all_eq_true.1 hfit o hmem
   rw[ht]at this
   simpa using this
  rw[List.length_cons,List.range'_succ]
  simp only[wpOps,ho]
  have run:∀s,St E n (aT s) (look H) a w->Region.wanted o (yielded ops a.tmps)=true->(kh H 0 fun base=>aY Γ P wr (WK s) (ko H) (look H) base o.op fun v ups=>ln ups H fun H'=>mX Γ P wr ops rest K (eI o.dst v s) H')->
    (if Region.wanted o (yielded ops a.tmps)=true then o.wp P a w (wpOps P ops Q (List.range' (i+1) rest.length)) Q\/(o.asks P a w/\LetsOut Q)else wpOps P ops Q (List.range' (i+1) rest.length) (a.put o.dst undef) w):=by
   intro s hst hw hk
   rw[if_pos hw]
   have h1:=DO hΓ hst o hd _ Q hk
   refine .inl ?_
   unfold Oper.wp at h1⊢
   have go:∀a' w',(∃s' H',mX Γ P wr ops rest K s' H'/\St E n (aT s') (look H') a' w')->wpOps P ops Q (List.range' (i+1) rest.length) a' w':=fun a' w' ⟨s',H',h1,h2⟩=>ih (i+1) hrest s' H' a' w' h1 h2
   generalize(execOp a.eval o).run P w=r at h1
   cases r with
   |halt x w'=>cases x<;>first|exact h1|exact h1.elim
   |ok nx w'=>
    cases nx<;>first|exact go _ _ h1|exact h1.elim|skip
    case enter f args=>
     exact Calls.mono h1 fun e w'' he=>by
      cases e with
      |returned v=>exact go _ _ he
      |panicked c=>exact he
      |outgrown=>exact he
    case row r args=>exact Rows.mono h1 fun v w'' he=>go _ _ he
  have skip:∀s,St E n (aT s) (look H) a w->Region.wanted o (yielded ops a.tmps)=false->mX Γ P wr ops rest K (eI o.dst .undef s) H->
    (if Region.wanted o (yielded ops a.tmps)=true then o.wp P a w (wpOps P ops Q (List.range' (i+1) rest.length)) Q\/(o.asks P a w/\LetsOut Q)else wpOps P ops Q (List.range' (i+1) rest.length) (a.put o.dst undef) w):=by
   intro s hst hw hk
   rw[if_neg (by rw[hw];exact Bool.false_ne_true)]
   exact ih (i+1) hrest _ H _ w hk (yn hst o.dst hd)
  have hk:mL Γ P wr ops o (mX Γ P wr ops rest) K s H:=hk
  simp only[mL]at hk
  split at hk
  ·rename_i hg
   exact run s hst (by simp[Region.wanted,hg]) hk
  ·rename_i j want hg
   split at hk
   ·exact hk.elim
   ·rename_i t ht
    have hk:=lr hk
    obtain⟨F,β,hst'⟩:=id hst
    have hv:=hst'.fU t
    have hlt:t<a.tmps.size:=by
     rw[hst'.len]
     cases hj:ops[j]? with
     |none=>rw[hj]at ht;cases ht
     |some oj=>
      rw[hj]at ht
      have hm:oj∈ops.toList:=by
       have:=List.mem_of_getElem? (by simpa using hj:ops.toList[j]?=some oj);exact this
      have:=List.all_eq_true.1 hfit oj hm
      have ht':oj.dst=some t:=ht
      rw[ht']at this
      simpa using this
    have hget:a.tmps[t]?=some (a.tmps.getD t Go.undef):=by simp[Array.getD,hlt]
    have hy:∀x,a.tmps.getD t Go.undef=x->yielded ops a.tmps j=(match x with| .bool b=>some b|_=>none):=by
     intro x e
     unfold yielded
     rw[ht]
     simp only[Option.bind_some,hget,e]
     cases x<;>rfl
    have hwant:∀b,a.tmps.getD t Go.undef= .bool b->Region.wanted o (yielded ops a.tmps)=(b==want):=fun b e=>by
     simp only[Region.wanted,hg,hy _ e]
     cases b<;>cases want<;>rfl
    have both:∀(b:Bool) (s:Sl),St E n (aT s) (look H) a w->a.tmps.getD t Go.undef= .bool b->(bif b==want then(kh H 0 fun base=>aY Γ P wr (WK s) (ko H) (look H) base o.op fun v ups=>ln ups H fun H'=>mX Γ P wr ops rest K (eI o.dst v s) H')else mX Γ P wr ops rest K (eI o.dst .undef s) H)->
      (if Region.wanted o (yielded ops a.tmps)=true then o.wp P a w (wpOps P ops Q (List.range' (i+1) rest.length)) Q\/(o.asks P a w/\LetsOut Q)else wpOps P ops Q (List.range' (i+1) rest.length) (a.put o.dst undef) w):=by
     intro b s hst e hk
     cases hb:(b==want)with
     |true=>rw[hb]at hk;exact run s hst (by rw[hwant b e,hb]) hk
     |false=>rw[hb]at hk;exact skip s hst (by rw[hwant b e,hb]) hk
    split at hk
    ·rename_i b e
     rw[e]at hv
     have he:a.tmps.getD t Go.undef= .bool b:=by generalize a.tmps.getD t Go.undef=x at hv;cases hv;rfl
     exact both b s hst he hk
    ·rename_i e
     rw[e]at hv
     have he:a.tmps.getD t Go.undef= .tuple #[]:=by generalize a.tmps.getD t Go.undef=x at hv;cases hv;rfl
     refine skip s hst ?_ hk
     simp only[Region.wanted,hg,hy _ he]
     rfl
    ·rename_i b e
     rw[e]at hv
     have he:a.tmps.getD t Go.undef= .bool b:=by generalize a.tmps.getD t Go.undef=x at hv;cases hv with|p hv=>cases hv;rfl
     obtain⟨g1,g2⟩:=hk
     cases b with
     |true=>exact both true _ (hst.qc true he) he (g1 rfl)
     |false=>exact both false _ (hst.qc false he) he (g2 rfl)
    ·exact hk.elim
theorem yB {Q:Exit->Act->World->Prop} {a:Act} {w:World} {c:Code} {X:Type} (I:X->Act->World->Prop) (μ:X->Nat) (x0:X) (h₀:I x0 a w)
  (round:∀x a w,I x a w->c.wp P (Exit.then (fun a' w'=>∃x',I x' a' w'/\μ x'<μ x) Q) a w):(Code.loop c).wp P Q a w:=by
 intro b k cs
 have key:∀n x a w,μ x=n->I x a w->
   ∃e a' w',Q e a' w'/\Arrives P (lone (b.at a (.code c:: .inLoop c::k)) cs w) b k cs e a' w':=by
  intro n
  induction n using Nat.strongRecOn with
  |_ n ih=>
   intro x a w hn hI
   obtain⟨e,a₁,w₁,hq,harr⟩:=round x a w hI b (.inLoop c::k) cs
   cases e with
   |normal=>
    obtain⟨x',hI₁,hlt⟩:=hq
    obtain⟨e₂,a₂,w₂,hq₂,harr₂⟩:=ih (μ x') (hn▸hlt) x' a₁ w₁ rfl hI₁
    exact⟨e₂,a₂,w₂,hq₂,.of_steps (Steps.trans harr (.one step_inLoop)) harr₂⟩
   |exit id=>exact⟨_,a₁,w₁,hq,.pass (x:=.inLoop c) rfl (fun _ _=>.inl (by simp)) harr⟩
   |goto l=>exact⟨_,a₁,w₁,hq,.pass (x:=.inLoop c) rfl (fun _ _=>.inl (by simp)) harr⟩
   |ret=>exact⟨_,a₁,w₁,hq,.pass (x:=.inLoop c) rfl (fun _ _=>.inl (by simp)) harr⟩
   |panic ch=>exact⟨_,a₁,w₁,hq,.pass (x:=.inLoop c) rfl (fun _ _=>.inl (by simp)) harr⟩
   |outgrown=>exact⟨_,a₁,w₁,hq,.pass (x:=.inLoop c) rfl (fun _ _=>.inl (by simp)) harr⟩
 obtain⟨e,a',w',hq,harr⟩:=key _ x0 a w rfl h₀
 exact⟨e,a',w',hq,.of_steps (.one step_loop) harr⟩
def Hi:Ex->Exit->Prop
 | .normal,.normal=>True
 | .exit i,.exit j=>i=j
 | .ret,.ret=>True
 |_,_=>False
def Ends (E:Env) (n:Nat) (K:Ex->Sl->Hp->Prop) (e:Exit) (a:Act) (w:World):Prop:=∃e' s H,Hi e' e/\K e' s H/\St E n (aT s) (look H) a w
theorem tR (hΓ:fk P Γ) (hm:P.follows .mixedOrders=true) {nin:List (Option Nat)} (hIn:∀h,E.In h->GA nin h):∀(c:Code) (K:Ex->Sl->Hp->Prop) (s:Sl) (H:Hp) (a:Act) (w:World),VC Γ P wr nin c K s H->fits n c=true->St E n (aT s) (look H) a w->c.wp P (Ends E n K) a w:=by
 intro c
 induction c with
 |skip=>intro K s H a w hk hf hst;exact wp_skip ⟨.normal,s,H,trivial,hk,hst⟩
 |region id ops draw=>
  intro K s H a w hk hf hst
  simp only[fits]at hf
  simp only[VC]at hk
  cases draw with
  |true=>
   refine wp_region_any hm ?_
   rcases hk with⟨hok,hk⟩|⟨hok,hk⟩
   ·exact CJ hΓ ops hf hok (Ends E n K) (fun s H=>K .normal s H) (fun s H a w hk hst=>⟨.normal,s,H,trivial,hk,hst⟩) s H a _ hk hst.drawn
   ·exact BJ hΓ ops hf hok (Ends E n K) (fun s H=>K .normal s H) (fun s H a w hk hst=>⟨.normal,s,H,trivial,hk,hst⟩) s H a _ hk hst.drawn
  |false=>
   refine wp_region ?_
   have:=A6 hΓ ops hf (Ends E n K) (fun s H=>K .normal s H) (fun s H a w hk hst=>⟨.normal,s,H,trivial,hk,hst⟩) ops.toList 0 (by simp) s H a w hk hst
   rw[List.range_eq_range']
   simpa using this
 |seq x y ihx ihy=>
  intro K s H a w hk hf hst
  simp only[fits,Bool.and_eq_true]at hf
  refine wp_seq (wp_mono (ihx _ s H a w hk hf.1 hst) fun e a w he=>?_)
  obtain⟨e',s',H',h1,h2,h3⟩:=he
  cases e' with
  |normal=>cases e<;>first|exact h1.elim|exact ihy K s' H' a w h2 hf.2 h3
  |exit i=>cases e<;>first|exact h1.elim|exact⟨.exit i,s',H',h1,h2,h3⟩
  |ret=>cases e<;>first|exact h1.elim|exact⟨.ret,s',H',h1,h2,h3⟩
 |cond c x y ihx ihy=>
  intro K s H a w hk hf hst
  simp only[fits,Bool.and_eq_true]at hf
  have hk:=zn s c _ hk
  obtain⟨F,β,hst'⟩:=id hst
  have hv:=hst'.ev c
  have qc:∀b,a.eval c= .bool b->St E n (aT (Ak c b s)) (look H) a w:=by
   intro b e
   cases c with
   |tmp t=>exact hst.qc b e
   |_=>exact hst
  split at hk
  ·rename_i e
   rw[e]at hv
   have he:a.eval c= .bool true:=by generalize a.eval c=x at hv;cases hv;rfl
   exact wp_cond_true he (ihx K s H a w hk hf.1 hst)
  ·rename_i e
   rw[e]at hv
   have he:a.eval c= .bool false:=by generalize a.eval c=x at hv;cases hv;rfl
   exact wp_cond_false he (ihy K s H a w hk hf.2 hst)
  ·rename_i b e
   rw[e]at hv
   have he:a.eval c= .bool b:=by generalize a.eval c=x at hv;cases hv with|p hv=>cases hv;rfl
   obtain⟨g1,g2⟩:=hk
   cases b with
   |true=>exact wp_cond_true he (ihx K _ H a w (g1 rfl) hf.1 (qc true he))
   |false=>exact wp_cond_false he (ihy K _ H a w (g2 rfl) hf.2 (qc false he))
  ·exact hk.elim
 |block id x ih=>
  intro K s H a w hk hf hst
  simp only[fits]at hf
  refine wp_block (wp_mono (ih _ s H a w hk hf hst) fun e a w he=>?_)
  obtain⟨e',s',H',h1,h2,h3⟩:=he
  cases e' with
  |normal=>cases e<;>first|exact h1.elim|exact⟨.normal,s',H',h1,h2,h3⟩
  |exit i=>
   cases e<;>first|exact h1.elim|skip
   rename_i j
   have:i=j:=h1
   subst this
   simp only[Exit.inBlock]
   simp only[]at h2
   cases hb:Nat.beq i id with
   |true=>rw[hb]at h2;rw[if_pos (Nat.eq_of_beq_eq_true hb)];exact⟨.normal,s',H',trivial,h2,h3⟩
   |false=>
    rw[hb]at h2
    rw[if_neg (by intro e;rw[e]at hb;simp at hb)]
    exact⟨.exit i,s',H',rfl,h2,h3⟩
  |ret=>cases e<;>first|exact h1.elim|exact⟨.ret,s',H',h1,h2,h3⟩
 |loop x ih=>
  intro K s H a w hk hf hst
  simp only[fits]at hf
  obtain⟨X,st,φ,μ,x0,hs0,s1,H1,th,h0,w0,hr⟩:=(show aM nin _ K s H from hk)
  have hst:=hst.Dw th
  refine yB (fun x a w=>φ x/\St E n (aT (st x).1) (look (st x).2) a w) μ x0 ⟨h0,hst.r4 hIn w0⟩ fun x a w hI=>?_
  refine wp_mono (ih _ _ _ a w (hr x hI.1) hf hI.2) fun e a w he=>?_
  obtain⟨e',s',H',h1,h2,h3⟩:=he
  cases e' with
  |normal=>
   cases e<;>first|exact h1.elim|skip
   obtain⟨x',hs',g1,g2,g3⟩:=h2
   exact⟨x',⟨g1,h3.r4 hIn g3⟩,g2⟩
  |exit i=>cases e<;>first|exact h1.elim|exact⟨.exit i,s',H',h1,h2,h3⟩
  |ret=>cases e<;>first|exact h1.elim|exact⟨.ret,s',H',h1,h2,h3⟩
 |exit id=>intro K s H a w hk hf hst;exact wp_exit ⟨.exit id,s,H,rfl,hk,hst⟩
 |ret=>intro K s H a w hk hf hst;exact wp_ret ⟨.ret,s,H,trivial,hk,hst⟩
 |_=>intros;rename_i h _ _;exact h.elim
end
end
section
inductive Conv (hs:List Nat) (H:Hp):AV->AV->Prop where
 |p (v:PV) (h:bZ v):Conv hs H (.p v) (.p v)
 |tf (b:Bool):Conv hs H (.tf b) (.p (.bool b))
 |emp (W:Nat):Conv hs H .emp (.p (.sl false W []))
 |ze {h:Hd} {W off len:Nat} {T:TypeId} {es es':List PV} (hB:look H h= .vec T W es) (hn:h.key∉hs) (hl:off+len<=es.length) (hp:∀e∈es,∀c∈e.cells,bZ c) (he:(es.drop off).take len=es'):Conv hs H (.vec h W off len) (.p (.sl false W es'))
 |vG {h:Hd} {es es':List (PV×PV)} (hB:look H h= .map es) (hn:h.key∉hs) (hq:es.Perm es') (hp:∀e∈es,bZ e.1/\bZ e.2):Conv hs H (.map h) (.p (.mp false es'))
 |uZ {h:Hd} {len:Nat} {T:TypeId} {cs:List AV} {ps:List PV} (hB:look H h= .rows T cs) (hn:h.key∉hs) (hlen:len=ps.length) (ho:∀d∈ps,d.one=true) (hl:cs.length=ps.length) (hc:∀(i:Nat) c d,cs[i]?=some c->ps[i]?=some d->Conv hs H c (.p d)):Conv hs H (.vec h 1 0 len) (.p (.sl false 1 ps))
 |vec {i h W off len:Nat} (hi:hs[i]?=some h):Conv hs H (.vec h W off len) (.vec i W off len)
 |Ba {i h k W off len:Nat} (hi:hs[i]?=some h):Conv hs H (.vec (.r h k) W off len) (.vec (.r i k) W off len)
 |aF {i h o:Nat} (hi:hs[i]?=some h):Conv hs H (.aF h o) (.aF i o)
 |map {i h:Nat} (hi:hs[i]?=some h):Conv hs H (.map h) (.map i)
 |agg {cs ds:List AV} (ho:∀d∈ds,d.one=true) (hl:cs.length=ds.length) (h:∀(i:Nat) c d,cs[i]?=some c->ds[i]?=some d->Conv hs H c d):Conv hs H (.agg cs) (.agg ds)
 |mJ {cs:List AV} {ps:List PV} (ho:∀d∈ps,d.one=true) (hl:cs.length=ps.length) (h:∀(i:Nat) c d,cs[i]?=some c->ps[i]?=some d->Conv hs H c (.p d)):Conv hs H (.agg cs) (.p (.agg ps))
 |bq {cs ds:List AV} (hl:cs.length=ds.length) (h:∀(i:Nat) c d,cs[i]?=some c->ds[i]?=some d->Conv hs H c d):Conv hs H (.bq cs) (.bq ds)
inductive g7 (hs:List Nat) (H:Hp):aC->aC->Prop where
 |vec {T:TypeId} {W:Nat} {es:List PV} (hp:∀e∈es,∀c∈e.cells,bZ c):g7 hs H (.vec T W es) (.vec T W es)
 |map {es:List (PV×PV)} (hp:∀e∈es,bZ e.1/\bZ e.2):g7 hs H (.map es) (.map es)
 |box {T:TypeId} {cs ds:List AV} (ho:∀d∈ds,d.one=true) (hl:cs.length=ds.length) (h:∀(i:Nat) c d,cs[i]?=some c->ds[i]?=some d->Conv hs H c d):g7 hs H (.box T cs) (.box T ds)
 |rows {T:TypeId} {cs ds:List AV} (ho:∀d∈ds,d.one=true) (hl:cs.length=ds.length) (h:∀(i:Nat) c d,cs[i]?=some c->ds[i]?=some d->Conv hs H c d):g7 hs H (.rows T cs) (.rows T ds)
 |bt {T:TypeId} {W:Nat} {rs:List (Option (List PV))} (hp:∀(k:Nat) es,rs[k]?=some (some es)->∀e∈es,∀c∈e.cells,bZ c):g7 hs H (.bt T W rs) (.bt T W rs)
 |dead:g7 hs H .dead .dead
inductive aq (nin:Hp) (av:AV) (H:Hp) (r:AV) (Hout:Hp):Prop
 |mk (hs:List Nat) (pre:hs.take nin.length=List.range nin.length) (nd:hs.Nodup) (hlen:hs.length=Hout.length) (hnin:nin.length<=hs.length) (hlv:∀h,(look nin h).live->(look H h).live) (hnf:∀h,look nin h≠ .free->look H h≠ .free)
   (hb:∀(i h:Nat) B,hs[i]?=some h->Hout[i]?=some B->g7 hs H (H.getD h .free) B) (hv:Conv hs H av r):aq nin av H r Hout
 |all (hs:List Nat) (pre:hs.take nin.length=List.range nin.length) (nd:hs.Nodup) (hlen:hs.length=Hout.length) (hnin:nin.length<=hs.length) (hall:∀h:Hd,(look H h).live->h.key∈hs) (hnf:∀h,look nin h≠ .free->look H h≠ .free)
   (hb:∀(i h:Nat) B,hs[i]?=some h->Hout[i]?=some B->g7 hs H (H.getD h .free) B) (hv:Conv hs H av r):aq nin av H r Hout
section
variable {P:Program} {Γ:kU} {E:Env} {n:Nat} {wr:FuncId->Bool}
def hZ (F:Nat->Prop) (β:Hd->Option Nat×Nat) (hs:List Nat) (H:Hp) (b:Nat):Prop:=F b\/∃h:Hd,h.key∉hs/\(look H h).live/\(β h).1=some b
def bL (hs:List Nat):Hd->Hd
 | .t i=>.t (hs.getD i 0)
 | .r i k=>.r (hs.getD i 0) k
theorem yX (hs:List Nat) (i:Hd):(bL hs i).key=hs.getD i.key 0:=by cases i<;>rfl
theorem PR.G9 {w:World} {B F F':Nat->Prop} {v:PV} {x:Value} (h:PR w (aQ B F) v x) (hp:bZ v) (hF:∀b,F b->F' b):PR w (aQ fR F') v x:=by
 refine(PR.gP hp h).mono (fun m b hb=>?_) fun _ _ _=>rfl
 obtain⟨rfl,hb⟩:=hb
 exact hF b hb
theorem Conv.ok {hs:List Nat} {s:Nat->AV} {H:Hp} {a:Act} {w:World} {F:Nat->Prop} {β:Hd->Option Nat×Nat} (hst:b7 E n s (look H) a w F β) {c d:AV} (h:Conv hs H c d):
  ∀{v:Value},VR w (aQ E.bM F) β c v->VR w (aQ fR (hZ F β hs H)) (fun i=>β (bL hs i)) d v:=by
 have gd:∀{i h:Nat},hs[i]?=some h->hs.getD i 0=h:=fun e=>by simp[List.getD,e]
 have gt:∀{i h:Nat},hs[i]?=some h->bL hs (.t i)= .t h:=fun e=>by simp only[bL,gd e]
 have gr:∀{i h k:Nat},hs[i]?=some h->bL hs (.r i k)= .r h k:=fun e=>by simp only[bL,gd e]
 have up:∀{p:PV} {x:Value},bZ p->PR w (aQ E.bM F) p x->PR w (aQ fR (hZ F β hs H)) p x:=fun hp h=>h.G9 hp fun b hb=>.inl hb
 induction h with
 |p v hp=>intro x hv;exact .p (up hp hv.xe)
 |tf b=>intro x hv;exact .p (up (.bool b) hv.CO)
 |emp W=>
  intro x hv
  cases hv with
  |jh=>exact .p (.nil _ _ _)
  |emp ad=>exact .p (.nil _ _ _)
 | @ze h W off len T es es' hB hn hl hp he=>
  intro x hv
  subst he
  have hlv:(look H h).live:=by rw[hB];trivial
  have hbk:=hst.df h
  rw[hB]at hbk
  obtain⟨q1,q2,q3⟩:=hbk
  have hll:((es.drop off).take len).length=len:=by simp;omega
  rcases hv.f7 with⟨b,o,cc,hb',hcl,hcm,ho,rfl⟩|⟨ad,hb',hz,hz',rfl⟩
  ·obtain⟨arr,g1,g2,g3,g4⟩:∃arr,(β h).1=some b/\w.heap[b]?=some (.cells arr T (0,0))/\arr.size=(β h).2*W/\∀(i:Nat) e (j:Nat) c v,es[i]?=some e->e.cells[j]?=some c->arr[i*W+j]?=some v->PR w (aQ E.bM F) c v:=by
    rcases q3 with q3|⟨b',arr,g1,g2,g3,g4⟩
    ·rw[q3.1]at hb';cases hb'
    ·rw[g1]at hb';cases hb';exact⟨arr,g1,g2,g3,g4⟩
   have get:∀(i:Nat) e,((es.drop off).take len)[i]?=some e->i<len/\es[off+i]?=some e:=fun i e he=>by
    have hi:i<len:=by have:=(List.getElem?_eq_some_iff.1 he).1;rw[hll]at this;exact this
    rw[List.getElem?_take_of_lt hi,List.getElem?_drop]at he
    exact⟨hi,he⟩
   have hin:∀i j,i<es.length->j<W->i*W+j<arr.size:=fun i j hi hj=>by
    rw[g3]
    have:(i+1)*W<=(β h).2*W:=Nat.mul_le_mul_right _ (by omega)
    rw[Nat.add_mul]at this;omega
   have:=PR.sl (w:=w) (FB:=aQ fR (hZ F β hs H)) false W ((es.drop off).take len) b o cc (fun i j=>arr.getD ((off+i)*W+j) Go.undef) (by rw[hll];omega) (fun _=>.inr ⟨h,hn,hlv,g1⟩)
    (fun e he=>(q1 e (List.mem_of_mem_drop (List.mem_of_mem_take he))).1) (fun e he=>(q1 e (List.mem_of_mem_drop (List.mem_of_mem_take he))).2) (fun i e j c e1 e2=>by
     obtain⟨hi,he⟩:=get i e e1
     have hj:j<W:=by rw[<-(q1 e (List.mem_of_getElem? he)).1];exact(List.getElem?_eq_some_iff.1 e2).1
     have:=hin (off+i) j (by omega) hj
     rw[ho (by omega),show off*W+i*W+j=(off+i)*W+j by rw[Nat.add_mul]]
     simp only[World.cell?,g2];simp[Array.getD,this]) (fun i e j c e1 e2=>by
     obtain⟨hi,he⟩:=get i e e1
     have hj:j<W:=by rw[<-(q1 e (List.mem_of_getElem? he)).1];exact(List.getElem?_eq_some_iff.1 e2).1
     have:=hin (off+i) j (by omega) hj
     exact up (hp e (List.mem_of_getElem? he) c (List.mem_of_getElem? e2)) (g4 (off+i) e j c _ he e2 (by simp[Array.getD,this])))
   rw[hll]at this
   exact .p this
  ·subst hz;subst hz'
   simp only[List.take_zero]
   exact .p (.nil _ _ _)
 | @vG h es es' hB hn hq hp=>
  intro x hv
  have hlv:(look H h).live:=by rw[hB];trivial
  have hbk:=hst.df h
  rw[hB]at hbk
  obtain⟨b,en,clock,h1,h2,h3,h4,h5,h6⟩:=hbk
  cases hv with|map hb'=>
  rw[h1]at hb';cases hb'
  exact .p (.mp false es' es hq b clock en (.inr ⟨h,hn,hlv,h1⟩) h2 h3 (fun i x e e1 e2=>up (hp x (List.mem_of_getElem? e1)).1 (h4 i x e e1 e2).1) (fun i x e e1 e2=>up (hp x (List.mem_of_getElem? e1)).2 (h4 i x e e1 e2).2) h5 h6)
 | @uZ h len T cs ps hB hn hlen hone hl _ ih=>
  intro x hv
  subst hlen
  have hlv:(look H h).live:=by rw[hB];trivial
  have hbk:=hst.df h
  rw[hB]at hbk
  obtain⟨q1,q2,q3⟩:=hbk
  rcases hv.f7 with⟨b,o,cc,hb',hcl,hcm,ho,rfl⟩|⟨ad,hb',_,hz,rfl⟩
  ·obtain⟨arr,g1,g2,g3,g4⟩:∃arr,(β h).1=some b/\w.heap[b]?=some (.cells arr T (0,0))/\arr.size=(β h).2/\∀(i:Nat) c v,cs[i]?=some c->arr[i]?=some v->VR w (aQ E.bM F) β c v:=by
    rcases q3 with q3|⟨b',arr,g1,g2,g3,g4⟩
    ·rw[q3.1]at hb';cases hb'
    ·rw[g1]at hb';cases hb';exact⟨arr,g1,g2,g3,g4⟩
   have cl:∀e∈ps,e.cells=[e]:=fun e he=>PV.dG (hone e he)
   have get:∀(i:Nat) (e:PV),ps[i]?=some e->i<arr.size/\i<cs.length:=fun i e he=>by
    have:=(List.getElem?_eq_some_iff.1 he).1
    omega
   refine .p (PR.sl false 1 ps b o _ (fun i j=>arr.getD i Go.undef) (by omega) (fun _=>.inr ⟨h,hn,hlv,g1⟩) (fun e he=>by rw[cl e he];rfl) (fun e he c hc=>by rw[cl e he]at hc;cases List.mem_singleton.1 hc;exact hone _ he) (fun i e j c e1 e2=>?_) (fun i e j c e1 e2=>?_))
   ·obtain⟨hi,_⟩:=get i e e1
    rw[cl e (List.mem_of_getElem? e1)]at e2
    have hj:j=0:=by have:=(List.getElem?_eq_some_iff.1 e2).1;simpa using this
    subst hj
    have hi2:=(List.getElem?_eq_some_iff.1 e1).1
    rw[ho (by omega)]
    simp only[World.cell?,g2];simp[Array.getD,hi]
   ·obtain⟨hi,hi'⟩:=get i e e1
    rw[cl e (List.mem_of_getElem? e1)]at e2
    have hj:j=0:=by have:=(List.getElem?_eq_some_iff.1 e2).1;simpa using this
    subst hj
    cases e2
    exact(ih i cs[i] e (List.getElem?_eq_getElem hi') e1 (g4 i _ _ (List.getElem?_eq_getElem hi') (by simp[Array.getD,hi]))).xe
  ·have hcs:ps=[]:=List.length_eq_zero_iff.1 hz
   subst hcs
   exact .p (.nil _ _ _)
 | @vec i h W off len hi=>
  intro x hv
  rcases hv.f7 with⟨b,o,cc,hb',hcl,hcm,ho,rfl⟩|⟨ad,hb',hz,hz',rfl⟩
  ·have:=VR.vec (w:=w) (FB:=aQ fR (hZ F β hs H)) (β:=fun i=>β (bL hs i)) (h:=i) (W:=W) (off:=off) (len:=len) (b:=b) (o:=o) (c:=cc) (by show(β (bL hs (.t i))).1=_;rw[gt hi];exact hb') hcl (by show _<=(β (bL hs (.t i))).2;rw[gt hi];exact hcm) ho
   exact this
  ·subst hz;subst hz'
   exact .ij ad (by show(β (bL hs (.t i))).1=_;rw[gt hi];exact hb')
 | @Ba i h k W off len hi=>
  intro x hv
  rcases hv.f7 with⟨b,o,cc,hb',hcl,hcm,ho,rfl⟩|⟨ad,hb',hz,hz',rfl⟩
  ·have:=VR.vec (w:=w) (FB:=aQ fR (hZ F β hs H)) (β:=fun i=>β (bL hs i)) (h:=.r i k) (W:=W) (off:=off) (len:=len) (b:=b) (o:=o) (c:=cc) (by show(β (bL hs (.r i k))).1=_;rw[gr hi];exact hb') hcl (by show _<=(β (bL hs (.r i k))).2;rw[gr hi];exact hcm) ho
   exact this
  ·subst hz;subst hz'
   exact .ij ad (by show(β (bL hs (.r i k))).1=_;rw[gr hi];exact hb')
 |aF hi=>intro x hv;cases hv with|aF hb=>exact .aF (by show(β (bL hs (.t _))).1=_;rw[gt hi];exact hb)
 |map hi=>intro x hv;cases hv with|map hb=>exact .map (by show(β (bL hs (.t _))).1=_;rw[gt hi];exact hb)
 | @agg cs ds ho hl _ ih=>
  intro x hv
  cases hv with|agg _ vs hone hl' hr=>
  refine .agg ds vs ho (by rw[hl',hl]) fun i d v e1 e2=>?_
  have hi:i<cs.length:=by rw[hl];exact(List.getElem?_eq_some_iff.1 e1).1
  exact ih i cs[i] d (List.getElem?_eq_getElem hi) e1 (hr i _ v (List.getElem?_eq_getElem hi) e2)
 | @mJ cs ps ho hl _ ih=>
  intro x hv
  cases hv with|agg _ vs hone hl' hr=>
  refine .p (.agg ps vs ho (by rw[hl',hl]) fun i d v e1 e2=>?_)
  have hi:i<cs.length:=by rw[hl];exact(List.getElem?_eq_some_iff.1 e1).1
  exact(ih i cs[i] d (List.getElem?_eq_getElem hi) e1 (hr i _ v (List.getElem?_eq_getElem hi) e2)).xe
 | @bq cs ds hl _ ih=>
  intro x hv
  cases hv with|bq _ vs hl' hr=>
  refine .bq ds vs (by rw[hl',hl]) fun i d v e1 e2=>?_
  have hi:i<cs.length:=by rw[hl];exact(List.getElem?_eq_some_iff.1 e1).1
  exact ih i cs[i] d (List.getElem?_eq_getElem hi) e1 (hr i _ v (List.getElem?_eq_getElem hi) e2)
theorem Conv.aU {hs:List Nat} {H:Hp} {c d:AV} (h:Conv hs H c d):∀k,d.aU k->k.key<hs.length/\c.aU (bL hs k):=by
 have gd:∀{i h:Nat},hs[i]?=some h->hs.getD i 0=h:=fun e=>by simp[List.getD,e]
 induction h with
 |vec hi=>intro k hk;obtain rfl:_=k:=hk;exact⟨(List.getElem?_eq_some_iff.1 hi).1,by simp only[bL,gd hi];rfl⟩
 |Ba hi=>intro k hk;obtain rfl:_=k:=hk;exact⟨(List.getElem?_eq_some_iff.1 hi).1,by simp only[bL,gd hi];rfl⟩
 |aF hi=>intro k hk;obtain rfl:_=k:=hk;exact⟨(List.getElem?_eq_some_iff.1 hi).1,by simp only[bL,gd hi];rfl⟩
 |map hi=>intro k hk;obtain rfl:_=k:=hk;exact⟨(List.getElem?_eq_some_iff.1 hi).1,by simp only[bL,gd hi];rfl⟩
 | @agg cs ds _ hl _ ih=>
  intro k hk
  simp only[AV.aU,AV.cp]at hk⊢
  obtain⟨d,hd,hk⟩:=hk
  obtain⟨i,hi⟩:=List.getElem?_of_mem hd
  have hi':i<cs.length:=by rw[hl];exact(List.getElem?_eq_some_iff.1 hi).1
  have:=ih i cs[i] d (List.getElem?_eq_getElem hi') hi k hk
  exact⟨this.1,_,List.getElem_mem hi',this.2⟩
 | @bq cs ds hl _ ih=>
  intro k hk
  simp only[AV.aU,AV.cp]at hk⊢
  obtain⟨d,hd,hk⟩:=hk
  obtain⟨i,hi⟩:=List.getElem?_of_mem hd
  have hi':i<cs.length:=by rw[hl];exact(List.getElem?_eq_some_iff.1 hi).1
  have:=ih i cs[i] d (List.getElem?_eq_getElem hi') hi k hk
  exact⟨this.1,_,List.getElem_mem hi',this.2⟩
 |_=>intro k hk;simp only[AV.aU]at hk
theorem g7.ok {hs:List Nat} {s:Nat->AV} {H:Hp} {a:Act} {w:World} {F:Nat->Prop} {β:Hd->Option Nat×Nat} (hst:b7 E n s (look H) a w F β) {i h:Nat} {B:aC} (hi:hs[i]?=some h) (hc:g7 hs H (H.getD h .free) B):
  (nm w (aQ fR (hZ F β hs H)) (fun i=>β (bL hs i)) i B.top/\(∀k,B.top.aU k->k.key<hs.length/\(look H (.t h)).aU (bL hs k))/\(B.top.live->(look H (.t h)).live)/\B≠ .free/\look H (.t h)≠ .free)/\
   ∀k,nm w (aQ fR (hZ F β hs H)) (fun i=>β (bL hs i)) (.r i k) (B.row k)/\B.row k=look H (.r h k):=by
 have gd:hs.getD i 0=h:=by simp[List.getD,hi]
 have gt:bL hs (.t i)= .t h:=by simp only[bL,gd]
 have gr:∀k,bL hs (.r i k)= .r h k:=fun k=>by simp only[bL,gd]
 have up:∀{p:PV} {x:Value},bZ p->PR w (aQ E.bM F) p x->PR w (aQ fR (hZ F β hs H)) p x:=fun hp h=>h.G9 hp fun b hb=>.inl hb
 have hbt:=hst.df (.t h)
 have hbr:=fun k=>hst.df (.r h k)
 simp only[look]at hbt hbr⊢
 generalize hL:H.getD h .free=L at hc hbt hbr
 cases hc with
 | @vec T W es hp=>
  refine⟨⟨?_,fun k hk=>hk.elim,id,(fun e=>by cases e),(fun e=>by cases e)⟩,fun k=>⟨trivial,rfl⟩⟩
  obtain⟨q1,q2,q3⟩:=hbt
  refine⟨q1,by show _<=(β (bL hs (.t i))).2;rw[gt];exact q2,?_⟩
  show((β (bL hs (.t i))).1=none/\(β (bL hs (.t i))).2=0)\/∃b arr,(β (bL hs (.t i))).1=some b/\w.heap[b]?=some (.cells arr T (0,0))/\arr.size=(β (bL hs (.t i))).2*W/\_
  rw[gt]
  rcases q3 with q3|⟨b,arr,g1,g2,g3,g4⟩
  ·exact .inl q3
  ·exact .inr ⟨b,arr,g1,g2,g3,fun q e j c v e1 e2 e3=>up (hp e (List.mem_of_getElem? e1) c (List.mem_of_getElem? e2)) (g4 q e j c v e1 e2 e3)⟩
 | @map es hp=>
  refine⟨⟨?_,fun k hk=>hk.elim,id,(fun e=>by cases e),(fun e=>by cases e)⟩,fun k=>⟨trivial,rfl⟩⟩
  obtain⟨b,en,clock,h1,h2,h3,h4,h5,h6⟩:=hbt
  exact⟨b,en,clock,by show(β (bL hs (.t i))).1=_;rw[gt];exact h1,h2,h3,fun q x e e1 e2=>⟨up (hp x (List.mem_of_getElem? e1)).1 (h4 q x e e1 e2).1,up (hp x (List.mem_of_getElem? e1)).2 (h4 q x e e1 e2).2⟩,h5,h6⟩
 | @box T cs ds ho hl hc=>
  refine⟨⟨?_,fun k hk=>?_,id,(fun e=>by cases e),(fun e=>by cases e)⟩,fun k=>⟨trivial,rfl⟩⟩
  ·obtain⟨h0,b,arr,h1,h2,h3,h4⟩:=hbt
   refine⟨ho,b,arr,by show(β (bL hs (.t i))).1=_;rw[gt];exact h1,h2,by rw[h3,hl],fun q d v e1 e2=>?_⟩
   have hq:q<cs.length:=by rw[hl];exact(List.getElem?_eq_some_iff.1 e1).1
   exact(hc q cs[q] d (List.getElem?_eq_getElem hq) e1).ok hst (h4 q _ v (List.getElem?_eq_getElem hq) e2)
  ·have hk:AV.bo ds k:=hk
   have:=(Conv.agg ho hl hc).aU k (by simp only[AV.aU];exact hk)
   refine⟨this.1,?_⟩
   have h2:=this.2
   simp only[AV.aU]at h2
   exact h2
 | @rows T cs ds ho hl hc=>
  refine⟨⟨?_,fun k hk=>?_,id,(fun e=>by cases e),(fun e=>by cases e)⟩,fun k=>⟨trivial,rfl⟩⟩
  ·obtain⟨h0,h1,h2⟩:=hbt
   refine⟨ho,by show _<=(β (bL hs (.t i))).2;rw[gt,<-hl];exact h1,?_⟩
   show((β (bL hs (.t i))).1=none/\(β (bL hs (.t i))).2=0)\/∃b arr,(β (bL hs (.t i))).1=some b/\w.heap[b]?=some (.cells arr T (0,0))/\arr.size=(β (bL hs (.t i))).2/\_
   rw[gt]
   rcases h2 with h2|⟨b,arr,g1,g2,g3,g4⟩
   ·exact .inl h2
   ·refine .inr ⟨b,arr,g1,g2,g3,fun q d v e1 e2=>?_⟩
    have hq:q<cs.length:=by rw[hl];exact(List.getElem?_eq_some_iff.1 e1).1
    exact(hc q cs[q] d (List.getElem?_eq_getElem hq) e1).ok hst (g4 q _ v (List.getElem?_eq_getElem hq) e2)
  ·have hk:AV.bo ds k:=hk
   have:=(Conv.agg ho hl hc).aU k (by simp only[AV.aU];exact hk)
   refine⟨this.1,?_⟩
   have h2:=this.2
   simp only[AV.aU]at h2
   exact h2
 |dead=>exact⟨⟨trivial,fun k hk=>hk.elim,id,(fun e=>by cases e),(fun e=>by cases e)⟩,fun k=>⟨trivial,rfl⟩⟩
 | @bt T W rs hp=>
  refine⟨⟨trivial,fun k hk=>hk.elim,id,(fun e=>by cases e),(fun e=>by cases e)⟩,fun k=>⟨?_,rfl⟩⟩
  have hb:=hbr k
  simp only[aC.row]at hb⊢
  cases hr:rs[k]? with
  |none=>trivial
  |some o=>
   cases o with
   |none=>trivial
   |some es=>
    rw[hr]at hb
    obtain⟨q1,q2,q3⟩:=hb
    refine⟨q1,by show _<=(β (bL hs (.r i k))).2;rw[gr];exact q2,?_⟩
    show((β (bL hs (.r i k))).1=none/\(β (bL hs (.r i k))).2=0)\/∃b arr,(β (bL hs (.r i k))).1=some b/\w.heap[b]?=some (.cells arr T (0,0))/\arr.size=(β (bL hs (.r i k))).2*W/\_
    rw[gr]
    rcases q3 with q3|⟨b,arr,g1,g2,g3,g4⟩
    ·exact .inl q3
    ·exact .inr ⟨b,arr,g1,g2,g3,fun q e j c v e1 e2 e3=>up (hp k es hr e (List.mem_of_getElem? e1) c (List.mem_of_getElem? e2)) (g4 q e j c v e1 e2 e3)⟩
def kf (Γ:kU) (P:Program) (wr:FuncId->Bool):List ResultVar->Sl->Hp->(List AV->Prop)->Prop
 |[],_,_,K=>K []
 | .tmp t::rs,s,H,K=>jv s t fun v=>kf Γ P wr rs s H fun l=>K (v::l)
 | .cell a t::rs,s,H,K=>aY Γ P wr (WK s) (ko H) (look H) 0 (.load t (.tmp a)) fun v _=>kf Γ P wr rs s H fun l=>K (v::l)
def oneOf:List AV->AV
 |[v]=>v
 |l=>.bq l
def G3 (Γ:kU) (P:Program) (wr:FuncId->Bool) (rs:List ResultVar) (nin:Hp) (r:AV) (Hout:Hp):Ex->Sl->Hp->Prop
 | .exit _,_,_=>False
 |_,s,H=>kf Γ P wr rs s H fun l=>aq nin (oneOf l) H r Hout
theorem DL (hΓ:fk P Γ) {s:Sl} {H:Hp} {a:Act} {w:World} {F:Nat->Prop} {β:Hd->Option Nat×Nat} (hst:b7 E n (aT s) (look H) a w F β):∀(rs:List ResultVar) (K:List AV->Prop),kf Γ P wr rs s H K->
  ∃l vs,K l/\vs.length=l.length/\(rs.mapM (m:=Sem) fun| .tmp t=>pure (a.tmps.getD t Go.undef)| .cell x t=>do loadVar t (<-asAddr (a.tmps.getD x Go.undef))).run P w= .ok vs w/\(∀(i:Nat) c v,l[i]?=some c->vs[i]?=some v->VR w (aQ E.bM F) β c v)/\∀c∈l,∀k,c.aU k->look H k≠ .free:=by
 intro rs
 induction rs with
 |nil=>intro K hk;exact⟨[],[],hk,rfl,by simp,by simp,by simp⟩
 |cons x rs ih=>
  intro K hk
  have cons:∀{c:AV} {v:Value} {l:List AV} {vs:List Value},VR w (aQ E.bM F) β c v->(∀(i:Nat) c v,l[i]?=some c->vs[i]?=some v->VR w (aQ E.bM F) β c v)->∀(i:Nat) c' v',(c::l)[i]?=some c'->(v::vs)[i]?=some v'->VR w (aQ E.bM F) β c' v':=by
   intro c v l vs h1 h2 i c' v' e1 e2
   cases i with
   |zero=>simp at e1 e2;subst e1;subst e2;exact h1
   |succ i=>exact h2 i c' v' (by simpa using e1) (by simpa using e2)
  cases x with
  |tmp t=>
   simp only[kf]at hk
   obtain⟨l,vs,hk,h1,h2,h3,h4⟩:=ih _ (lr hk)
   refine⟨_,_::vs,hk,by simp[h1],?_,cons (hst.fU t) h3,fun c hc k hk=>by
    rcases List.mem_cons.1 hc with rfl|hc
    ·exact hst.ms t k hk
    ·exact h4 c hc k hk⟩
   rw[List.mapM_cons]
   refine(Sem.run_seq _ _ _ _ _ _ (show(pure (a.tmps.getD t Go.undef):Sem Value).run P w= .ok _ w from rfl)).trans ?_
   exact(Sem.run_seq _ _ _ _ _ _ h2).trans rfl
  |cell x t=>
   simp only[kf]at hk
   have hout:=xt (wr:=wr) (base:=0) hΓ (fun x K=>zn s x K) (fun h K=>lG H h K) hst (t:=t) (x:=.tmp x) hk
   have hev:a.eval (.tmp x)=a.tmps.getD x Go.undef:=rfl
   rw[hev]at hout
   generalize hr:(Instr.loadAt t (a.tmps.getD x Go.undef)).run P w=r at hout
   cases hout with| @mk v y hk hv hm=>
   obtain⟨l,vs,hk,h1,h2,h3,h4⟩:=ih _ hk
   refine⟨_,y::vs,hk,by simp[h1],?_,cons hv h3,fun c hc k hck=>by
    rcases List.mem_cons.1 hc with e|hc
    ·subst e;exact hm k hck
    ·exact h4 c hc k hck⟩
   have hr':(do loadVar t (<-asAddr (a.tmps.getD x Go.undef)):Sem Value).run P w= .ok y w:=by
    unfold Instr.loadAt at hr
    cases hx:a.tmps.getD x Go.undef with
    |pointer ad=>
     cases ad with
     |none=>rw[hx]at hr;simp[Instr.sureAddr]at hr
     |some ad=>rw[hx]at hr;simpa[Instr.sureAddr,asAddr]using hr
    |_=>rw[hx]at hr;simp[Instr.sureAddr]at hr
   rw[List.mapM_cons]
   refine(Sem.run_seq _ _ _ _ _ _ hr').trans ?_
   exact(Sem.run_seq _ _ _ _ _ _ h2).trans rfl
theorem Az (hΓ:fk P Γ) {fn:Func} {s:Sl} {H:Hp} {a:Act} {w:World} {F:Nat->Prop} {β:Hd->Option Nat×Nat} (hst:b7 E n (aT s) (look H) a w F β) (K:List AV->Prop) (hk:kf Γ P wr fn.results.toList s H K):
  ∃l v,K l/\(results fn a.tmps).run P w= .ok v w/\VR w (aQ E.bM F) β (oneOf l) v/\∀k,(oneOf l).aU k->look H k≠ .free:=by
 obtain⟨l,vs,hk,h1,h2,h3,h4⟩:=DL hΓ hst fn.results.toList K hk
 have aU:∀l v,(oneOf l).aU v->∃c∈l,c.aU v:=by
  intro l v hv
  match l,hv with
  |[c],hv=>exact⟨c,by simp,hv⟩
  |[],hv=>simp only[oneOf,AV.aU,AV.bo]at hv
  |c::d::l,hv=>simp only[oneOf,AV.aU]at hv;exact AV.cp.1 hv
 refine⟨l,if h:vs.length=1 then vs[0]else .tuple vs.toArray,hk,?_,?_,fun k hk=>by obtain⟨c,hc,hm⟩:=aU l k hk;exact h4 c hc k hm⟩
 ·unfold results
  rw[Array.mapM_eq_mapM_toList]
  have:(List.toArray<$>fn.results.toList.mapM (m:=Sem) (fun| .tmp t=>pure (a.tmps.getD t Go.undef)| .cell x t=>do loadVar t (<-asAddr (a.tmps.getD x Go.undef)))).run P w= .ok vs.toArray w:=by
   rw[map_eq_pure_bind,Sem.run_seq _ _ _ _ _ _ h2];rfl
  refine(Sem.run_seq _ _ _ _ _ _ this).trans ?_
  simp
 ·split
  ·rename_i h
   obtain⟨c,rfl⟩:=List.length_eq_one_iff.1 (by rw[<-h1];exact h)
   exact h3 0 c _ rfl (by simp)
  ·rename_i h
   have:oneOf l= .bq l:=by
    match l,h1 with
    |[],_=>rfl
    |[c],h1=>exact(h h1).elim
    |_::_::_,_=>rfl
   rw[this]
   exact .bq l _ (by simpa using h1) fun i c v e1 e2=>h3 i c v e1 (by simpa using e2)
def mV:Nat->List AV->Sl
 |_,[]=>[]
 |i,c::cs=>(i,c)::mV (i+1) cs
theorem j5:∀(cs:List AV) (i t:Nat),aT (mV i cs) t=if i<=t then cs.getD (t-i) .any else .any:=by
 intro cs
 induction cs with
 |nil=>intro i t;simp[mV,aT]
 |cons c cs ih=>
  intro i t
  simp only[mV,aT,ih]
  by_cases e:i=t
  ·subst e;simp
  ·have hb:Nat.beq i t=false:=by
    cases h:Nat.beq i t with
    |false=>rfl
    |true=>exact(e (Nat.eq_of_beq_eq_true h)).elim
   rw[hb]
   simp only[cond_false]
   by_cases h:i<=t
   ·rw[if_pos h,if_pos (by omega)]
    rw[show t-i=(t-(i+1))+1 by omega]
    simp
   ·rw[if_neg h,if_neg (by omega)]
theorem aa (hΓ:fk P Γ) (hmix:P.follows .mixedOrders=true) {f:FuncId} {fn:Func} {c:Code} {args:List AV} {Hin:Hp} {r:AV} {Hout:Hp} (hf:P.funcs[f]?=some fn) (hname:(fn.name== "runtime.NumGoroutine")=false) (hb:fn.body=some c)
  (hfit:fits fn.ntmps c=true) (hn:args.length<=fn.ntmps) (hlive:∀B∈Hin,B≠ .free)
  (h:VC Γ P wr (Hin.map aC.F7) c (G3 Γ P wr fn.results.toList Hin r Hout) (mV 0 args) Hin):cw P f args Hin r Hout:=by
 refine⟨⟨fn,hf,hname,by rw[hb];rfl⟩,fun w F bM β vs hargs=>?_⟩
 let E:Env:={w0:=w,mz:=fun b=>b<w.heap.size/\∀h,(look Hin h).live->(β h).1≠some b,bM:=bM,F0:=F,In:=fun h=>look Hin h≠ .free,β0:=β}
 have hIn:∀h,E.In h->GA (Hin.map aC.F7) h:=fun h hh=>by
  cases h with
  |t i=>have:=cD hh;simpa[GA,Hd.key]using this
  |r i k=>
   have hi:i<Hin.length:=cD hh
   have hk:=gT hh
   have e:Hin.getD i .free=Hin[i]:=by simp[List.getD,List.getElem?_eq_getElem hi]
   unfold aN at hk
   rw[e]at hk
   refine⟨_,?_,hk⟩
   rw[List.getElem?_map,List.getElem?_eq_getElem hi]
   revert hk
   cases Hin[i]<;>intro hk<;>first|(exact absurd hk (Nat.not_lt_zero _))|rfl
 have hst:b7 E fn.ntmps (aT (mV 0 args)) (look Hin) {tmps:=vs.toArray++Array.replicate (fn.ntmps-vs.toArray.size) Go.undef,defers:=[]} w F β:={
  os:=rfl,tape:=rfl,output:=rfl,size:=Nat.le_refl _
  ml:=fun _ _=>rfl
  f5:=fun b hb=>hb.1
  uO:=fun b hb=>⟨hargs.blt b hb,fun h h1 h2=>(hargs.own h b h1 h2).2.1 hb⟩
  kd:=hargs.kd
  fold:=fun b hb _=>hb
  own:=fun h b h1 h2=>⟨(hargs.own h b h1 h2).1,fun hk=>hk.2 h h1 h2,(hargs.own h b h1 h2).2.2⟩
  kc:=hargs.kc
  len:=by simp[hargs.len];omega
  fU:=fun t=>by
   rw[j5]
   simp only[Nat.zero_le,if_true,Nat.sub_zero]
   by_cases ht:t<args.length
   ·have e1:args[t]?=some args[t]:=List.getElem?_eq_getElem ht
    have ht':t<vs.length:=by rw[hargs.len];exact ht
    have e2:vs[t]?=some vs[t]:=List.getElem?_eq_getElem ht'
    have:(vs.toArray++Array.replicate (fn.ntmps-vs.toArray.size) Go.undef).getD t Go.undef=vs[t]:=by
     simp[Array.getD,ht',show t<vs.length+(fn.ntmps-vs.length) by omega,Array.getElem_append]
    rw[this]
    have:args.getD t .any=args[t]:=by simp[List.getD,e1]
    rw[this]
    exact hargs.rel t _ _ e1 e2
   ·rw[dI _ _ (by omega)];exact .any _
  df:=hargs.df
  ms:=fun t k hk=>by
   rw[j5]at hk
   simp only[Nat.zero_le,if_true,Nat.sub_zero]at hk
   by_cases ht:t<args.length
   ·have:args.getD t .any=args[t]:=by simp[List.getD,List.getElem?_eq_getElem ht]
    rw[this]at hk
    exact hargs.ma _ (List.getElem_mem ht) k hk
   ·rw[dI _ _ (by omega)]at hk;simp only[AV.aU]at hk
  mb:=hargs.mb
  defers:=rfl
  bin:=fun i hi=>⟨rfl,hi⟩
  Ei:=fun b hb=>hb}
 have hwp:=tR hΓ hmix (E:=E) hIn c _ _ _ _ w h hfit ⟨F,β,hst⟩
 refine calls_of_wp hf hb (wp_mono hwp fun e a' w' he=>?_)
 obtain⟨e',s',H',h1,h2,F1,β1,hst'⟩:=he
 have fin:kf Γ P wr fn.results.toList s' H' (fun l=>aq Hin (oneOf l) H' r Hout)->a'.defers=[]/\∃v,(results fn a'.tmps).run P w'= .ok v w'/\∃v' F' β',Ending.returned v= .returned v'/\Eb w F β Hin r Hout v' w' F' β':=by
  intro h2
  obtain⟨l,v,h3,hr,hv,hmen⟩:=Az hΓ hst' _ h2
  obtain⟨hs,pre,nd,hlen,hnin,hlv,hnf,hB,hconv⟩:∃hs:List Nat,∃(pre:hs.take Hin.length=List.range Hin.length) (nd:hs.Nodup) (hlen:hs.length=Hout.length) (hnin:Hin.length<=hs.length) (hlv:(∀h,(look Hin h).live->(look H' h).live)\/(∀h:Hd,(look H' h).live->h.key∈hs)) (hnf:∀h,look Hin h≠ .free->look H' h≠ .free)
   (hb:∀(i h:Nat) B,hs[i]?=some h->Hout[i]?=some B->g7 hs H' (H'.getD h .free) B),Conv hs H' (oneOf l) r:=by
   cases h3 with
   |mk hs pre nd hlen hnin hlv hnf hb hv=>exact⟨hs,pre,nd,hlen,hnin,.inl hlv,hnf,hb,hv⟩
   |all hs pre nd hlen hnin hall hnf hb hv=>exact⟨hs,pre,nd,hlen,hnin,.inr hall,hnf,hb,hv⟩
  have hpre:∀i,i<Hin.length->hs[i]?=some i:=fun i hi=>by
   have hp:(hs.take Hin.length)[i]?=some i:=by rw[pre,List.getElem?_range hi]
   rwa[List.getElem?_take_of_lt hi]at hp
  have hgd:∀i,i<hs.length->hs[i]?=some (hs.getD i 0):=fun i hi=>by simp[List.getD,List.getElem?_eq_getElem hi]
  have hback:∀h:Hd,h.key<Hin.length->bL hs h=h:=fun h hh=>by
   have e:hs.getD h.key 0=h.key:=by simp[List.getD,hpre h.key hh]
   cases h with
   |t i=>simp only[Hd.key]at e;simp only[bL,e]
   |r i k=>simp only[Hd.key]at e;simp only[bL,e]
  have notkeep:∀b,b<w.heap.size->¬E.mz b->∃h,(look Hin h).live/\(β h).1=some b:=fun b h1 h2=>by
   apply Classical.byContradiction
   intro hc
   exact h2 ⟨h1,fun h h3 h4=>hc ⟨h,h3,h4⟩⟩
  have hout:∀i:Hd,look Hout i≠ .free->i.key<hs.length:=fun i hl=>by rw[hlen];exact cD hl
  have hblk:∀i:Hd,i.key<hs.length->nm w' (aQ fR (hZ F1 β1 hs H')) (fun i=>β1 (bL hs i)) i (look Hout i)/\(∀k,(look Hout i).aU k->k.key<hs.length/\(look H' (bL hs i)).aU (bL hs k))/\((look Hout i).live->(look H' (bL hs i)).live)/\(look H' (bL hs i)≠ .free->look Hout i≠ .free):=fun i hi=>by
   have hi':i.key<Hout.length:=by omega
   have e:Hout.getD i.key .free=Hout[i.key]:=by simp[List.getD,List.getElem?_eq_getElem hi']
   have:=(hB i.key _ _ (hgd i.key hi) (List.getElem?_eq_getElem hi')).ok hst' (hgd i.key hi)
   obtain⟨⟨t1,t2,t3,t4,t5⟩,hr⟩:=this
   cases i with
   |t i=>
    simp only[Hd.key]at e t1 t2 t3 t4 t5
    have el:look Hout (.t i)=(Hout[i]'hi').top:=by simp only[look,e];rfl
    rw[el]
    exact⟨t1,t2,t3,fun _=>aC.oe t4⟩
   |r i k=>
    simp only[Hd.key]at e hr
    have el:look Hout (.r i k)=(Hout[i]'hi').row k:=by simp only[look,e];rfl
    rw[el]
    obtain⟨r1,r2⟩:=hr k
    have r2':(Hout[i]'hi').row k=look H' (.r (hs.getD i 0) k):=r2
    exact⟨r1,fun j hj=>(aC.j9 _ _ _ hj).elim,fun hl=>(show(look H' (.r (hs.getD i 0) k)).live from r2'▸hl),fun hne=>r2'▸hne⟩
  refine⟨hst'.defers,v,hr,v,hZ F1 β1 hs H',fun i=>β1 (bL hs i),rfl,?_⟩
  have nfout:∀k:Hd,k.key<hs.length->look H' (bL hs k)≠ .free->look Hout k≠ .free:=fun k hk=>(hblk k hk).2.2.2
  exact{
   os:=hst'.os,tape:=hst'.tape,output:=hst'.output,size:=hst'.size
   same:=fun b h1 h2=>hst'.ml b ⟨h1,h2⟩
   kd:=fun b hb=>by
    rcases hb with hb|⟨h,_,h2,h3⟩
    ·exact hst'.kd b hb
    ·exact(hst'.own h b h2 h3).2.2
   fold:=fun b hb hlt=>by
    rcases hb with hb|⟨h,h1,h2,h3⟩
    ·exact hst'.fold b hb hlt
    ·exfalso
     obtain⟨h0,g1,g2⟩:=notkeep b hlt (hst'.own h b h2 h3).2.1
     have hi:=cD (aC.bQ g1)
     have hb0:β1 h0=β h0:=(hst'.bin h0 (aC.bQ g1)).1
     rcases hlv with hlv|hall
     ·have:h=h0:=hst'.kc h h0 b h2 (hlv h0 g1) h3 (by rw[hb0];exact g2)
      subst this
      exact h1 (List.mem_of_getElem? (hpre h.key hi))
     ·exact h1 (hall h h2)
   A8:=fun b hb=>.inl (hst'.Ei b hb)
   Eh:=fun h hl=>by
    show β1 (bL hs h)=β h
    rw[hback h (cD hl)];exact(hst'.bin h hl).1
   rel:=hconv.ok hst' hv
   df:=fun i=>by
    rcases Nat.lt_or_ge i.key hs.length with hi|hi
    ·exact(hblk i hi).1
    ·rw[cC (by omega)];trivial
   own:=fun i b h1 h2=>by
    have hi:=hout i (aC.bQ h1)
    have o:=hst'.own _ b ((hblk i hi).2.2.1 h1) h2
    refine⟨fun hb=>?_,o.2.2,fun hlt=>notkeep b hlt o.2.1⟩
    rcases hb with hb|⟨h,g1,g2,g3⟩
    ·exact o.1 hb
    ·have:h=bL hs i:=hst'.kc _ _ b g2 ((hblk i hi).2.2.1 h1) g3 h2
     rw[this,yX]at g1
     exact g1 (List.mem_of_getElem? (hgd i.key hi))
   kc:=fun i j b h1 h2 h3 h4=>by
    have hi:=hout i (aC.bQ h1)
    have hj:=hout j (aC.bQ h2)
    have:=hst'.kc _ _ b ((hblk i hi).2.2.1 h1) ((hblk j hj).2.2.1 h2) h3 h4
    have inj:∀p q,p<hs.length->q<hs.length->hs.getD p 0=hs.getD q 0->p=q:=fun p q hp hq e=>by
     have e1:=hgd p hp
     rw[e]at e1
     exact(List.getElem?_inj hp nd).1 (e1.trans (hgd q hq).symm)
    cases i<;>cases j<;>simp only[bL,Hd.t.injEq,Hd.r.injEq,reduceCtorEq]at this
    ·exact congrArg Hd.t (inj _ _ hi hj this)
    ·exact(congrArg (fun q=>Hd.r q _) (inj _ _ hi hj this.1)).trans (congrArg (Hd.r _) this.2)
   mr:=fun k hk=>by
    obtain⟨hkl,hm⟩:=hconv.aU k hk
    refine nfout k hkl ?_
    exact hmen _ hm
   mb:=fun i k hk=>by
    have hif:look Hout i≠ .free:=fun e=>by rw[e]at hk;exact hk.elim
    obtain⟨hkl,hm⟩:=(hblk i (hout i hif)).2.1 k hk
    exact nfout k hkl (hst'.mb _ _ hm)
   nf:=fun h hh=>by
    have hi:=cD hh
    refine nfout h (by omega) ?_
    rw[hback h hi];exact hnf h hh}
 cases e' with
 |normal=>cases e<;>first|exact h1.elim|exact fin h2
 |ret=>cases e<;>first|exact h1.elim|exact fin h2
 |exit i=>exact h2.elim
def Gc (Γ:kU) (P:Program) (wr:FuncId->Bool) (rs:List ResultVar) (r:PV):Ex->Sl->Hp->Prop
 | .exit _,_,_=>False
 |_,s,H=>kf Γ P wr rs s H fun l=>oneOf l= .p r
theorem mW (hΓ:fk P Γ) (hmix:P.follows .mixedOrders=true) {f:FuncId} {fn:Func} {c:Code} {args:List PV} {r:PV} (hf:P.funcs[f]?=some fn) (hname:(fn.name== "runtime.NumGoroutine")=false) (hb:fn.body=some c)
  (hfit:fits fn.ntmps c=true) (hn:args.length<=fn.ntmps) (h:VC Γ P wr [] c (Gc Γ P wr fn.results.toList r) (mV 0 (args.map .p)) []):wy P f args r:=by
 refine⟨⟨fn,hf,hname,by rw[hb];rfl⟩,fun w F bM β vs hargs=>?_⟩
 let E:Env:={w0:=w,mz:=fun b=>b<w.heap.size,bM:=bM,F0:=F,In:=fun h=>False,β0:=β}
 have hlk:∀h,look [] h= .free:=fun h=>cC (Nat.zero_le _)
 have hst:b7 E fn.ntmps (aT (mV 0 (args.map .p))) (look []) {tmps:=vs.toArray++Array.replicate (fn.ntmps-vs.toArray.size) Go.undef,defers:=[]} w F β:={
  os:=rfl,tape:=rfl,output:=rfl,size:=Nat.le_refl _
  ml:=fun _ _=>rfl
  f5:=fun b hb=>hb
  uO:=fun b hb=>hargs.blt b hb
  kd:=hargs.kd
  fold:=fun b hb _=>hb
  own:=fun h b h1 h2=>by rw[hlk]at h1;exact h1.elim
  kc:=hargs.kc
  len:=by simp[hargs.len];omega
  fU:=fun t=>by
   rw[j5]
   simp only[Nat.zero_le,if_true,Nat.sub_zero]
   by_cases ht:t<(args.map AV.p).length
   ·have e1:(args.map AV.p)[t]?=some (args.map AV.p)[t]:=List.getElem?_eq_getElem ht
    have ht':t<vs.length:=by rw[hargs.len];exact ht
    have e2:vs[t]?=some vs[t]:=List.getElem?_eq_getElem ht'
    have:(vs.toArray++Array.replicate (fn.ntmps-vs.toArray.size) Go.undef).getD t Go.undef=vs[t]:=by
     simp[Array.getD,ht',show t<vs.length+(fn.ntmps-vs.length) by omega,Array.getElem_append]
    rw[this]
    have:(args.map AV.p).getD t .any=(args.map AV.p)[t]:=by simp only[List.getD,e1];rfl
    rw[this]
    exact hargs.rel t _ _ e1 e2
   ·rw[dI _ _ (by omega)];exact .any _
  df:=hargs.df
  ms:=fun t k hk=>by
   rw[j5]at hk
   simp only[Nat.zero_le,if_true,Nat.sub_zero]at hk
   by_cases ht:t<(args.map AV.p).length
   ·have:(args.map AV.p).getD t .any=(args.map AV.p)[t]:=by simp only[List.getD,List.getElem?_eq_getElem ht];rfl
    rw[this]at hk
    exact hargs.ma _ (List.getElem_mem ht) k hk
   ·rw[dI _ _ (by omega)]at hk;simp only[AV.aU]at hk
  mb:=hargs.mb
  defers:=rfl
  bin:=fun i hi=>hi.elim
  Ei:=fun b hb=>hb}
 have hwp:=tR hΓ hmix (E:=E) (fun h hh=>hh.elim) c _ _ _ _ w h hfit ⟨F,β,hst⟩
 refine calls_of_wp hf hb (wp_mono hwp fun e a' w' he=>?_)
 obtain⟨e',s',H',h1,h2,F1,β1,hst'⟩:=he
 have fin:kf Γ P wr fn.results.toList s' H' (fun l=>oneOf l= .p r)->a'.defers=[]/\∃v,(results fn a'.tmps).run P w'= .ok v w'/\∃v' F',Ending.returned v= .returned v'/\FZ w F bM r v' w' F':=by
  intro h2
  obtain⟨l,v,h3,hr,hv,_⟩:=Az hΓ hst' _ h2
  rw[h3]at hv
  exact⟨hst'.defers,v,hr,v,F1,rfl,{os:=hst'.os,tape:=hst'.tape,output:=hst'.output,size:=hst'.size,same:=fun b h1=>hst'.ml b h1,kd:=hst'.kd,fold:=fun b hb hlt=>hst'.fold b hb hlt,A8:=fun b hb=>hst'.Ei b hb,rel:=hv.xe}⟩
 cases e' with
 |normal=>cases e<;>first|exact h1.elim|exact fin h2
 |ret=>cases e<;>first|exact h1.elim|exact fin h2
 |exit i=>exact h2.elim
end
end
def zv:PV->Value
 | .int k n=>.int k n
 | .bool b=>.bool b
 | .raw v=>v
 |_=>.slice none 0 0
def nA:PV->Bool
 | .int _ _=>true
 | .bool _=>true
 | .raw v=>v.oneCell'
 | .sl _ _ []=>true
 |_=>false
def TI.val (i:TI):Value:=match i.d.agg with
 |true=>.agg (i.zero.map zv).toArray
 |false=>match i.zero with
  |[z]=>zv z
  |_=>.bool false
theorem EJ {w FB} {z:PV} (h:nA z=true):PR w FB z (zv z):=by
 cases z with
 |int k n=>exact .int k n
 |bool b=>exact .bool b
 |raw v=>exact .raw v h
 |sl m W es=>
  cases es with
  |nil=>exact .nil m W _
  |cons _ _=>cases h
 |_=>cases h
theorem E2 {z:PV} (h:nA z=true):z.one=true:=by
 cases z<;>first|rfl|cases h
theorem tv {z:PV} (h:nA z=true):(zv z).cells= #[zv z]:=by
 cases z with
 |raw v=>
  have h:v.oneCell'=true:=h
  show v.cells= #[v]
  cases v<;>first|rfl|(simp[Value.oneCell']at h)
 |sl m W es=>
  cases es with
  |nil=>rfl
  |cons _ _=>cases h
 |int k n=>rfl
 |bool b=>rfl
 |_=>cases h
def TI.F6 (i:TI):Bool:=
 match i.d with
 | .slice _=>match i.zero with
  |[.sl _ _ []]=>true
  |_=>false
 |_=>true
theorem ai {P:Program} {t:TypeId} {i:TI} (hd:Cq P t i.d) (hi:(P.info? t).map (fun x=>(x.zero,x.size,x.bytes))=some (some i.val,i.size,i.bytes)) (hs:i.zero.length=i.size) (hz:i.zero.all nA=true)
  (hc:(i.d.agg||Nat.beq i.zero.length 1)=true) (he:i.eq=false) (hrw:i.F6=true:=by rfl):ed P t i:=by
 have hzero:∀info z,P.info? t=some info->info.zero=some z->z=i.val:=fun info z h1 h2=>by
  rw[h1]at hi
  simp only[Option.map_some,Option.some.injEq,Prod.mk.injEq]at hi
  rw[hi.1]at h2
  exact(Option.some.inj h2).symm
 refine⟨hd,?_,fun c hc=>E2 (List.all_eq_true.1 hz c hc),(fun h=>by rw[he]at h;cases h),(fun h=>by rw[he]at h;cases h),fun info z h1 h2=>?_,fun info z e h1 h2 hde=>?_⟩
 rotate_left
 ·rw[hzero info z h1 h2]
  refine⟨fun ha=>⟨_,by unfold TI.val;rw[ha]⟩,fun ha=>?_⟩
  unfold TI.val
  rw[ha]at hc⊢
  have hl:i.zero.length=1:=Nat.eq_of_beq_eq_true (by simpa using hc)
  obtain⟨z',hz'⟩:=List.length_eq_one_iff.1 hl
  rw[hz']at hz⊢
  simp only[List.all_cons,List.all_nil,Bool.and_true]at hz
  exact tv hz
 ·rw[hzero info z h1 h2]
  unfold TI.F6 at hrw
  unfold TI.val
  rw[hde]at hrw⊢
  simp only[Ty.agg]at hrw⊢
  split at hrw
  ·rename_i e;rw[e];rfl
  ·cases hrw
 cases hp:P.info? t with
 |none=>rw[hp]at hi;cases hi
 |some info=>
  rw[hp]at hi
  simp only[Option.map_some,Option.some.injEq,Prod.mk.injEq]at hi
  obtain⟨h1,h2,h3⟩:=hi
  have key:i.val.cells=(i.zero.map zv).toArray:=by
   unfold TI.val
   cases ha:i.d.agg with
   |true=>rfl
   |false=>
    rw[ha]at hc
    have hl:i.zero.length=1:=Nat.eq_of_beq_eq_true (by simpa using hc)
    obtain⟨z,hz'⟩:=List.length_eq_one_iff.1 hl
    rw[hz']at hz⊢
    simp only[List.all_cons,List.all_nil,Bool.and_true]at hz
    simpa using tv hz
  refine⟨info,i.val,rfl,h2,h3,h1,by rw[key];simpa using hs,hs,fun w FB j c v e1 e2=>?_⟩
  rw[key]at e2
  simp only[List.getElem?_toArray,List.getElem?_map,e1,Option.map_some,Option.some.injEq]at e2
  subst e2
  exact EJ (List.all_eq_true.1 hz c (List.mem_of_getElem? e1))
def xo:List (Nat×TI)->Nat->Option TI
 |[],_=>none
 |(i,x)::l,t=>cond (Nat.beq t i) (some x) (xo l t)
def Bn (P:Program):List (Nat×TI)->Prop
 |[]=>True
 |(t,i)::l=>ed P t i/\Bn P l
theorem uY {P:Program} {l:List (Nat×TI)} (h:Bn P l):fk P (fun t=>xo l t):=by
 intro t i hi
 induction l with
 |nil=>cases hi
 |cons x l ih=>
  obtain⟨t',i'⟩:=x
  simp only[xo]at hi
  cases e:Nat.beq t t' with
  |false=>rw[e]at hi;exact ih h.2 hi
  |true=>
   rw[e]at hi
   have:=Nat.eq_of_beq_eq_true e
   subst this
   cases hi
   exact h.1
structure jd (P:Program) (t:TypeId):Prop where
 u:P.underlying t=some .bool\/∃k,P.underlying t=some (.int k)
 ok:∃i,ed P t i/\i.d.agg=false
theorem jd.part {P:Program} {t:TypeId} (h:jd P t) {xs:Array Value} {o:Nat} {v:Value} (hv:xs[o]?=some v) (w:World):(part t xs o).run P w= .ok v w:=by
 obtain⟨i,hi,ha⟩:=h.ok
 have hlt:=(Array.getElem?_eq_some_iff.1 hv).1
 have hG:fk P (fun s=>cond (Nat.beq s t) (some i) none):=fun s j hs=>by
  cases e:Nat.beq s t with
  |false=>simp only[e]at hs;cases hs
  |true=>
   simp only[e]at hs
   cases hs
   rw[Nat.eq_of_beq_eq_true e];exact hi
 have:=iJ (t:=t) hG (i:=i) (by simp) xs o w (by rw[ha];simp;omega)
 rw[this,ha]
 simp only[Bool.false_eq_true,if_false]
 rw[Array.getD_eq_getD_getElem?,hv];rfl
theorem jd.Es {P:Program} {t:TypeId} (h:jd P t) {k:IntKind} {a b:Int} (w:World) (hk:∃k,P.underlying t=some (.int k)) (d:Nat):(Op.equalIn (d+1) t (.int k a) (.int k b)).run P w= .ok (a==b) w:=by
 obtain⟨k',hu⟩:=hk
 simp[Op.equalIn,run_underlying hu]
theorem jd.Fh {P:Program} {t:TypeId} (h:jd P t) {a b:Bool} (w:World) (hk:P.underlying t=some .bool) (d:Nat):(Op.equalIn (d+1) t (.bool a) (.bool b)).run P w= .ok (a==b) w:=by
 simp[Op.equalIn,run_underlying hk]
inductive qT (P:Program):Nat->List Field->List PV->Prop where
 |nil {o}:qT P o [] []
 |int {o f fs k z zs} (hn:f.name≠ "_") (ho:f.offset=o) (hp:jd P f.type) (hk:∃k,P.underlying f.type=some (.int k)) (h:qT P (o+1) fs zs):qT P o (f::fs) (.int k z::zs)
 |bool {o f fs z zs} (hn:f.name≠ "_") (ho:f.offset=o) (hp:jd P f.type) (hk:P.underlying f.type=some .bool) (h:qT P (o+1) fs zs):qT P o (f::fs) (.bool z::zs)
theorem sB {P:Program} {w:World} {d:Nat} {xs ys:Array Value} {o:Nat} {fs:List Field} {zs:List PV} (hf:qT P o fs zs):∀{l1 l2:List Value} {r:Bool},AE l1 l2 r->fT zs l1->
  (∀i v,l1[i]?=some v->xs[o+i]?=some v)->(∀i v,l2[i]?=some v->ys[o+i]?=some v)->(Op.eqFields (d+1) xs ys fs).run P w= .ok r w:=by
 induction hf with
 |nil=>intro l1 l2 r h hk _ _;cases hk;cases h;simp[Op.eqFields]
 | @int o f fs k z zs hn ho hp hu _ ih=>
  intro l1 l2 r h hk h1 h2
  cases hk with| @int _ _ a _ _ hk=>
  cases h with| @int _ _ b _ _ _ h=>
  have a1:=hp.part (h1 0 _ rfl) w
  have a2:=hp.part (h2 0 _ rfl) w
  rw[Nat.add_zero,<-ho]at a1 a2
  have a3:=fun a b=>hp.Es (k:=k) (a:=a) (b:=b) w hu d
  have a4:=ih h hk (fun i v e=>by rw[show o+1+i=o+(i+1) by omega];exact h1 (i+1) v (by simpa using e)) (fun i v e=>by rw[show o+1+i=o+(i+1) by omega];exact h2 (i+1) v (by simpa using e))
  rw[Op.eqFields,if_pos hn]
  simp only[Sem.run_bind,a1,a2,a3,Result.andThen_ok]
  cases hb:(a==b)<;>simp[a4]
 | @bool o f fs z zs hn ho hp hu _ ih=>
  intro l1 l2 r h hk h1 h2
  cases hk with| @bool _ a _ _ hk=>
  cases h with| @bool _ b _ _ _ h=>
  have a1:=hp.part (h1 0 _ rfl) w
  have a2:=hp.part (h2 0 _ rfl) w
  rw[Nat.add_zero,<-ho]at a1 a2
  have a3:=fun a b=>hp.Fh (a:=a) (b:=b) w hu d
  have a4:=ih h hk (fun i v e=>by rw[show o+1+i=o+(i+1) by omega];exact h1 (i+1) v (by simpa using e)) (fun i v e=>by rw[show o+1+i=o+(i+1) by omega];exact h2 (i+1) v (by simpa using e))
  rw[Op.eqFields,if_pos hn]
  simp only[Sem.run_bind,a1,a2,a3,Result.andThen_ok]
  cases hb:(a==b)<;>simp[a4]
theorem qv {P:Program} {t:TypeId} (hp:jd P t) {v:Value} (hv:(∃k n,v= .int k n)\/∃b,v= .bool b) (b:Bool) (d:Nat) (w:World):(Instr.checkKey b (d+1) t v).run P w= .ok () w:=by
 unfold Instr.checkKey
 rcases hp.u with hu|⟨k,hu⟩<;>rcases hv with⟨k',n,rfl⟩|⟨b',rfl⟩<;>simp[run_underlying hu]
theorem n9 {zs:List PV} {l:List Value} (h:fT zs l):∀(i:Nat) v,l[i]?=some v->(∃k n,v= .int k n)\/∃b,v= .bool b:=by
 induction h with
 |nil=>intro i v e;simp at e
 |int h ih=>intro i v e;cases i with
  |zero=>simp at e;exact .inl ⟨_,_,e.symm⟩
  |succ i=>exact ih i v (by simpa using e)
 |bool h ih=>intro i v e;cases i with
  |zero=>simp at e;exact .inr ⟨_,e.symm⟩
  |succ i=>exact ih i v (by simpa using e)
theorem qT.GY {P:Program} {o:Nat} {fs:List Field} {zs:List PV} (hf:qT P o fs zs):zs.length=fs.length/\∀(i:Nat) f,fs[i]?=some f->f.name≠ "_" /\f.offset=o+i/\jd P f.type:=by
 induction hf with
 |nil=>exact⟨rfl,fun i f e=>by simp at e⟩
 |int hn ho hp hk _ ih=>
  refine⟨by simp[ih.1],fun i f e=>?_⟩
  cases i with
  |zero=>simp at e;subst e;exact⟨hn,by omega,hp⟩
  |succ i=>have:=ih.2 i f (by simpa using e);exact⟨this.1,by rw[this.2.1];omega,this.2.2⟩
 |bool hn ho hp hk _ ih=>
  refine⟨by simp[ih.1],fun i f e=>?_⟩
  cases i with
  |zero=>simp at e;subst e;exact⟨hn,by omega,hp⟩
  |succ i=>have:=ih.2 i f (by simpa using e);exact⟨this.1,by rw[this.2.1];omega,this.2.2⟩
theorem fT.len {zs:List PV} {l:List Value} (h:fT zs l):l.length=zs.length:=by
 induction h with
 |nil=>rfl
 |int _ ih=>simp[ih]
 |bool _ ih=>simp[ih]
theorem gV {P:Program} {t:TypeId} {i:TI} (h:ed P t {i with eq:=false}) {fs:Array Field} (hu:P.underlying t=some (.struct fs)) (hp:P.stoodInHeld t=false) (hg:P.eqGuardType P.depth t=false) (hf:qT P 0 fs.toList i.zero):ed P t i:=by
 refine⟨h.desc,h.info,h.plain,fun _=>⟨hg,fun w xs ys r he hk=>?_⟩,fun _ w b xs hk=>?_,h.EX,h.Fc⟩
 rotate_left
 ·show(Instr.checkKey b (9999+1) t (.agg xs.toArray)).run P w= .ok () w
  rw[Instr.checkKey]
  simp only[Sem.run_bind,run_underlying hu,Result.andThen_ok]
  rw[<-Array.forIn_toList]
  obtain⟨hzl,hfs⟩:=hf.GY
  have hxl:xs.length=fs.toList.length:=by rw[hk.len,hzl]
  have each:∀f∈fs.toList,f.name≠ "_" /\∃v,(part f.type xs.toArray f.offset).run P w= .ok v w/\(Instr.checkKey b (9998+1) f.type v).run P w= .ok () w:=fun f hm=>by
   obtain⟨i,hi⟩:=List.getElem?_of_mem hm
   obtain⟨h1,h2,h3⟩:=hfs i f hi
   have hil:i<xs.length:=by rw[hxl];exact(List.getElem?_eq_some_iff.1 hi).1
   have hx:xs[i]?=some xs[i]:=List.getElem?_eq_getElem hil
   exact⟨h1,xs[i],h3.part (by rw[h2,Nat.zero_add];simp) w,qv h3 (n9 hk i _ hx) b 9998 w⟩
  generalize fs.toList=L at each
  induction L with
  |nil=>simp
  |cons f L ih=>
   obtain⟨hn,v,p1,p2⟩:=each f (by simp)
   simp only[List.forIn_cons,Sem.run_bind,hn,ne_eq,not_false_eq_true,if_true,Result.andThen_ok,p1,p2,Sem.run_pure]
   exact ih (fun y hy=>each y (by simp[hy]))
 have hfs:P.fieldsOf t=fs:=by simp[Program.fieldsOf,hu]
 show(Op.equalIn (9998+1+1) t (.agg xs.toArray) (.agg ys.toArray)).run P w= .ok r w
 rw[run_equalIn_struct (P:=P) w (9998+1) t _ _ (by rw[hfs];exact hu) hp,hfs]
 exact sB hf he hk (fun i v e=>by simpa using e) (fun i v e=>by simpa using e)
theorem vp {P:Program} {w:World} {d:Nat} {e:TypeId} {k:IntKind} (hp:jd P e) (hu:P.underlying e=some (.int k)) (hc:P.cellsOf e=1) {xs ys:Array Value}:∀(m o:Nat) {l1 l2:List Value} {r:Bool},AE l1 l2 r->fT (List.replicate m (.int k 0)) l1->
  (∀i v,l1[i]?=some v->xs[o+i]?=some v)->(∀i v,l2[i]?=some v->ys[o+i]?=some v)->(Op.eqItems (d+1) e (P.cellsOf e) xs ys (List.range' o m)).run P w= .ok r w:=by
 intro m
 induction m with
 |zero=>intro o l1 l2 r h hk _ _;cases hk;cases h;simp[Op.eqItems]
 |succ m ih=>
  intro o l1 l2 r h hk h1 h2
  rw[List.replicate_succ]at hk
  cases hk with| @int _ _ a _ _ hk=>
  cases h with| @int _ _ b _ _ _ h=>
  have a1:=hp.part (h1 0 _ rfl) w
  have a2:=hp.part (h2 0 _ rfl) w
  rw[Nat.add_zero]at a1 a2
  have a3:=fun a b=>hp.Es (k:=k) (a:=a) (b:=b) w ⟨k,hu⟩ d
  have a4:=ih (o+1) h hk (fun i v e=>by rw[show o+1+i=o+(i+1) by omega];exact h1 (i+1) v (by simpa using e)) (fun i v e=>by rw[show o+1+i=o+(i+1) by omega];exact h2 (i+1) v (by simpa using e))
  rw[List.range'_succ]
  simp only[hc]at a4
  simp only[Op.eqItems,Sem.run_bind,hc,Nat.mul_one,a1,a2,a3,Result.andThen_ok]
  cases hb:(a==b)<;>simp[a4]
theorem iR {P:Program} {t:TypeId} {i:TI} (h:ed P t {i with eq:=false}) {e:TypeId} {n:Nat} {k:IntKind} (hu:P.underlying t=some (.array n e)) (hg:P.eqGuardType P.depth t=false) (hp:jd P e) (he:P.underlying e=some (.int k)) (hc:P.cellsOf e=1) (hz:i.zero=List.replicate n (.int k 0)):ed P t i:=by
 obtain⟨i',hi',_⟩:=hp.ok
 obtain⟨info,z,hi,_⟩:=hi'.info
 refine⟨h.desc,h.info,h.plain,fun _=>⟨hg,fun w xs ys r hxy hk=>?_⟩,fun _ w b xs hk=>?_,h.EX,h.Fc⟩
 rotate_left
 ·show(Instr.checkKey b (9999+1) t (.agg xs.toArray)).run P w= .ok () w
  rw[Instr.checkKey]
  simp only[Sem.run_bind,run_underlying hu,Result.andThen_ok]
  simp only[Std.Legacy.Range.forIn_eq_forIn_range',Std.Legacy.Range.size,Nat.sub_zero,Nat.add_one_sub_one,Nat.div_one]
  have hxl:xs.length=n:=by rw[hk.len,hz];simp
  have hsz:(sizeOf e).run P w= .ok 1 w:=by
   have hcells:info.size=1:=by
    have:=hc
    simp only[Program.cellsOf,hi]at this
    simpa using this
   simp[sizeOf,typeInfo,hi,hcells]
  have each:∀j∈List.range' 0 n,∃v,(part e xs.toArray (j*1)).run P w= .ok v w/\(Instr.checkKey b (9998+1) e v).run P w= .ok () w:=fun j hj=>by
   have hj':j<xs.length:=by rw[hxl];simpa using hj
   have hx:xs[j]?=some xs[j]:=List.getElem?_eq_getElem hj'
   exact⟨xs[j],hp.part (by rw[Nat.mul_one];simp) w,qv hp (n9 hk j _ hx) b 9998 w⟩
  generalize List.range' 0 n=L at each
  induction L with
  |nil=>simp
  |cons j L ih=>
   obtain⟨v,p1,p2⟩:=each j (by simp)
   simp only[List.forIn_cons,Sem.run_bind,hsz,Result.andThen_ok,p1,p2,Sem.run_pure]
   exact ih (fun y hy=>each y (by simp[hy]))
 show(Op.equalIn (9998+1+1) t (.agg xs.toArray) (.agg ys.toArray)).run P w= .ok r w
 rw[run_equalIn_array (P:=P) (w:=w) (9998+1) _ _ hu hi,List.range_eq_range']
 rw[hz]at hk
 exact vp hp he hc n 0 hxy hk (fun i v e=>by simpa using e) (fun i v e=>by simpa using e)
end Go.Proofs.YtnilcfiemgmfdaaGreat
