/- FTCert: what its proof needs, part 4. -/
import Derived.Test.YtiakeknbdclaoaaGreatMTCert3
set_option linter.unusedVariables false
set_option linter.unusedSimpArgs false
namespace Go.Proofs.YtiakeknbdclaoaaGreat
open Go
set_option maxRecDepth 10000
section

def nv:List Nat->Nat
 |[]=>0
 |x::l=>x+4294967296*nv l
def iR (l:List Nat):Prop:=∀x∈l,x<4294967296
def nl (n:Nat):List Nat:=if h:n=0 then[]else n%4294967296::nl (n/4294967296)
decreasing_by exact Nat.div_lt_self qO qO
theorem dH:nl 0=[]:=by rw[nl];rfl
theorem jX {n:Nat} (h:n≠0):nl n=n%4294967296::nl (n/4294967296):=by rw[nl];simp[h]
theorem iR.nil:iR []:=fun _ h=>by simp at h
theorem iR.cons {x:Nat} {l:List Nat} (h:x<4294967296) (hl:iR l):iR (x::l):=fun y hy=>by
 rcases List.mem_cons.1 hy with rfl|hy
 ·exact h
 ·exact hl y hy
theorem iR.tail {x:Nat} {l:List Nat} (h:iR (x::l)):iR l:=fun y hy=>h y (List.mem_cons_of_mem _ hy)
theorem iR.head {x:Nat} {l:List Nat} (h:iR (x::l)):x<4294967296:=h x List.mem_cons_self
theorem cp:∀n,iR (nl n):=by
 intro n
 induction n using Nat.strongRecOn with
 |_ n ih=>
  by_cases h:n=0
  ·subst h;rw[dH];exact .nil
  ·rw[jX h];exact .cons (Nat.mod_lt _ qO) (ih _ (Nat.div_lt_self qO qO))
theorem yI:∀n,nv (nl n)=n:=by
 intro n
 induction n using Nat.strongRecOn with
 |_ n ih=>
  by_cases h:n=0
  ·subst h;rw[dH];rfl
  ·rw[jX h,nv,ih _ (Nat.div_lt_self qO qO)];omega
theorem yF {l:List Nat}:nv l=0↔∀x∈l,x=0:=by
 induction l with
 |nil=>simp[nv]
 |cons x l ih=>
  simp only[nv,List.mem_cons,forall_eq_or_imp,<-ih]
  omega
theorem zw {l:List Nat} (h:iR l):nv l<4294967296^l.length:=by
 induction l with
 |nil=>simp[nv]
 |cons x l ih=>
  have:=ih h.tail
  have hx:=h.head
  rw[List.length_cons,Nat.pow_succ,nv]
  omega
theorem ON {l:List Nat} (h:iR l) (hl:l=[]\/l.getD (l.length-1) 0≠0):nl (nv l)=l:=by
 induction l with
 |nil=>exact dH
 |cons x l ih=>
  have hx:=h.head
  rcases hl with hl|hl
  ·cases hl
  cases l with
  |nil=>
   simp only[nv]
   have hx0:x≠0:=by simpa using hl
   rw[jX qO,show(x+4294967296*0)/4294967296=0 by omega,dH,show(x+4294967296*0)%4294967296=x by omega]
  |cons y l=>
   have ih:=ih h.tail (.inr (by simpa using hl))
   have hne:nv (y::l)≠0:=by
    intro e
    rw[e,dH]at ih
    cases ih
   rw[nv]
   generalize nv (y::l)=m at ih hne
   rw[jX qO,show(x+4294967296*m)/4294967296=m by omega,show(x+4294967296*m)%4294967296=x by omega,ih]
theorem mN (l l':List Nat):nv (l++l')=nv l+4294967296^l.length*nv l':=by
 induction l with
 |nil=>simp[nv]
 |cons x l ih=>
  simp only[List.cons_append,nv,ih,List.length_cons,Nat.pow_succ]
  rw[Nat.mul_add,Nat.add_assoc,<-Nat.mul_assoc,Nat.mul_comm (4294967296^l.length) 4294967296]
theorem pq {n:Nat} (h:n≠0):(nl n).getD ((nl n).length-1) 0≠0:=by
 induction n using Nat.strongRecOn with
 |_ n ih=>
  rw[jX h]
  by_cases e:n/4294967296=0
  ·rw[e,dH]
   simp
   omega
  ·have:=ih _ (Nat.div_lt_self qO qO) e
   rw[List.length_cons]
   have hl:(nl (n/4294967296)).length≠0:=by rw[jX e];simp
   obtain⟨k,hk⟩:=Nat.exists_eq_succ_of_ne_zero hl
   rw[hk]at this⊢
   simpa using this
theorem Ny {n:Nat}:nl n=[]↔n=0:=by
 constructor
 ·intro h
  by_cases e:n=0
  ·exact e
  ·rw[jX e]at h;cases h
 ·intro h;rw[h,dH]
abbrev az (n:Nat):Nat:=(nl n).length
theorem aw {n:Nat}:az n=0↔n=0:=by rw[az,List.length_eq_zero_iff,Ny]
theorem cH (n:Nat):n<4294967296^az n:=by
 have:=zw (cp n)
 rwa[yI]at this
theorem fX {n k:Nat} (h:n<4294967296^k):az n<=k:=by
 induction k generalizing n with
 |zero=>
  have:n=0:=by simpa using h
  subst this;rw[az,dH];simp
 |succ k ih=>
  by_cases e:n=0
  ·subst e;rw[az,dH];simp
  ·rw[az,jX e,List.length_cons]
   have:n/4294967296<4294967296^k:=by rw[Nat.pow_succ]at h;omega
   have:=ih this
   simp only[az]at this
   omega
theorem dz {a b:Nat} (h:a<=b):az a<=az b:=fX (Nat.lt_of_le_of_lt h (cH b))
theorem FU (a b:Nat):az (a*b)<=az a+az b:=fX (by
 rw[Nat.pow_add]
 exact Nat.mul_lt_mul'' (cH a) (cH b))
theorem sN (a b:Nat):az (a+b)<=max (az a) (az b)+1:=fX (by
 have h1:=cH a
 have h2:=cH b
 have m1:4294967296^az a<=4294967296^max (az a) (az b):=Nat.pow_le_pow_right qO (Nat.le_max_left _ _)
 have m2:4294967296^az b<=4294967296^max (az a) (az b):=Nat.pow_le_pow_right qO (Nat.le_max_right _ _)
 rw[Nat.pow_succ]
 omega)
theorem Az {n:Nat} (h:n≠0):4294967296^(az n-1)<=n:=by
 rcases Nat.lt_or_ge n (4294967296^(az n-1))with hlt|hge
 ·have:=fX hlt
  have h0:az n≠0:=fun e=>h (aw.1 e)
  omega
 ·exact hge
theorem ja {l:List Nat} (h:iR l) (i:Nat):l.getD i 0=nv l/4294967296^i%4294967296:=by
 induction l generalizing i with
 |nil=>simp[nv]
 |cons x l ih=>
  have hx:=h.head
  cases i with
  |zero=>simp[nv];omega
  |succ i=>
   rw[List.getD_cons_succ,ih h.tail,Nat.pow_succ,Nat.mul_comm,<-Nat.div_div_eq_div_mul,nv]
   rw[show(x+4294967296*nv l)/4294967296=nv l by omega]
theorem bC {l:List Nat} (h:iR l) (i:Nat):l.getD i 0<4294967296:=by
 rw[ja h];exact Nat.mod_lt _ qO
theorem bU (n i:Nat):(nl n).getD i 0=n/4294967296^i%4294967296:=by rw[ja (cp n),yI]
theorem PI (l:List Nat) (h:iR l) (i:Nat):nv (l.take i)=nv l%4294967296^i:=by
 induction l generalizing i with
 |nil=>simp[nv]
 |cons x l ih=>
  have hx:=h.head
  cases i with
  |zero=>simp[nv,Nat.mod_one]
  |succ i=>
   rw[List.take_succ_cons,nv,ih h.tail,nv,Nat.pow_succ,Nat.mul_comm (4294967296^i),Nat.mod_mul,show(x+4294967296*nv l)/4294967296=nv l by omega,show(x+4294967296*nv l)%4294967296=x by omega]
theorem jU (l:List Nat) (i x:Nat) (h:i<l.length):nv (l.set i x)+4294967296^i*l.getD i 0=nv l+4294967296^i*x:=by
 induction l generalizing i with
 |nil=>simp at h
 |cons y l ih=>
  cases i with
  |zero=>simp[nv];omega
  |succ i=>
   have:=ih i (by simpa using h)
   simp only[List.set_cons_succ,nv,List.getD_cons_succ,Nat.pow_succ]
   generalize hA:4294967296^i=A at this⊢
   have e1:A*4294967296*l.getD i 0=4294967296*(A*l.getD i 0):=by rw[Nat.mul_comm A,Nat.mul_assoc]
   have e2:A*4294967296*x=4294967296*(A*x):=by rw[Nat.mul_comm A,Nat.mul_assoc]
   rw[e1,e2]
   omega
theorem dV (n:Nat):nv (List.replicate n 0)=0:=by
 rw[yF];intro x hx;exact(List.mem_replicate.1 hx).2
theorem iR.replicate (n:Nat):iR (List.replicate n 0):=fun x hx=>by rw[(List.mem_replicate.1 hx).2];omega
theorem iR.set {l:List Nat} (h:iR l) {i x:Nat} (hx:x<4294967296):iR (l.set i x):=fun y hy=>by
 rcases List.mem_or_eq_of_mem_set hy with hy|hy
 ·exact h y hy
 ·rw[hy];exact hx
theorem iR.take {l:List Nat} (h:iR l) (n:Nat):iR (l.take n):=fun x hx=>h x (List.mem_of_mem_take hx)
end
theorem aL (l:List Nat):∀e∈bV l,∀c∈e.cells,ct c:=by
 intro e he c hc
 obtain⟨x,_,rfl⟩:=List.mem_map.1 he
 obtain rfl:=List.mem_singleton.1 hc
 exact .int _ _
abbrev bF (m:Bool) (n:Nat):PV:=.sl m 1 (bV (nl n))
abbrev cg (n:Nat):PV:=bF false n
theorem xu {H:Hp} {h:Nat} {l:List Nat} {T:TypeId} {n:Nat} (hB:look H h= .vec T 1 (bV l)) (hn:n=l.length):Conv [] H (.vec h 1 0 n) (.p (.sl false 1 (bV l))):=
 .JE hB qS (by simp[hn]) (aL l) (by rw[List.drop_zero];exact List.take_of_length_le (by simp[hn]))
theorem kG (m:Bool) (l:List Nat) (hl:l.length<=1099511627776):ae Tryz.prog 127 [.sl m 1 (bV l)] (.p (.sl false 1 (bV l))) []:=by
 refine aW Tryz.func127 ?_
 refine uT.mk (fun h=>?_) (fun h=>⟨?_,?_⟩)
 ·refine cG.mk (by simp;omega) (by simp;omega) ?_
  exact ab.pure (xu rfl qS)
 ·have:l=[]:=List.length_eq_zero_iff.1 (by simpa using h)
  subst this
  exact ab.pure (.emp _)
 ·refine cG.mk (by simp;omega) (by simp;omega) ?_
  exact ab.pure (xu rfl qS)
theorem nL (m:Bool) (l:List Nat) (h:iR l) (i:Int):ae Tryz.prog 138 [.sl m 1 (bV l),.int .i64 i] (.p (.int .u64 (if 0<=i then((l.getD i.toNat 0:Nat):Int)else 0))) []:=by
 refine aW Tryz.func138 ?_
 by_cases h1:i>=0
 ·refine ao.yes (by simpa using h1) ?_
  refine SZ.mk l.length qS ?_
  rw[if_pos qO]
  by_cases h2:i<l.length
  ·refine ao.yes (by simpa using h2) ?_
   refine aF.lb i.toNat qO qO ?_
   have:=bC h i.toNat
   refine ai.u64 qO ?_
   exact ab.pure (.p _ (.int _ _))
  ·refine ao.no (by simpa using h2) ?_
   rw[eJ l 0 qO]
   exact ab.pure (.p _ (.int _ _))
 ·refine ao.no (by simpa using h1) ?_
  rw[if_neg qO]
  exact ab.pure (.p _ (.int _ _))
theorem DX {l:List Nat} (h:iR l) {n:Nat} (hn:n<=l.length) (h1:nv (l.take n)=nv l) (h2:n=0\/l.getD (n-1) 0≠0):l.take n=nl (nv l):=by
 rw[<-h1]
 refine(ON (h.take n) ?_).symm
 rcases h2 with h2|h2
 ·left;rw[h2];rfl
 ·right
  have hl:(l.take n).length=n:=by simp;omega
  rw[hl]
  by_cases h0:n=0
  ·subst h0
   rcases l with _|⟨x,l⟩
   ·exact(h2 rfl).elim
   ·simp[nv]at h1 h2;omega
  ·have:(l.take n).getD (n-1) 0=l.getD (n-1) 0:=by simp[List.getD,show n-1<n by omega]
   rw[this];exact h2
theorem pC {l:List Nat} {n:Nat} (h0:n≠0) (hn:n<=l.length) (hz:l.getD (n-1) 0=0):nv (l.take (n-1))=nv (l.take n):=by
 obtain⟨k,rfl⟩:=Nat.exists_eq_succ_of_ne_zero h0
 have hk:k<l.length:=qO
 have:l.take (k+1)=l.take k++[l.getD k 0]:=by
  rw[List.take_add_one];simp[List.getD,List.getElem?_eq_getElem hk]
 simp only[Nat.succ_eq_add_one,Nat.add_sub_cancel]at hz⊢
 rw[this,mN,hz]
 simp[nv]
theorem jT (m:Bool) (l:List Nat) (h:iR l) (hl:l.length<=1099511627776):ae Tryz.prog 75 [.sl m 1 (bV l)] (.p (cg (nv l))) []:=by
 refine aW Tryz.func75 ?_
 refine SZ.mk l.length qS ?_
 refine aJ.mk Nat (fun n=>([(0,.p (.sl m 1 (bV l))),(3,.p (.int .i64 n))],[])) (fun n=>n<=l.length/\nv (l.take n)=nv l) id l.length [] ⟨Nat.le_refl _,qS⟩
  aY ?_
 intro n ⟨hn,hv⟩
 have done:(n=0\/l.getD (n-1) 0≠0)->_:=fun h2=>DX h hn hv h2
 by_cases h0:n=0
 ·refine bd ?_
  refine SZ.mk n rfl ?_
  refine cm.mk qS ?_
  refine fO.mk 0 n rfl rfl qO (by simp;omega) ?_
  refine H4.sl ?_
  refine dp.mk (bV (nl (nv l))) (by rw[<-done (.inl h0)];simp[List.map_take]) ?_
  refine aa.pure (kG m (nl (nv l)) (by rw[<-done (.inl h0)];simp;omega)) ?_
  exact ab.pure (.p _ (.sl _ _ (aL _)))
 ·refine bo ?_
  refine a5 (n-1) ?_
  refine aF.lb (n-1) rfl qO ?_
  by_cases h1:l.getD (n-1) 0=0
  ·refine ao.yes (jx qO) ?_
   refine a5 (n-1) ?_
   exact⟨n-1,[],⟨qO,(pC h0 hn h1).trans hv⟩,by simp;omega,aY⟩
  ·refine ao.no (iO qO) ?_
   refine SZ.mk n rfl ?_
   refine cm.mk qS ?_
   refine fO.mk 0 n rfl rfl qO (by simp;omega) ?_
   refine H4.sl ?_
   refine dp.mk (bV (nl (nv l))) (by rw[<-done (.inr h1)];simp[List.map_take]) ?_
   refine aa.pure (kG m (nl (nv l)) (by rw[<-done (.inr h1)];simp;omega)) ?_
   exact ab.pure (.p _ (.sl _ _ (aL _)))
theorem q9 (v:Nat) (hv:v<18446744073709551616):ae Tryz.prog 32 [.int .u64 v] (.p (cg v)) []:=by
 refine aW Tryz.func32 ?_
 refine ai.gS (v%4294967296) qO ?_
 refine gZ ?_
 refine ai.gS (v/4294967296) qO ?_
 refine bl.all rfl ?_
 refine aa.pure (jT true [v%4294967296,v/4294967296] (.cons qO (.cons qO .nil)) qS) ?_
 have:nv [v%4294967296,v/4294967296]=v:=by simp only[nv];omega
 rw[this]
 exact ab.pure (.p _ (.sl _ _ (aL _)))
theorem bX (k:Nat):0<4294967296^k:=Nat.pow_pos qO
theorem wJ {l:List Nat} {i:Nat} (h:i<l.length):nv (l.take (i+1))=nv (l.take i)+4294967296^i*l.getD i 0:=by
 have:l.take (i+1)=l.take i++[l.getD i 0]:=by
  rw[List.take_add_one];simp[List.getD,List.getElem?_eq_getElem h]
 rw[this,mN]
 simp[nv,Nat.min_eq_left (Nat.le_of_lt h)]
theorem uY (l:List Nat) (i x:Nat):(l.set i x).take i=l.take i:=by
 rw[List.take_set_of_le (Nat.le_refl _)]
theorem E1 {l:List Nat} {i x:Nat} (h:i<l.length):(l.set i x).getD i 0=x:=by simp[List.getD,h]
theorem dU {l:List Nat} {i x:Nat} (h:i<l.length):nv ((l.set i x).take (i+1))=nv (l.take i)+4294967296^i*x:=by
 rw[wJ (by simpa using h),uY,E1 h]
theorem d5 (n L:Nat) (h:az n<=L):n%4294967296^L=n:=Nat.mod_eq_of_lt (Nat.lt_of_lt_of_le (cH n) (Nat.pow_le_pow_right qO h))
theorem AD {p x c c' t A B:Nat} (h1:t+c*p=A%p+B%p) (h2:c+A/p%4294967296+B/p%4294967296=x+4294967296*c'):(t+p*x)+c'*(p*4294967296)=A%(p*4294967296)+B%(p*4294967296):=by
 rw[Nat.mod_mul,Nat.mod_mul]
 grind
theorem HX (m m':Bool) (a b:Nat) (ha:az a<=549755813887) (hb:az b<=549755813887):ae Tryz.prog 106 [bF m a,bF m' b] (.p (cg (a+b))) []:=by
 refine aW Tryz.func106 ?_
 obtain⟨L,hL⟩:∃L,L=max (az a) (az b)+1:=⟨_,rfl⟩
 refine SZ.mk (az a) qS ?_
 refine SZ.mk (az b) qS ?_
 refine SZ.mk ((max (az a) (az b):Nat):Int) (by show(if((az b:Nat):Int)>((az a:Nat):Int)then _ else _)=_;split<;>omega) ?_
 refine kJ (L:Int) ?_
 refine SZ.mk L rfl ?_
 refine cm.mk qS ?_
 refine cy.u32 L rfl qO ?_
 refine SZ.mk L rfl ?_
 refine aJ.mk (Nat×Nat×List Nat) (fun(i,c,out)=>([(0,.p (bF m a)),(1,.p (bF m' b)),(5,.vec 0 1 0 L),(6,.p (.int .u64 c)),(16,.p (.int .i64 L)),(17,.p (.int .i64 i))],[.vec 100 1 (bV out)]))
  (fun(i,c,out)=>i<=L/\c<=1/\out.length=L/\iR out/\nv (out.take i)+c*4294967296^i=a%4294967296^i+b%4294967296^i) (fun x=>L-x.1) (0,0,List.replicate L 0) [0]
  ⟨Nat.zero_le _,qS,qS,.replicate _,by simp[nv,Nat.mod_one]⟩
  (aY ⟨congrArg _ (bM L).symm,trivial⟩) ?_
 intro⟨i,c,out⟩ ⟨h1,h2,h3,h4,h5⟩
 by_cases hi:i<L
 ·refine bo ?_
  refine aa.pure (nL m (nl a) (cp a) i) ?_
  refine aa.pure (nL m' (nl b) (cp b) i) ?_
  rw[if_pos qO,if_pos qO,Int.toNat_natCast]
  have e1:=bU a i
  have e2:=bU b i
  have l1:(nl a).getD i 0<4294967296:=bC (cp a) i
  have l2:(nl b).getD i 0<4294967296:=bC (cp b) i
  generalize hx:(nl a).getD i 0=x at e1 l1⊢
  generalize hy:(nl b).getD i 0=y at e2 l2⊢
  refine xt (x+y) ?_
  refine xt (c+(x+y)) ?_
  refine ai.gS ((c+(x+y))%4294967296) qO ?_
  refine aK.mk i rfl hi ?_
  refine cm.set qO ?_
  refine dp.set ?_
  refine gZ ?_
  refine a5 (i+1) ?_
  refine⟨(i+1,(c+(x+y))/4294967296,out.set i ((c+(x+y))%4294967296)),[0],⟨hi,qO,by simpa using h3,h4.set (Nat.mod_lt _ qO),?_⟩,cA,aY⟩
  rw[dU qO,Nat.pow_succ]
  exact AD h5 (by rw[<-e1,<-e2];omega)
 ·refine bd ?_
  have hiL:i=L:=qO
  subst hiL
  have hlt:a+b<4294967296^i:=by
   have:=cH (a+b)
   have h:=sN a b
   exact Nat.lt_of_lt_of_le this (Nat.pow_le_pow_right qO qO)
  rw[d5 a i qO,d5 b i qO,List.take_of_length_le qO]at h5
  have hc:c=0:=by
   rcases Nat.eq_zero_or_pos c with h|h
   ·exact h
   ·have:1*4294967296^i<=c*4294967296^i:=Nat.mul_le_mul_right _ h
    omega
  subst hc
  have hv:nv out=a+b:=qO
  refine bl.all (by simpa using h3.symm) ?_
  refine aa.pure (jT true out h4 qO) ?_
  rw[hv]
  exact ab.pure (.p _ (.sl _ _ (aL _)))
def cF (a b:Nat):Int:=if a<b then-1 else if a=b then 0 else 1
theorem kM {a b:Nat} (h:az a<az b):a<b:=by
 rcases Nat.lt_or_ge a b with h'|h'
 ·exact h'
 ·have:=dz h';omega
theorem pc {a b i:Nat} (h:a/4294967296^(i+1)=b/4294967296^(i+1)) (hlt:a/4294967296^i%4294967296<b/4294967296^i%4294967296):a<b:=by
 have e:∀n:Nat,n/4294967296^i=n/4294967296^(i+1)*4294967296+n/4294967296^i%4294967296:=fun n=>by
  rw[Nat.pow_succ,<-Nat.div_div_eq_div_mul];omega
 have h1:a/4294967296^i<b/4294967296^i:=by rw[e a,e b,h];omega
 rcases Nat.lt_or_ge a b with h'|h'
 ·exact h'
 ·have:=Nat.div_le_div_right (c:=4294967296^i) h';omega
theorem Aq {a b i:Nat} (h:a/4294967296^(i+1)=b/4294967296^(i+1)) (he:a/4294967296^i%4294967296=b/4294967296^i%4294967296):a/4294967296^i=b/4294967296^i:=by
 have e:∀n:Nat,n/4294967296^i=n/4294967296^(i+1)*4294967296+n/4294967296^i%4294967296:=fun n=>by
  rw[Nat.pow_succ,<-Nat.div_div_eq_div_mul];omega
 rw[e a,e b,h,he]
theorem lB (m m':Bool) (a b:Nat) (ha:az a<=549755813888) (hb:az b<=549755813888):ae Tryz.prog 81 [bF m a,bF m' b] (.p (.int .i64 (cF a b))) []:=by
 refine aW Tryz.func81 ?_
 refine SZ.mk (az a) qS ?_
 refine SZ.mk (az b) qS ?_
 by_cases hne:az a=az b
 ·refine ao.no (uQ qO) ?_
  refine SZ.mk (az a) qS ?_
  refine ai.bD ((az a:Int)-1) rfl qO ?_
  refine aJ.mk Nat (fun i=>([(0,.p (bF m a)),(1,.p (bF m' b)),(5,.p (.int .i64 ((i:Int)-1)))],[])) (fun i=>i<=az a/\a/4294967296^i=b/4294967296^i) id (az a) []
   ⟨Nat.le_refl _,by rw[Nat.div_eq_of_lt (cH a),hne,Nat.div_eq_of_lt (cH b)]⟩ aY ?_
  intro i ⟨h1,h2⟩
  by_cases h0:i=0
  ·refine bd ?_
   subst h0
   have:a=b:=by simpa using h2
   refine ab.pure ?_
   rw[show cF a b=0 by simp[cF,this]]
   exact .p _ (.int _ _)
  ·refine bo ?_
   obtain⟨i,rfl⟩:=Nat.exists_eq_succ_of_ne_zero h0
   refine gx ?_
   have e1:=bU a i
   have e2:=bU b i
   have q1:(nl a).length=az a:=rfl
   have q2:(nl b).length=az b:=rfl
   iterate 2 refine aq ?_
   refine ag (aF.lb i qO qO af) ?_
   iterate 3 refine aq ?_
   refine ag (aF.lb i qO qO af) ?_
   refine aq ?_
   generalize hx:(nl a).getD i 0=x at e1⊢
   generalize hy:(nl b).getD i 0=y at e2⊢
   by_cases hxy:x=y
   ·refine ag (ao.no (uQ qO) af) ?_
    refine kJ ((i:Int)-1) ?_
    exact⟨i,[],⟨qO,Aq h2 (by rw[<-e1,<-e2];exact hxy)⟩,Nat.lt_succ_self i,aY⟩
   ·refine ag (ao.yes (BA qO) af) ?_
    refine gx ?_
    iterate 2 refine aq ?_
    refine ag (aF.lb i qO qO af) ?_
    iterate 3 refine aq ?_
    refine ag (aF.lb i qO qO af) ?_
    refine aq ?_
    rw[hx,hy]
    by_cases hlt:x<y
    ·refine ag (ao.yes (decide_eq_true qO) af) ?_
     refine ab.pure ?_
     rw[show cF a b= -1 by simp[cF,pc h2 (by rw[<-e1,<-e2];exact hlt)]]
     exact .p _ (.int _ _)
    ·refine ag (ao.no (decide_eq_false qO) af) ?_
     refine ab.pure ?_
     have:b<a:=pc h2.symm (by rw[<-e1,<-e2];omega)
     rw[show cF a b=1 by simp[cF,show ¬a<b by omega,show a≠b by omega]]
     exact .p _ (.int _ _)
 ·refine ao.yes (BA qO) ?_
  refine SZ.mk (az a) qS ?_
  refine SZ.mk (az b) qS ?_
  by_cases hlt:az a<az b
  ·refine bo ?_
   refine ab.pure ?_
   rw[show cF a b= -1 by simp[cF,kM hlt]]
   exact .p _ (.int _ _)
  ·refine bd ?_
   refine ab.pure ?_
   have:b<a:=kM qO
   rw[show cF a b=1 by simp[cF,show ¬a<b by omega,show a≠b by omega]]
   exact .p _ (.int _ _)
theorem zV {p x y c t A B d:Nat} (hx:A/p%4294967296=x) (hy:B/p%4294967296=y) (h1:t+B%p=A%p+c*p) (h2:x+4294967296*(d/9223372036854775808)=d%4294967296+y+c):
  (t+p*(d%4294967296))+B%(p*4294967296)=A%(p*4294967296)+(d/9223372036854775808)*(p*4294967296):=by
 rw[Nat.mod_mul,Nat.mod_mul,hx,hy]
 grind
theorem tY (m m':Bool) (a b:Nat) (ha:az a<=549755813888) (hb:az b<=549755813888):
  ae Tryz.prog 107 [bF m a,bF m' b] (if b<=a then .bK [.p (cg (a-b)),.p (.int .i64 0)]else .bK [.p (cg 0),.p (.int .i64 1)]) []:=by
 refine aW Tryz.func107 ?_
 refine aa.pure (lB m m' a b ha hb) ?_
 by_cases hlt:a<b
 ·rw[if_neg qO,show cF a b= -1 by simp[cF,hlt]]
  refine ao.yes rfl ?_
  refine ab.pure ?_
  have:cg 0= .sl false 1 []:=by simp[dH]
  rw[this]
  exact .bK rfl fun i c d e1 e2=>by
   match i,e1,e2 with
   |0,e1,e2=>cases e1;cases e2;exact .emp _
   |1,e1,e2=>cases e1;cases e2;exact .p _ (.int _ _)
 ·rw[if_pos qO]
  refine ao.no (decide_eq_false (by simp only[cF];split;omega;split<;>omega)) ?_
  obtain⟨L,hL⟩:∃L,L=az a:=⟨_,rfl⟩
  refine SZ.mk L (by simp[hL]) ?_
  refine SZ.mk L rfl ?_
  refine cm.mk qS ?_
  refine cy.u32 L rfl qO ?_
  refine SZ.mk L rfl ?_
  refine aJ.mk (Nat×Nat×List Nat) (fun(i,c,out)=>([(0,.p (bF m a)),(1,.p (bF m' b)),(6,.vec 0 1 0 L),(7,.p (.int .u64 c)),(18,.p (.int .i64 L)),(19,.p (.int .i64 i))],[.vec 100 1 (bV out)]))
   (fun(i,c,out)=>i<=L/\c<=1/\out.length=L/\iR out/\nv (out.take i)+b%4294967296^i=a%4294967296^i+c*4294967296^i) (fun x=>L-x.1) (0,0,List.replicate L 0) [0]
   ⟨Nat.zero_le _,qS,qS,.replicate _,by simp[nv,Nat.mod_one]⟩
   (aY ⟨congrArg _ (bM L).symm,trivial⟩) ?_
  intro⟨i,c,out⟩ ⟨h1,h2,h3,h4,h5⟩
  by_cases hi:i<L
  ·refine bo ?_
   refine aa.pure (nL m (nl a) (cp a) i) ?_
   refine aa.pure (nL m' (nl b) (cp b) i) ?_
   rw[if_pos qO,if_pos qO,Int.toNat_natCast]
   have e1:=bU a i
   have e2:=bU b i
   have l1:(nl a).getD i 0<4294967296:=bC (cp a) i
   have l2:(nl b).getD i 0<4294967296:=bC (cp b) i
   generalize hx:(nl a).getD i 0=x at e1 l1⊢
   generalize hy:(nl b).getD i 0=y at e2 l2⊢
   refine ai.M3 ?_
   refine ai.Ed ((x+36893488147419103232-y-c)%18446744073709551616) qO ?_
   obtain⟨d,hd⟩:∃d,d=(x+36893488147419103232-y-c)%18446744073709551616:=⟨_,rfl⟩
   rw[<-hd]
   have hs:x+4294967296*(d/9223372036854775808)=d%4294967296+y+c:=qO
   have hc':d/9223372036854775808<=1:=qO
   refine ai.gS (d%4294967296) qO ?_
   refine aK.mk i rfl hi ?_
   refine cm.set qO ?_
   refine dp.set ?_
   refine A5 ?_
   refine a5 (i+1) ?_
   refine⟨(i+1,d/9223372036854775808,out.set i (d%4294967296)),[0],⟨hi,hc',by simpa using h3,h4.set (Nat.mod_lt _ qO),?_⟩,cA,aY⟩
   rw[dU qO,Nat.pow_succ]
   exact zV e1.symm e2.symm h5 hs
  ·refine bd ?_
   have hiL:i=L:=qO
   subst hiL
   have hba:az b<=az a:=dz qO
   rw[d5 a i qO,d5 b i qO,List.take_of_length_le qO]at h5
   have hc:c=0:=by
    rcases Nat.eq_zero_or_pos c with h|h
    ·exact h
    ·have h6:1*4294967296^i<=c*4294967296^i:=Nat.mul_le_mul_right _ h
     have h7:=zw h4
     rw[h3]at h7
     omega
   subst hc
   have hv:nv out=a-b:=qO
   refine bl.all (by simpa using h3.symm) ?_
   refine aa.pure (jT true out h4 qO) ?_
   rw[hv]
   refine ab.pure ?_
   exact .bK rfl fun i c d e1 e2=>by
    match i,e1,e2 with
    |0,e1,e2=>cases e1;cases e2;exact .p _ (.sl _ _ (aL _))
    |1,e1,e2=>cases e1;cases e2;exact .p _ (.int _ _)
theorem zK {t t' pi pk o c x y tot A:Nat} {Bm:Nat} (hset:t'+(pi*pk)*o=t+(pi*pk)*(tot%4294967296)) (h:t+c*(pi*pk)=A+x*pi*Bm) (ht:tot=c+(x*y+o)):
  t'+(tot/4294967296)*(pi*pk*4294967296)=A+x*pi*(Bm+pk*y):=by
 have hd:tot=tot%4294967296+4294967296*(tot/4294967296):=qO
 generalize tot/4294967296=q at hd⊢
 generalize tot%4294967296=r at hd hset
 have e:t'+q*(pi*pk*4294967296)+(pi*pk)*o=A+x*pi*(Bm+pk*y)+(pi*pk)*o:=by grind
 omega
theorem DS {a:Nat} (h:a<4294967296):a<=4294967295:=qO
theorem wE {x y:Nat} (hx:x<4294967296) (hy:y<4294967296):x*y<=18446744065119617025:=Nat.mul_le_mul (DS hx) (DS hy)
theorem f8 (m m':Bool) (a b:Nat) (ha:az a<=274877906944) (hb:az b<=274877906944):ae Tryz.prog 82 [bF m a,bF m' b] (.p (cg (a*b))) []:=by
 refine aW Tryz.func82 ?_
 obtain⟨la,hla⟩:∃L,L=az a:=⟨_,rfl⟩
 obtain⟨lb,hlb⟩:∃L,L=az b:=⟨_,rfl⟩
 have ha':(nl a).length=la:=hla.symm
 have hb':(nl b).length=lb:=hlb.symm
 refine SZ.mk la (by simp[hla]) ?_
 refine SZ.mk lb (by simp[hlb]) ?_
 refine a5 (la+lb) ?_
 refine SZ.mk ((la+lb:Nat):Int) rfl ?_
 refine cm.mk qS ?_
 refine cy.u32 (la+lb) rfl qO ?_
 refine SZ.mk la (by simp[hla]) ?_
 refine aJ.mk (Nat×List Nat) (fun(i,out)=>([(0,.p (bF m a)),(1,.p (bF m' b)),(5,.vec 0 1 0 (la+lb)),(16,.p (bF m a)),(17,.p (.int .i64 la)),(18,.p (.int .i64 i))],[.vec 100 1 (bV out)]))
  (fun(i,out)=>i<=la/\out.length=la+lb/\iR out/\nv (out.take (i+lb))=a%4294967296^i*b) (fun x=>la-x.1) (0,List.replicate (la+lb) 0) [0]
  ⟨Nat.zero_le _,qS,.replicate _,by simp[dV,Nat.mod_one]⟩
  (aY ⟨congrArg _ (bM _).symm,trivial⟩) ?_
 intro⟨i,out⟩ ⟨h1,h3,h4,h5⟩
 by_cases hi:i<la
 ·refine bo ?_
  refine aF.lb i rfl qO ?_
  have e1:=bU a i
  have l1:(nl a).getD i 0<4294967296:=bC (cp a) i
  generalize hx:(nl a).getD i 0=x at e1 l1⊢
  refine SZ.mk lb (by simp[hlb]) ?_
  refine aJ.mk (Nat×Nat×List Nat) (fun(k,c,out)=>([(0,.p (bF m a)),(1,.p (bF m' b)),(5,.vec 0 1 0 (la+lb)),(6,.p (.int .i64 i)),(7,.p (.int .u32 x)),(8,.p (.int .u64 c)),(16,.p (bF m a)),(17,.p (.int .i64 la)),(18,.p (.int .i64 i)),(24,.p (.int .i64 lb)),(25,.p (.int .i64 k))],[.vec 100 1 (bV out)]))
   (fun(k,c,out)=>k<=lb/\c<4294967296/\out.length=la+lb/\iR out/\nv (out.take (i+lb))+c*(4294967296^i*4294967296^k)=a%4294967296^i*b+x*4294967296^i*(b%4294967296^k)) (fun x=>lb-x.1) (0,0,out) [0]
   ⟨Nat.zero_le _,qS,h3,h4,by simp[h5,Nat.mod_one]⟩
   aY ?_
  intro⟨k,c,out⟩ ⟨g1,g2,g3,g4,g5⟩
  by_cases hk:k<lb
  ·refine bo ?_
   refine gx ?_
   have e2:=bU b k
   have l2:(nl b).getD k 0<4294967296:=bC (cp b) k
   have l3:out.getD (i+k) 0<4294967296:=bC g4 (i+k)
   iterate 2 refine aq ?_
   refine ag (ai.ed x rfl qO af) ?_
   iterate 2 refine aq ?_
   refine ag (aF.lb k rfl qO af) ?_
   iterate 1 refine aq ?_
   generalize hy:(nl b).getD k 0=y at e2 l2⊢
   have hxy:=wE l1 l2
   refine ag (ai.ed y rfl qO af) ?_
   refine ag (ai.ed (x*y) (Int.natCast_mul x y).symm qO af) ?_
   iterate 3 refine aq ?_
   refine ag (a5 (i+k) af) ?_
   refine ag (aK.mk (i+k) rfl qO af) ?_
   refine ag (aF.xf qO af) ?_
   generalize ho:out.getD (i+k) 0=o at l3⊢
   refine ag (ai.ed o rfl qO af) ?_
   refine ag (xt (x*y+o) af) ?_
   refine ag (xt (c+(x*y+o)) af) ?_
   refine aq ?_
   obtain⟨tot,htot⟩:∃tot,tot=c+(x*y+o):=⟨_,rfl⟩
   rw[<-htot]
   refine a5 (i+k) ?_
   refine ai.gS (tot%4294967296) qO ?_
   refine aK.mk (i+k) rfl qO ?_
   refine cm.set qO ?_
   refine dp.set ?_
   refine gZ ?_
   refine a5 (k+1) ?_
   refine⟨(k+1,tot/4294967296,out.set (i+k) (tot%4294967296)),[0],⟨hk,qO,by simpa using g3,g4.set (Nat.mod_lt _ qO),?_⟩,by show lb-(k+1)<lb-k;omega,
    aY⟩
   have hs:=jU (out.take (i+lb)) (i+k) (tot%4294967296) (by simp;omega)
   rw[<-List.take_set,show(out.take (i+lb)).getD (i+k) 0=o by rw[<-ho];simp[List.getD,show i+k<i+lb by omega],Nat.pow_add]at hs
   have hm:=zK hs g5 htot
   have hb2:b%4294967296^(k+1)=b%4294967296^k+4294967296^k*(b/4294967296^k%4294967296):=Nat.mod_pow_succ
   rw[hb2,<-e2,Nat.pow_succ,<-Nat.mul_assoc (4294967296^i)]
   exact hm
  ·refine bd ?_
   have hkl:k=lb:=qO
   subst hkl
   refine SZ.mk k (by simp[hb']) ?_
   refine a5 (i+k) ?_
   refine ai.gS c qO ?_
   refine aK.mk (i+k) rfl qO ?_
   refine cm.set qO ?_
   refine dp.set ?_
   refine a5 (i+1) ?_
   refine⟨(i+1,out.set (i+k) c),[0],⟨hi,by simpa using g3,g4.set g2,?_⟩,cA,aY⟩
   rw[show i+1+k=i+k+1 by omega,dU qO,Nat.pow_add,Nat.pow_succ,Nat.mod_mul,<-e1]
   rw[d5 b k qO]at g5
   grind
 ·refine bd ?_
  have hiL:i=la:=qO
  subst hiL
  rw[d5 a i qO,List.take_of_length_le qO]at h5
  refine bl.all (by simpa using h3.symm) ?_
  refine aa.pure (jT true out h4 qO) ?_
  rw[h5]
  exact ab.pure (.p _ (.sl _ _ (aL _)))
theorem Kt (b:ByteArray) (h:∀i:Fin 256,(b.data.getD i.val 0).toNat=bitLen i.val) (x:Nat) (hx:x<256):((b.data.getD x 0).toNat:Int)=(bitLen x:Int):=by rw[h ⟨x,hx⟩]
theorem ai.PC {e:Int} {K:Int->Prop} (z:Nat) (hz:e=z) (h:z<256) (hk:K z):ai .u8 e K:=.mk z (by rw[ox _ rfl,hz];exact Int.emod_eq_of_lt qO (by show(z:Int)<256;omega)) hk
theorem NS {a:Nat} {K:Int->Prop} (hk:K ((a/65536:Nat):Int)):DH 16 (SZ ((a:Int).fdiv (2^(min (16:Int).toNat (IntKind.bits .u32)))) K):=
 .mk qD (.mk _ (by
  show Int.fdiv (a:Int) 65536=_
  rw[Int.fdiv_eq_ediv_of_nonneg _ qD];omega) hk)
theorem Mp {a:Nat} {K:Int->Prop} (hk:K ((a/256:Nat):Int)):DH 8 (SZ ((a:Int).fdiv (2^(min (8:Int).toNat (IntKind.bits .u32)))) K):=
 .mk qD (.mk _ (by
  show Int.fdiv (a:Int) 256=_
  rw[Int.fdiv_eq_ediv_of_nonneg _ qD];omega) hk)
theorem yA (x:Nat) (hx:x<4294967296):ae Tryz.prog 171 [.int .u32 x] (.p (.int .i64 (bitLen x))) []:=by
 refine aW Tryz.func171 ?_
 have s16:65536<=x->bitLen x=16+bitLen (x/65536):=fun h=>bitLen_shift x 16 (by show x/65536≠0;omega)
 have s8:∀y,256<=y->bitLen y=8+bitLen (y/256):=fun y h=>bitLen_shift y 8 (by show y/256≠0;omega)
 have l8:∀y,y<256->bitLen y<=8:=fun y h=>bitLen_le8 y h
 by_cases h16:65536<=x
 ·refine bo ?_
  refine NS ?_
  by_cases h8:256<=x/65536
  ·refine bo ?_
   refine Mp ?_
   have hb:=l8 (x/65536/256) qO
   refine ai.bD 24 rfl qO ?_
   refine ai.PC (x/65536/256) rfl qO ?_
   refine aK.mk (x/65536/256) rfl (by show x/65536/256<256;omega) ?_
   refine SZ.mk (bitLen (x/65536/256)) (Kt _ (by decide+kernel) _ qO) ?_
   refine ai.bD (bitLen (x/65536/256)) rfl qO ?_
   refine ai.bD (bitLen x) (by rw[s16 h16,s8 _ h8];omega) (by rw[s16 h16,s8 _ h8];omega) ?_
   exact ab.pure (.p _ (.int _ _))
  ·refine bd ?_
   have hb:=l8 (x/65536) qO
   refine ai.PC (x/65536) rfl qO ?_
   refine aK.mk (x/65536) rfl (by show x/65536<256;omega) ?_
   refine SZ.mk (bitLen (x/65536)) (Kt _ (by decide+kernel) _ qO) ?_
   refine ai.bD (bitLen (x/65536)) rfl qO ?_
   refine ai.bD (bitLen x) (by rw[s16 h16];omega) (by rw[s16 h16];omega) ?_
   exact ab.pure (.p _ (.int _ _))
 ·refine bd ?_
  by_cases h8:256<=x
  ·refine bo ?_
   refine Mp ?_
   have hb:=l8 (x/256) qO
   refine ai.bD 8 rfl qO ?_
   refine ai.PC (x/256) rfl qO ?_
   refine aK.mk (x/256) rfl (by show x/256<256;omega) ?_
   refine SZ.mk (bitLen (x/256)) (Kt _ (by decide+kernel) _ qO) ?_
   refine ai.bD (bitLen (x/256)) rfl qO ?_
   refine ai.bD (bitLen x) (by rw[s8 _ h8];omega) (by rw[s8 _ h8];omega) ?_
   exact ab.pure (.p _ (.int _ _))
  ·refine bd ?_
   have hb:=l8 x qO
   refine ai.PC x rfl qO ?_
   refine aK.mk x rfl (by show x<256;omega) ?_
   refine SZ.mk (bitLen x) (Kt _ (by decide+kernel) _ qO) ?_
   refine ai.bD (bitLen x) rfl qO ?_
   refine kJ (bitLen x) ?_
   exact ab.pure (.p _ (.int _ _))
theorem KM (x:Nat) (hx:x<4294967296):ae Tryz.prog 157 [.int .u32 x] (.p (.int .i64 ((32-bitLen x:Nat):Int))) []:=by
 refine aW Tryz.func157 ?_
 have hb:bitLen x<=32:=by
  by_cases h0:x=0
  ·subst h0;decide
  ·have h1:=(bitLen_spec x).2 h0
   rcases Nat.lt_or_ge 32 (bitLen x)with h|h
   ·have:2^32<=2^(bitLen x-1):=Nat.pow_le_pow_right qO qO
    omega
   ·exact h
 refine aa.pure (yA x hx) ?_
 refine a5 (32-bitLen x) ?_
 exact ab.pure (.p _ (.int _ _))
theorem tr {a:Nat} {K:Int->Prop} (h:a<4294967296) (hk:K ((a*4294967296:Nat):Int)):DH 32 (ai .u64 ((a:Int)*2^(min (32:Int).toNat (IntKind.bits .u64))) K):=
 .mk qD (.ed (a*4294967296) (by show(a:Int)*4294967296=_;omega) qO hk)
theorem ye {a b q:Nat} {k:IntKind} {K:Int->Prop} (h:b≠0) (hq:q=a/b) (hw:k.wrap (q:Int)=(q:Int)) (hk:K (q:Int)):yk (b:Int) (ai k ((a:Int).tdiv b) K):=
 .mk qO (.mk _ (by rw[Int.tdiv_eq_ediv_of_nonneg qO,<-Int.natCast_ediv,<-hq];exact hw) hk)
theorem xy {a b r:Nat} {K:Int->Prop} (h:b≠0) (hr:r=a%b) (hk:K (r:Int)):yk (b:Int) (SZ ((a:Int).tmod b) K):=
 .mk qO (.mk _ (by rw[Int.tmod_eq_emod_of_nonneg qO,<-Int.natCast_emod,hr]) hk)
theorem qZ {n:Nat} (h:n<18446744073709551616):IntKind.u64.wrap (n:Int)=n:=by rw[ox _ rfl];exact Int.emod_eq_of_lt qO (by show(n:Int)<18446744073709551616;omega)
theorem iw {n:Nat} (h:n<18446744073709551616):(BitVec.ofInt 64 (n:Int)).toNat=n:=by
 rw[BitVec.toNat_ofInt];simp;omega
theorem L5 (l y:Nat) (hy:y<4294967296):l*4294967296|||y=l*4294967296+y:=by
 have:=Nat.two_pow_add_eq_or_of_lt (i:=32) hy l
 rw[Nat.mul_comm l]
 exact this.symm
theorem Iv {l y S:Nat} {K:Int->Prop} (hl:l<4294967296) (hy:y<4294967296) (hS:S=l*4294967296+y) (hk:K (S:Int)):
  ai .u64 (((BitVec.ofInt (IntKind.bits .u64) ((l*4294967296:Nat):Int)|||BitVec.ofInt (IntKind.bits .u64) (y:Int)).toNat:Nat):Int) K:=by
 subst hS
 refine .ed (l*4294967296+y) ?_ qO hk
 show(((BitVec.ofInt 64 ((l*4294967296:Nat):Int)|||BitVec.ofInt 64 (y:Int)).toNat:Nat):Int)=_
 rw[BitVec.toNat_or,iw qO,iw qO,L5 l y hy]
theorem Bj {A d i Q l x:Nat} (hd:0<d) (hx:A/4294967296^i%4294967296=x) (h:A/4294967296^(i+1)=Q*d+l):
  A/4294967296^i=(Q*4294967296+(l*4294967296+x)/d)*d+(l*4294967296+x)%d:=by
 have e:A/4294967296^i=A/4294967296^(i+1)*4294967296+A/4294967296^i%4294967296:=by
  rw[Nat.pow_succ,<-Nat.div_div_eq_div_mul];omega
 rw[e,h,hx]
 have:=Nat.div_add_mod (l*4294967296+x) d
 generalize(l*4294967296+x)/d=q at*
 generalize(l*4294967296+x)%d=r at*
 grind
theorem aa.aO {P:Program} {wr:Bool} {f:FuncId} {L:Hd->aA} {base:Nat} {K:AV->List (Hd×aA)->Prop} {pvs:List PV} {r:AV} (hc:ae P f pvs r []) (hr:∀ρ,r.dm ρ=r) (hk:K r []) {raw:List AV}:aa P wr f raw (pvs.map .p) L base K:=
 .mk [] (pvs.map .p) r [] [] (fun _=>rfl) .nil (fun _ h=>by simp at h) (by rw[AV.bP,List.map_map];exact List.map_congr_left fun _ _=>rfl) rfl (fun i h B e=>by simp at e) (fun _ h=>by simp at h) (fun _ h=>by simp at h) (Nat.zero_le _) (fun _ h=>by simp at h)
  (fun a ha k hk=>by obtain⟨v,_,rfl⟩:=List.mem_map.1 ha;simp only[AV.aT]at hk) hc (by rw[hr];exact hk)
theorem Ij (m:Bool) (a d:Nat) (ha:az a<=549755813888) (hd:0<d) (hd':d<4294967296):
  ae Tryz.prog 156 [bF m a,.int .u32 d] (.bK [.p (cg (a/d)),.p (.int .u32 ((a%d:Nat):Int))]) []:=by
 refine aW Tryz.func156 ?_
 obtain⟨L,hL⟩:∃L,L=az a:=⟨_,rfl⟩
 have hL':(nl a).length=L:=hL.symm
 refine SZ.mk L (by simp[hL]) ?_
 refine SZ.mk L rfl ?_
 refine cm.mk qS ?_
 refine cy.u32 L rfl qO ?_
 refine SZ.mk L (by simp[hL]) ?_
 refine ai.bD ((L:Int)-1) rfl qO ?_
 refine aJ.mk (Nat×Nat×List Nat) (fun(i,l,out)=>([(0,.p (bF m a)),(1,.p (.int .u32 d)),(6,.vec 0 1 0 L),(7,.p (.int .u64 l)),(8,.p (.int .i64 ((i:Int)-1)))],[.vec 100 1 (bV out)]))
  (fun(i,l,out)=>i<=L/\l<d/\out.length=L/\iR out/\∃Q,nv out=Q*4294967296^i/\a/4294967296^i=Q*d+l) (fun x=>x.1) (L,0,List.replicate L 0) [0]
  ⟨Nat.le_refl _,hd,qS,.replicate _,0,by simp[dV],by rw[hL,Nat.div_eq_of_lt (cH a)];simp⟩
  (aY ⟨congrArg _ (bM L).symm,trivial⟩) ?_
 intro⟨i,l,out⟩ ⟨h1,h2,h3,h4,Q,h5,h6⟩
 by_cases hi:i=0
 ·subst hi
  refine bd ?_
  have hm:=Nat.div_mod_unique hd|>.2 (⟨by rw[Nat.pow_zero,Nat.div_one]at h6;rw[h6];grind,h2⟩:l+d*Q=a/\l<d)
  have hv:nv out=a/d:=by rw[hm.1,h5];simp
  refine bl.all (by simpa using h3.symm) ?_
  refine aa.pure (jT true out h4 qO) ?_
  refine ai.gS (a%d) (by rw[hm.2];omega) ?_
  rw[hv]
  refine ab.pure ?_
  exact .bK rfl fun i c d e1 e2=>by
   match i,e1,e2 with
   |0,e1,e2=>cases e1;cases e2;exact .p _ (.sl _ _ (aL _))
   |1,e1,e2=>cases e1;cases e2;exact .p _ (.int _ _)
 ·obtain⟨i,rfl⟩:=Nat.exists_eq_succ_of_ne_zero hi
  refine bo ?_
  have e1:=bU a i
  have l1:(nl a).getD i 0<4294967296:=bC (cp a) i
  refine tr qO ?_
  refine aF.lb i qO qO ?_
  generalize hx:(nl a).getD i 0=x at e1 l1⊢
  refine ai.ed x rfl qO ?_
  obtain⟨S,hS⟩:∃S,S=l*4294967296+x:=⟨_,rfl⟩
  refine Iv qO l1 hS ?_
  have hq:(l*4294967296+x)/d<4294967296:=by
   rw[Nat.div_lt_iff_lt_mul hd]
   have:(l+1)*4294967296<=d*4294967296:=Nat.mul_le_mul_right _ h2
   rw[Nat.mul_comm 4294967296]
   omega
  have hr:(l*4294967296+x)%d<d:=Nat.mod_lt _ hd
  refine ai.ed d rfl qO ?_
  have hss:=Bj hd e1.symm h6
  rw[<-hS]at hq hr hss
  obtain⟨q,hq'⟩:∃q,q=S/d:=⟨_,rfl⟩
  obtain⟨r,hr'⟩:∃r,r=S%d:=⟨_,rfl⟩
  rw[<-hq']at hq hss
  rw[<-hr']at hr hss
  refine ye qO hq' (qZ qO) ?_
  refine ai.gS q qO ?_
  refine aK.mk i qO qO ?_
  refine cm.set qO ?_
  refine dp.set ?_
  refine ai.ed d rfl qO ?_
  refine xy qO hr' ?_
  refine kJ ((i:Int)-1) ?_
  refine⟨(i,r,out.set i q),[0],⟨qO,hr,by simpa using h3,h4.set hq,Q*4294967296+q,?_,hss⟩,Nat.lt_succ_self i,aY⟩
  have hs:=jU out i q qO
  have hz:out.getD i 0=0:=by
   rw[ja h4,h5,Nat.pow_succ,Nat.mul_comm (4294967296^i),<-Nat.mul_assoc,Nat.mul_div_cancel _ (bX i),Nat.mul_mod_left]
  rw[hz,Nat.mul_zero,Nat.add_zero,h5,Nat.pow_succ]at hs
  rw[hs]
  grind
theorem mK {s:Nat} (h:s<=32):2^s*2^(32-s)=4294967296:=by rw[<-Nat.pow_add,show s+(32-s)=32 by omega]
theorem mL {A D C:Nat} (hD:0<D) (hDC:D*C=4294967296):A*D%4294967296=(A%4294967296%C)*D:=by
 rw[<-hDC,Nat.mul_comm A,Nat.mul_mod_mul_left,Nat.mod_mul_left_mod,Nat.mul_comm]
theorem Gd {A D C p:Nat} (hp:0<p) (hD:0<D) (hDC:D*C=4294967296):
  A*D/(p*4294967296)%4294967296=(A/(p*4294967296)%4294967296%C)*D+(A/p%4294967296)/C:=by
 have hC:0<C:=by rcases Nat.eq_zero_or_pos C with h|h;subst h;simp at hDC;exact h
 rw[<-Nat.div_div_eq_div_mul,<-Nat.div_div_eq_div_mul]
 have e1:A*D/p=A/p*D+(A%p)*D/p:=by
  have:=Nat.div_add_mod A p
  calc A*D/p=((p*(A/p)+A%p)*D)/p:=by rw[this]
   _=(A%p*D+p*(A/p*D))/p:=by congr 1;grind
   _=A%p*D/p+A/p*D:=Nat.add_mul_div_left _ _ hp
   _=_:=Nat.add_comm _ _
 have he:(A%p)*D/p<D:=by
  rw[Nat.div_lt_iff_lt_mul hp,Nat.mul_comm D]
  exact Nat.mul_lt_mul_of_pos_right (Nat.mod_lt _ hp) hD
 rw[e1]
 generalize A/p=a
 generalize(A%p)*D/p=e at he
 have e2:(a*D+e)/4294967296=a/C:=by
  rw[<-hDC,<-Nat.div_div_eq_div_mul,Nat.mul_comm a,Nat.mul_add_div hD,Nat.div_eq_of_lt he,Nat.add_zero]
 rw[e2]
 have h1:=Nat.div_add_mod a 4294967296
 have hy:a%4294967296<4294967296:=Nat.mod_lt _ qO
 have e3:a/C=a/4294967296*D+a%4294967296/C:=by
  conv=>lhs;rw[<-h1,<-hDC]
  rw[show D*C*(a/(D*C))+a%(D*C)=a%(D*C)+C*(a/(D*C)*D) by grind,Nat.add_mul_div_left _ _ hC,Nat.add_comm,hDC]
 rw[e3]
 have hsm:a%4294967296/C<D:=by
  rw[Nat.div_lt_iff_lt_mul hC,hDC];exact hy
 generalize a%4294967296/C=t at hsm
 generalize a/4294967296=h
 rw[Nat.add_mod,mL hD hDC]
 have hle:(h%4294967296%C)*D+D<=4294967296:=by
  have:h%4294967296%C+1<=C:=Nat.mod_lt _ hC
  have:=Nat.mul_le_mul_right D this
  rw[Nat.add_mul,Nat.one_mul,Nat.mul_comm C,hDC]at this
  exact this
 rw[Nat.mod_eq_of_lt (show t<4294967296 by omega),Nat.mod_eq_of_lt qO]
theorem yG {A D C:Nat} (hD:0<D) (hDC:D*C=4294967296) (p:Nat):A/D/p%4294967296=(A/p%4294967296+4294967296*(A/(p*4294967296)%4294967296))/D%4294967296:=by
 rw[Nat.div_div_eq_div_mul,Nat.mul_comm D,<-Nat.div_div_eq_div_mul,<-Nat.div_div_eq_div_mul A p]
 generalize A/p=a
 have h1:a=(a%4294967296+4294967296*(a/4294967296%4294967296))+D*(C*(4294967296*(a/4294967296/4294967296))):=by
  rw[<-Nat.mul_assoc D,hDC];omega
 generalize hq:a%4294967296+4294967296*(a/4294967296%4294967296)=q at*
 generalize a/4294967296/4294967296=h at*
 rw[h1,Nat.add_mul_div_left _ _ hD,show C*(4294967296*h)=4294967296*(C*h) by grind,Nat.add_mul_mod_self_left]
theorem H5 {a s v:Nat} {K:Int->Prop} (hs:s<32) (ha:a<4294967296) (hv:v=a*2^s) (hk:K (v:Int)):DH (s:Int) (ai .u64 ((a:Int)*2^(min (s:Int).toNat (IntKind.bits .u64))) K):=by
 have hm:min (s:Int).toNat (IntKind.bits .u64)=s:=by rw[Int.toNat_natCast];exact Nat.min_eq_left (by show s<=64;omega)
 rw[hm]
 refine .mk qO (.ed v (by rw[hv];simp) ?_ hk)
 have h1:2^s<=2^31:=Nat.pow_le_pow_right qO qO
 have:a*2^s<=4294967295*2^31:=Nat.mul_le_mul qO h1
 omega
theorem LO {a s v:Nat} {K:Int->Prop} (hs:s<32) (hv:v=a/2^s) (hk:K (v:Int)):DH (s:Int) (SZ ((a:Int).fdiv (2^(min (s:Int).toNat (IntKind.bits .u64)))) K):=by
 have hm:min (s:Int).toNat (IntKind.bits .u64)=s:=by rw[Int.toNat_natCast];exact Nat.min_eq_left (by show s<=64;omega)
 rw[hm]
 refine .mk qO (.mk _ ?_ hk)
 rw[hv,Int.fdiv_eq_ediv_of_nonneg _ (Int.le_of_lt (Int.pow_pos qD))]
 simp
theorem iz {n:Nat} (h:n<4294967296):(BitVec.ofInt 32 (n:Int)).toNat=n:=by
 rw[BitVec.toNat_ofInt];simp;omega
theorem Pj {q s r v:Nat} {K:Int->Prop} (hx:q*2^s<4294967296) (hr:r<2^s) (hr':r<4294967296) (hv:v=q*2^s+r) (hv':v<4294967296) (hk:K (v:Int)):
  ai .u32 (((BitVec.ofInt (IntKind.bits .u32) ((q*2^s:Nat):Int)|||BitVec.ofInt (IntKind.bits .u32) (r:Int)).toNat:Nat):Int) K:=by
 refine .gS v ?_ hk
 show(((BitVec.ofInt 32 ((q*2^s:Nat):Int)|||BitVec.ofInt 32 (r:Int)).toNat:Nat):Int)%4294967296=_
 rw[BitVec.toNat_or,iz hx,iz hr',Nat.mul_comm,<-Nat.two_pow_add_eq_or_of_lt hr,Nat.mul_comm,<-hv]
 omega
theorem pT (a k:Nat):az (a*2^k)<=az a+k/32+1:=fX (by
 have h1:=cH a
 have h2:2^k<4294967296^(k/32+1):=by
  rw[show(4294967296:Nat)=2^32 by decide,<-Nat.pow_mul]
  exact Nat.pow_lt_pow_right qO qO
 rw[Nat.add_assoc,Nat.pow_add]
 exact Nat.mul_lt_mul'' h1 h2)
theorem BM (m:Bool) (a k:Nat) (ha:az a<=274877906944) (hk:k<=1048576):ae Tryz.prog 112 [bF m a,.int .i64 k] (.p (cg (a*2^k))) []:=by
 refine aW Tryz.func112 ?_
 refine bd ?_
 refine bd ?_
 obtain⟨n,hn⟩:∃n,n=k/32:=⟨_,rfl⟩
 obtain⟨s,hs⟩:∃s,s=k%32:=⟨_,rfl⟩
 have hs':s<32:=qO
 have hk2:2^k=4294967296^n*2^s:=by
  rw[show(4294967296:Nat)=2^32 by decide,<-Nat.pow_mul,<-Nat.pow_add];congr 1;omega
 refine ye (b:=32) qO hn (by rw[IntKind.wrap_i64];omega) ?_
 refine xy (b:=32) qO hs ?_
 obtain⟨L,hL⟩:∃L,L=az a+n+1:=⟨_,rfl⟩
 refine SZ.mk (az a) qS ?_
 refine a5 (az a+n) ?_
 refine kJ (L:Int) ?_
 refine SZ.mk L rfl ?_
 refine cm.mk qS ?_
 refine cy.u32 L rfl qO ?_
 refine SZ.mk L rfl ?_
 have hD:0<2^s:=Nat.two_pow_pos s
 have hC:0<2^(32-s):=Nat.two_pow_pos _
 have hDC:=mK (s:=s) qO
 refine aJ.mk (Nat×List Nat) (fun(i,out)=>([(0,.p (bF m a)),(1,.p (.int .i64 s)),(5,.p (.int .i64 n)),(6,.vec 0 1 0 L),(28,.p (.int .i64 L)),(29,.p (.int .i64 i))],[.vec 100 1 (bV out)]))
  (fun(i,out)=>i<=L/\out.length=L/\iR out/\nv (out.take i)=a*2^k%4294967296^i) (fun x=>L-x.1) (0,List.replicate L 0) [0]
  ⟨Nat.zero_le _,qS,.replicate _,by simp[nv,Nat.mod_one]⟩
  (aY ⟨congrArg _ (bM L).symm,trivial⟩) ?_
 intro⟨i,out⟩ ⟨h1,h3,h4,h5⟩
 by_cases hi:i<L
 ·refine bo ?_
  refine ai.bD ((i:Int)-n) rfl qO ?_
  refine gx ?_
  obtain⟨x,hx⟩:∃x:Nat,x=if(n:Int)<=i then(nl a).getD (i-n) 0 else 0:=⟨_,rfl⟩
  obtain⟨y,hy⟩:∃y:Nat,y=if(n:Int)+1<=i then(nl a).getD (i-n-1) 0 else 0:=⟨_,rfl⟩
  have lx:x<4294967296:=by rw[hx];split;exact bC (cp a) _;omega
  have ly:y<4294967296:=by rw[hy];split;exact bC (cp a) _;omega
  have hlimb:a*2^k/4294967296^i%4294967296=(x%2^(32-s))*2^s+y/2^(32-s):=by
   rw[hk2,<-Nat.mul_assoc]
   rcases Nat.lt_trichotomy i n with hlt|heq|hgt
   ·rw[hx,hy,if_neg qO,if_neg qO]
    obtain⟨t,rfl⟩:∃t,n=i+(t+1):=⟨n-i-1,qO⟩
    rw[Nat.pow_add,show a*(4294967296^i*4294967296^(t+1))*2^s=4294967296^i*(a*4294967296^(t+1)*2^s) by grind,Nat.mul_div_cancel_left _ (bX i),Nat.pow_succ,
     show a*(4294967296^t*4294967296)*2^s=4294967296*(a*4294967296^t*2^s) by grind,Nat.mul_mod_right]
    simp
   ·subst heq
    rw[hx,hy,if_pos qO,if_neg qO,bU,show i-i=0 by omega,Nat.pow_zero,Nat.div_one,Nat.zero_div,Nat.add_zero,
     show a*4294967296^i*2^s=4294967296^i*(a*2^s) by grind,Nat.mul_div_cancel_left _ (bX i)]
    exact mL hD hDC
   ·obtain⟨t,rfl⟩:∃t,i=n+(t+1):=⟨i-n-1,qO⟩
    rw[hx,hy,if_pos qO,if_pos qO,bU,bU,show n+(t+1)-n=t+1 by omega,show t+1-1=t by omega,
     Nat.pow_add,show a*4294967296^n*2^s=4294967296^n*(a*2^s) by grind,Nat.mul_div_mul_left _ _ (bX n),Nat.pow_succ]
    exact Gd (bX t) hD hDC
  iterate 4 refine aq ?_
  refine ag (aa.pure (nL m (nl a) (cp a) ((i:Int)-n)) af) ?_
  rw[show(if 0<=(i:Int)-n then(((nl a).getD ((i:Int)-n).toNat 0:Nat):Int)else 0)=(x:Int) by
   rw[hx];by_cases h:(n:Int)<=i
   ·rw[if_pos qO,if_pos h,show((i:Int)-n).toNat=i-n by omega]
   ·rw[if_neg qO,if_neg h];rfl]
  iterate 1 refine aq ?_
  refine ag (H5 (v:=x*2^s) hs' lx rfl af) ?_
  refine e9.mk _ _ (ai.gS (x%2^(32-s)*2^s) (by
   have:=mL (A:=x) hD hDC
   rw[Nat.mod_eq_of_lt lx]at this
   rw[<-this];omega) (And.intro rfl rfl)) rfl ?_
  iterate 2 refine aq ?_
  refine ag (ai.bD ((i:Int)-n-1) rfl qO af) ?_
  refine ag (aa.pure (nL m (nl a) (cp a) ((i:Int)-n-1)) af) ?_
  rw[show(if 0<=(i:Int)-n-1 then(((nl a).getD ((i:Int)-n-1).toNat 0:Nat):Int)else 0)=(y:Int) by
   rw[hy];by_cases h:(n:Int)+1<=i
   ·rw[if_pos qO,if_pos h,show((i:Int)-n-1).toNat=i-n-1 by omega]
   ·rw[if_neg qO,if_neg h];rfl]
  iterate 1 refine aq ?_
  refine ag (H5 (v:=y*2^s) hs' ly rfl af) ?_
  refine ag (gZ af) ?_
  have hyC:y*2^s/4294967296=y/2^(32-s):=by rw[<-hDC,Nat.mul_comm y,Nat.mul_div_mul_left _ _ hD]
  have hyD:y/2^(32-s)<2^s:=by rw[Nat.div_lt_iff_lt_mul hC,hDC];exact ly
  have hDB:2^s<=2147483648:=Nat.le_trans (Nat.pow_le_pow_right qO (show s<=31 by omega)) qD
  have hxl:x%2^(32-s)*2^s+2^s<=4294967296:=by
   have:x%2^(32-s)+1<=2^(32-s):=Nat.mod_lt _ hC
   have:=Nat.mul_le_mul_right (2^s) this
   rw[Nat.add_mul,Nat.one_mul,Nat.mul_comm (2^(32-s)),hDC]at this
   exact this
  rw[hyC]
  obtain⟨r,hr⟩:∃r,r=y/2^(32-s):=⟨_,rfl⟩
  rw[<-hr]at hyD hlimb⊢
  refine ag (ai.gS r qO af) ?_
  refine ag (Pj qO hyD qO hlimb (by rw[hlimb];omega) af) ?_
  refine ag (aK.mk i rfl hi af) ?_
  refine ag (cm.set qO (dp.set af)) ?_
  refine a5 (i+1) ?_
  refine⟨(i+1,out.set i (a*2^k/4294967296^i%4294967296)),[0],⟨hi,by simpa using h3,h4.set (Nat.mod_lt _ qO),?_⟩,cA,aY⟩
  rw[dU qO,h5]
  exact Nat.mod_pow_succ.symm
 ·refine bd ?_
  have hiL:i=L:=qO
  subst hiL
  rw[d5 _ i (by have:=pT a k;omega),List.take_of_length_le qO]at h5
  refine bl.all (by simpa using h3.symm) ?_
  refine aa.pure (jT true out h4 qO) ?_
  rw[h5]
  exact ab.pure (.p _ (.sl _ _ (aL _)))
theorem GC {x y S:Nat} {K:Int->Prop} (hx:x<4294967296) (hy:y<4294967296) (hS:S=x+4294967296*y) (hk:K (S:Int)):
  ai .u64 (((BitVec.ofInt (IntKind.bits .u64) (x:Int)|||BitVec.ofInt (IntKind.bits .u64) ((y*4294967296:Nat):Int)).toNat:Nat):Int) K:=by
 refine .ed S ?_ qO hk
 show(((BitVec.ofInt 64 (x:Int)|||BitVec.ofInt 64 ((y*4294967296:Nat):Int)).toNat:Nat):Int)=_
 rw[BitVec.toNat_or,iw qO,iw qO,Nat.or_comm,L5 y x hx]
 omega
theorem F7 (m:Bool) (a k:Nat) (ha:az a<=274877906944) (hk:k<=1048576):ae Tryz.prog 161 [bF m a,.int .i64 k] (.p (cg (a/2^k))) []:=by
 refine aW Tryz.func161 ?_
 refine bd ?_
 refine bd ?_
 obtain⟨n,hn⟩:∃n,n=k/32:=⟨_,rfl⟩
 obtain⟨s,hs⟩:∃s,s=k%32:=⟨_,rfl⟩
 have hs':s<32:=qO
 have hk2:2^k=4294967296^n*2^s:=by
  rw[show(4294967296:Nat)=2^32 by decide,<-Nat.pow_mul,<-Nat.pow_add];congr 1;omega
 refine ye (b:=32) qO hn (by rw[IntKind.wrap_i64];omega) ?_
 refine xy (b:=32) qO hs ?_
 obtain⟨L,hL⟩:∃L,L=az a-n:=⟨_,rfl⟩
 refine SZ.mk (az a) qS ?_
 refine ai.bD ((az a:Int)-n) rfl qO ?_
 refine SZ.mk (L:Int) (by show(if(0:Int)>(az a:Int)-n then(0:Int)else(az a:Int)-n)=_;split<;>omega) ?_
 refine SZ.mk L rfl ?_
 refine cm.mk qS ?_
 refine cy.u32 L rfl qO ?_
 refine SZ.mk L rfl ?_
 have hD:0<2^s:=Nat.two_pow_pos s
 have hDC:=mK (s:=s) qO
 refine aJ.mk (Nat×List Nat) (fun(i,out)=>([(0,.p (bF m a)),(1,.p (.int .i64 s)),(5,.p (.int .i64 n)),(6,.vec 0 1 0 L),(27,.p (.int .i64 L)),(28,.p (.int .i64 i))],[.vec 100 1 (bV out)]))
  (fun(i,out)=>i<=L/\out.length=L/\iR out/\nv (out.take i)=a/2^k%4294967296^i) (fun x=>L-x.1) (0,List.replicate L 0) [0]
  ⟨Nat.zero_le _,qS,.replicate _,by simp[nv,Nat.mod_one]⟩
  (aY ⟨congrArg _ (bM L).symm,trivial⟩) ?_
 intro⟨i,out⟩ ⟨h1,h3,h4,h5⟩
 by_cases hi:i<L
 ·refine bo ?_
  refine a5 (i+n) ?_
  refine aa.pure (nL m (nl a) (cp a) ((i+n:Nat):Int)) ?_
  refine a5 (i+n) ?_
  refine a5 (i+n+1) ?_
  refine aa.pure (nL m (nl a) (cp a) ((i+n+1:Nat):Int)) ?_
  rw[if_pos qO,if_pos qO,Int.toNat_natCast,Int.toNat_natCast]
  obtain⟨x,hx⟩:∃x:Nat,x=(nl a).getD (i+n) 0:=⟨_,rfl⟩
  obtain⟨y,hy⟩:∃y:Nat,y=(nl a).getD (i+n+1) 0:=⟨_,rfl⟩
  have lx:x<4294967296:=by rw[hx];exact bC (cp a) _
  have ly:y<4294967296:=by rw[hy];exact bC (cp a) _
  rw[<-hx,<-hy]
  refine tr ly ?_
  obtain⟨S,hS⟩:∃S,S=x+4294967296*y:=⟨_,rfl⟩
  refine GC lx ly hS ?_
  obtain⟨v,hv⟩:∃v,v=S/2^s:=⟨_,rfl⟩
  refine LO hs' hv ?_
  have hlimb:a/2^k/4294967296^i%4294967296=v%4294967296:=by
   rw[hv,hS,hx,hy,bU,bU,hk2,<-Nat.div_div_eq_div_mul,yG hD hDC]
   rw[Nat.div_div_eq_div_mul,Nat.div_div_eq_div_mul,Nat.add_comm i n,Nat.add_assoc,Nat.pow_add,Nat.pow_add,Nat.pow_succ]
  refine ai.gS (v%4294967296) qO ?_
  refine aK.mk i rfl hi ?_
  refine cm.set qO ?_
  refine dp.set ?_
  refine a5 (i+1) ?_
  refine⟨(i+1,out.set i (v%4294967296)),[0],⟨hi,by simpa using h3,h4.set (Nat.mod_lt _ qO),?_⟩,cA,aY⟩
  rw[dU qO,h5,<-hlimb]
  exact Nat.mod_pow_succ.symm
 ·refine bd ?_
  have hiL:i=L:=qO
  subst hiL
  have hlt:a/2^k<4294967296^i:=by
   rw[hk2,<-Nat.div_div_eq_div_mul]
   refine Nat.lt_of_le_of_lt (Nat.div_le_self _ _) ?_
   rw[Nat.div_lt_iff_lt_mul (bX n),<-Nat.pow_add]
   exact Nat.lt_of_lt_of_le (cH a) (Nat.pow_le_pow_right qO qO)
  rw[Nat.mod_eq_of_lt hlt,List.take_of_length_le qO]at h5
  refine bl.all (by simpa using h3.symm) ?_
  refine aa.pure (jT true out h4 qO) ?_
  rw[h5]
  exact ab.pure (.p _ (.sl _ _ (aL _)))
theorem IE {W v p top u3 v1 v2 q r:Nat} (hp:0<p) (hW3:W/p=top*4294967296+u3) (hV2:v/p=v1*4294967296+v2) (htop:top=q*v1+r) (h:r*4294967296+u3<q*v2):W<q*v:=by
 have h1:W/p+1<=q*(v/p):=by
  rw[hW3,hV2,htop]
  have:(q*v1+r)*4294967296+u3+1<=q*(v1*4294967296+v2):=by
   have e:q*(v1*4294967296+v2)=q*v1*4294967296+q*v2:=by grind
   rw[e,Nat.add_mul];omega
  exact this
 have h2:=Nat.mul_le_mul_right p h1
 have h3:W<(W/p+1)*p:=by
  rw[Nat.add_mul,Nat.one_mul,Nat.mul_comm]
  have:=Nat.div_add_mod W p
  have:=Nat.mod_lt W hp
  omega
 have h4:q*(v/p)*p<=q*v:=by
  rw[Nat.mul_assoc];exact Nat.mul_le_mul_left _ (Nat.div_mul_le_self v p)
 omega
theorem AF {W v p top u3 v1 v2 q r:Nat} (hp:0<p) (hW3:W/p=top*4294967296+u3) (hV2:v/p=v1*4294967296+v2) (hv1:0<v1) (htop:top=q*v1+r) (hq:q<4294967296) (h:q*v2<=r*4294967296+u3):(q-1)*v<=W:=by
 rcases Nat.eq_zero_or_pos q with h0|h0
 ·subst h0;simp
 have h1:q*(v/p)<=W/p:=by
  rw[hW3,hV2,htop]
  have e:q*(v1*4294967296+v2)=q*v1*4294967296+q*v2:=by grind
  rw[e,Nat.add_mul];omega
 have hV:4294967296<=v/p:=by rw[hV2];omega
 have h2:(q-1)*(v/p+1)<=W/p:=by
  obtain⟨t,rfl⟩:∃t,q=t+1:=⟨q-1,qO⟩
  rw[Nat.add_sub_cancel,Nat.mul_add]
  rw[Nat.add_mul]at h1
  omega
 have h3:v<=(v/p+1)*p:=by
  rw[Nat.add_mul,Nat.one_mul,Nat.mul_comm]
  have:=Nat.div_add_mod v p
  have:=Nat.mod_lt v hp
  omega
 calc (q-1)*v<=(q-1)*((v/p+1)*p):=Nat.mul_le_mul_left _ h3
  _=(q-1)*(v/p+1)*p:=(Nat.mul_assoc _ _ _).symm
  _<=W/p*p:=Nat.mul_le_mul_right p h2
  _<=W:=Nat.div_mul_le_self W p
structure LJ (W v q:Nat):Prop where
 lt:q<4294967296
 lo:W<(q+1)*v
 hi:(q-1)*v<=W
def gl (v1 v2 u3:Nat):Nat->Nat->Nat
 |0,_=>0
 |q+1,r=>if 4294967296<=q+1\/r*4294967296+u3<(q+1)*v2 then(if 4294967296<=r+v1 then q else gl v1 v2 u3 q (r+v1))else q+1
theorem JW {W v p top u3 v1 v2:Nat} (hp:0<p) (hW3:W/p=top*4294967296+u3) (hV2:v/p=v1*4294967296+v2) (hv1:0<v1) (hv2:v2<4294967296) (hWv:W<v*4294967296) (hb:top<(v1+1)*4294967296):
  ∀q r,top=q*v1+r->r<4294967296->W<(q+1)*v->LJ W v (gl v1 v2 u3 q r):=by
 intro q
 induction q with
 |zero=>
  intro r h1 h2 h3
  simp only[gl]
  exact⟨qO,h3,qS⟩
 |succ q ih=>
  intro r h1 h2 h3
  simp only[gl]
  by_cases hc:4294967296<=q+1\/r*4294967296+u3<(q+1)*v2
  ·rw[if_pos hc]
   have hlo:W<(q+1)*v:=by
    rcases hc with hc|hc
    ·refine Nat.lt_of_lt_of_le hWv ?_
     rw[Nat.mul_comm];exact Nat.mul_le_mul_right v hc
    ·exact IE hp hW3 hV2 h1 hc
   have h1':top=q*v1+(r+v1):=by rw[h1,Nat.add_mul];omega
   by_cases hr:4294967296<=r+v1
   ·rw[if_pos hr]
    have hq:q<4294967296:=by
     rcases Nat.lt_or_ge q 4294967296 with h|h
     ·exact h
     ·have:=Nat.mul_le_mul_right v1 h
      rw[Nat.add_mul]at hb
      omega
    refine⟨hq,hlo,AF hp hW3 hV2 hv1 h1' hq ?_⟩
    have a1:q*v2<=4294967295*4294967295:=Nat.mul_le_mul qO qO
    have a2:=Nat.mul_le_mul_right 4294967296 hr
    omega
   ·rw[if_neg hr]
    exact ih (r+v1) h1' qO hlo
  ·rw[if_neg hc]
   have hc1:q+1<4294967296:=qO
   have hc2:(q+1)*v2<=r*4294967296+u3:=qO
   exact⟨hc1,h3,AF hp hW3 hV2 hv1 h1 hc1 hc2⟩
theorem GG (m m':Bool) (us:List Nat) (v k n:Nat) (hus:iR us) (hn:az v=n) (hn2:2<=n) (hk:k+n+1<=us.length) (hlen:us.length<=549755813888) (hlt:nv us<v*4294967296^(k+1)) (hwin:nv us<4294967296^(k+n+1)):
  ∃q,LJ (nv us/4294967296^k) v q/\ae Tryz.prog 158 [.sl m 1 (bV us),bF m' v,.int .i64 k] (.p (.int .u64 q)) []:=by
 obtain⟨W,hWd⟩:∃W,W=nv us/4294967296^k:=⟨_,rfl⟩
 obtain⟨t,rfl⟩:∃t,n=t+2:=⟨n-2,qO⟩
 have hW:W<v*4294967296:=by
  rw[hWd,Nat.div_lt_iff_lt_mul (bX k),Nat.mul_assoc]
  rw[Nat.pow_succ,Nat.mul_comm (4294967296^k)]at hlt
  exact hlt
 have hg:∀j,us.getD (k+j) 0=W/4294967296^j%4294967296:=fun j=>by rw[ja hus,Nat.pow_add,<-Nat.div_div_eq_div_mul,<-hWd]
 have hv0:v≠0:=by intro h;rw[h]at hn;simp[az,dH]at hn
 obtain⟨u1,hu1⟩:∃x,x=us.getD (k+t+2) 0:=⟨_,rfl⟩
 obtain⟨u2,hu2⟩:∃x,x=us.getD (k+t+1) 0:=⟨_,rfl⟩
 obtain⟨u3,hu3⟩:∃x,x=us.getD (k+t) 0:=⟨_,rfl⟩
 obtain⟨v1,hv1⟩:∃x,x=(nl v).getD (t+1) 0:=⟨_,rfl⟩
 obtain⟨v2,hv2⟩:∃x,x=(nl v).getD t 0:=⟨_,rfl⟩
 have lu1:u1<4294967296:=by rw[hu1];exact bC hus _
 have lu2:u2<4294967296:=by rw[hu2];exact bC hus _
 have lu3:u3<4294967296:=by rw[hu3];exact bC hus _
 have lv1:v1<4294967296:=by rw[hv1];exact bC (cp v) _
 have lv2:v2<4294967296:=by rw[hv2];exact bC (cp v) _
 have hv1p:0<v1:=by
  have:=pq hv0
  rw[show(nl v).length-1=t+1 by show az v-1=t+1;omega,<-hv1]at this
  omega
 have hp:=bX t
 have hvt:v<4294967296^(t+2):=by have:=cH v;rw[hn]at this;exact this
 have hV2:v/4294967296^t=v1*4294967296+v2:=by
  rw[hv1,hv2,bU,bU,Nat.pow_succ,<-Nat.div_div_eq_div_mul]
  have:v/4294967296^t<4294967296*4294967296:=by
   rw[Nat.div_lt_iff_lt_mul hp]
   rw[Nat.pow_succ,Nat.pow_succ]at hvt
   rw[show 4294967296*4294967296*4294967296^t=4294967296^t*4294967296*4294967296 by grind]
   exact hvt
  generalize v/4294967296^t=x at this⊢
  omega
 have hWt:W<4294967296^(t+3):=by
  rw[hWd,Nat.div_lt_iff_lt_mul (bX k),<-Nat.pow_add]
  rw[show t+3+k=k+(t+2)+1 by omega];exact hwin
 obtain⟨top,htop⟩:∃top,top=u1*4294967296+u2:=⟨_,rfl⟩
 have hW3:W/4294967296^t=top*4294967296+u3:=by
  rw[htop,hu1,hu2,hu3,Nat.add_assoc k t 2,Nat.add_assoc k t 1,hg,hg,hg,Nat.pow_add,Nat.pow_add,<-Nat.div_div_eq_div_mul,<-Nat.div_div_eq_div_mul]
  have:W/4294967296^t<4294967296*4294967296*4294967296:=by
   rw[Nat.div_lt_iff_lt_mul hp]
   rw[Nat.pow_succ,Nat.pow_succ,Nat.pow_succ]at hWt
   rw[show 4294967296*4294967296*4294967296*4294967296^t=4294967296^t*4294967296*4294967296*4294967296 by grind]
   exact hWt
  generalize W/4294967296^t=x at this⊢
  rw[show(4294967296:Nat)^2=18446744073709551616 by decide,show(4294967296:Nat)^1=4294967296 by decide]
  omega
 have htopb:top<(v1+1)*4294967296:=by
  have h1:W/4294967296^t<(v/4294967296^t+1)*4294967296:=by
   rw[Nat.div_lt_iff_lt_mul hp]
   refine Nat.lt_of_lt_of_le hW ?_
   have:v<=(v/4294967296^t+1)*4294967296^t:=by
    have h1:=Nat.div_add_mod v (4294967296^t)
    have h2:=Nat.mod_lt v hp
    rw[Nat.add_mul,Nat.one_mul,Nat.mul_comm (v/4294967296^t)]
    omega
   have:=Nat.mul_le_mul_right 4294967296 this
   rw[Nat.mul_assoc,Nat.mul_comm (4294967296^t),<-Nat.mul_assoc]at this
   exact this
  rw[hW3,hV2]at h1
  omega
 have hq0:top=top/v1*v1+top%v1:=by have:=Nat.div_add_mod top v1;rw[Nat.mul_comm]at this;omega
 have hr0:top%v1<v1:=Nat.mod_lt _ hv1p
 have hlo0:W<(top/v1+1)*v:=by
  have h1:top+1<=(top/v1+1)*v1:=by rw[Nat.add_mul];omega
  have h2:W/4294967296^t<(top/v1+1)*(v/4294967296^t):=by
   rw[hW3,hV2]
   have:=Nat.mul_le_mul_right 4294967296 h1
   rw[Nat.mul_add,<-Nat.mul_assoc]
   omega
  have h3:=Nat.mul_le_mul_right (4294967296^t) (Nat.succ_le_of_lt h2)
  have h4:(top/v1+1)*(v/4294967296^t)*4294967296^t<=(top/v1+1)*v:=by rw[Nat.mul_assoc];exact Nat.mul_le_mul_left _ (Nat.div_mul_le_self v _)
  have h5:=Nat.div_add_mod W (4294967296^t)
  have h6:=Nat.mod_lt W hp
  rw[Nat.succ_mul,Nat.mul_comm (W/4294967296^t)]at h3
  omega
 refine⟨gl v1 v2 u3 (top/v1) (top%v1),by rw[<-hWd];exact JW hp hW3 hV2 hv1p lv2 hW htopb _ _ hq0 qO hlo0,?_⟩
 obtain⟨Q,hQ⟩:∃Q,Q=gl v1 v2 u3 (top/v1) (top%v1):=⟨_,rfl⟩
 rw[<-hQ]
 have hvl:(nl v).length=t+2:=hn
 refine aW Tryz.func158 ?_
 refine SZ.mk ((t+2:Nat):Int) (by simp[hvl]) ?_
 refine gx ?_
 iterate 3 refine aq ?_
 refine ag (a5 (k+t+2) af) ?_
 refine ag (aF.lb (k+t+2) rfl qO af) ?_
 iterate 1 refine aq ?_
 rw[<-hu1]
 refine ag (ai.ed u1 rfl qO af) ?_
 refine ag (tr lu1 af) ?_
 iterate 3 refine aq ?_
 refine ag (a5 (k+t+2) af) ?_
 refine ag (a5 (k+t+1) af) ?_
 refine ag (aF.lb (k+t+1) rfl qO af) ?_
 iterate 1 refine aq ?_
 rw[<-hu2]
 refine ag (ai.ed u2 rfl qO af) ?_
 refine ag (Iv lu1 lu2 htop af) ?_
 iterate 1 refine aq ?_
 refine a5 (t+1) ?_
 refine aF.lb (t+1) rfl qO ?_
 rw[<-hv1]
 refine ai.ed v1 rfl qO ?_
 obtain⟨q0,hq0'⟩:∃q,q=top/v1:=⟨_,rfl⟩
 obtain⟨r0,hr0'⟩:∃r,r=top%v1:=⟨_,rfl⟩
 rw[<-hq0']at hQ
 rw[<-hr0']at hQ hr0
 have hq0b:q0<=top:=by rw[hq0'];exact Nat.div_le_self _ _
 refine ye qO hq0' (qZ qO) ?_
 refine a5 (t+1) ?_
 refine aF.lb (t+1) rfl qO ?_
 rw[<-hv1]
 refine ai.ed v1 rfl qO ?_
 refine xy qO hr0' ?_
 refine aJ.mk (Nat×Nat) (fun(q,r)=>([(0,.p (.sl m 1 (bV us))),(1,.p (bF m' v)),(2,.p (.int .i64 k)),(7,.p (.int .i64 ((t+2:Nat):Int))),(9,.p (.int .u64 q)),(10,.p (.int .u64 r))],[]))
  (fun(q,r)=>q<=q0/\r<4294967296/\gl v1 v2 u3 q r=Q) (fun x=>x.1) (q0,r0) []
  ⟨Nat.le_refl _,qO,hQ.symm⟩ aY ?_
 intro⟨q,r⟩ ⟨h1,h2,h3⟩
 refine gx ?_
 iterate 1 refine aq ?_
 refine ag (gZ af) ?_
 by_cases hqB:4294967296<=q
 ·refine ag (ao.yes (decide_eq_true qO) af) ?_
  iterate 2 refine aq ?_
  obtain⟨q,rfl⟩:∃q',q=q'+1:=⟨q-1,qO⟩
  simp only[gl]at h3
  rw[if_pos (.inl hqB)]at h3
  refine xt q ?_
  refine a5 (t+1) ?_
  refine aF.lb (t+1) rfl qO ?_
  rw[<-hv1]
  refine ai.ed v1 rfl qO ?_
  refine xt (r+v1) ?_
  refine gZ ?_
  by_cases hr:4294967296<=r+v1
  ·rw[if_pos hr]at h3
   subst h3
   refine bo ?_
   exact ab.pure (.p _ (.int _ _))
  ·rw[if_neg hr]at h3
   refine bd ?_
   exact⟨(q,r+v1),[],⟨qO,qO,h3⟩,Nat.lt_succ_self q,aY⟩
 ·refine ag (ao.no (decide_eq_false qO) af) ?_
  iterate 4 refine aq ?_
  refine ag (kJ (t:Int) af) ?_
  refine ag (aF.lb t rfl qO af) ?_
  iterate 1 refine aq ?_
  rw[<-hv2]
  refine ag (ai.ed v2 rfl qO af) ?_
  have hqv:=wE (show q<4294967296 by omega) lv2
  refine ag (ai.ed (q*v2) (Int.natCast_mul q v2).symm qO af) ?_
  iterate 1 refine aq ?_
  refine ag (tr h2 af) ?_
  iterate 3 refine aq ?_
  refine ag (a5 (k+t+2) af) ?_
  refine ag (a5 (k+t) af) ?_
  refine ag (aF.lb (k+t) rfl qO af) ?_
  iterate 1 refine aq ?_
  rw[<-hu3]
  refine ag (ai.ed u3 rfl qO af) ?_
  obtain⟨S,hS⟩:∃S,S=r*4294967296+u3:=⟨_,rfl⟩
  refine ag (Iv h2 lu3 hS af) ?_
  by_cases hc:S<q*v2
  ·refine ag (ao.yes (decide_eq_true (Int.ofNat_lt.2 hc)) af) ?_
   iterate 1 refine aq ?_
   have hq0n:q≠0:=fun e=>by rw[e]at hc;simp at hc
   obtain⟨q,rfl⟩:∃q',q=q'+1:=⟨q-1,qO⟩
   simp only[gl]at h3
   rw[if_pos (.inr (by rw[<-hS];exact hc))]at h3
   refine xt q ?_
   refine a5 (t+1) ?_
   refine aF.lb (t+1) rfl qO ?_
   rw[<-hv1]
   refine ai.ed v1 rfl qO ?_
   refine xt (r+v1) ?_
   refine gZ ?_
   by_cases hr:4294967296<=r+v1
   ·rw[if_pos hr]at h3
    subst h3
    refine bo ?_
    exact ab.pure (.p _ (.int _ _))
   ·rw[if_neg hr]at h3
    refine bd ?_
    exact⟨(q,r+v1),[],⟨qO,qO,h3⟩,Nat.lt_succ_self q,aY⟩
  ·refine ag (ao.no (decide_eq_false (fun h=>hc (Int.ofNat_lt.1 h))) af) ?_
   iterate 1 refine aq ?_
   have:q=Q:=by
    cases q with
    |zero=>exact h3
    |succ q=>
     simp only[gl]at h3
     rw[if_neg (by rw[<-hS];omega)]at h3
     exact h3
   subst this
   exact ab.pure (.p _ (.int _ _))
def dg:Nat->Nat->List Nat
 |0,_=>[]
 |L+1,n=>n%4294967296::dg L (n/4294967296)
theorem eZ (L n:Nat):(dg L n).length=L:=by
 induction L generalizing n with
 |zero=>rfl
 |succ L ih=>simp[dg,ih]
theorem DM (L n:Nat):iR (dg L n):=by
 induction L generalizing n with
 |zero=>exact .nil
 |succ L ih=>exact .cons (Nat.mod_lt _ qO) (ih _)
theorem rC {L n:Nat} (h:n<4294967296^L):nv (dg L n)=n:=by
 induction L generalizing n with
 |zero=>simp at h;subst h;rfl
 |succ L ih=>
  have:n/4294967296<4294967296^L:=by rw[Nat.pow_succ]at h;omega
  simp only[dg,nv,ih this];omega
theorem IK {l:List Nat} (h:iR l):dg l.length (nv l)=l:=by
 induction l with
 |nil=>rfl
 |cons x l ih=>
  have hx:=h.head
  simp only[List.length_cons,dg,nv]
  rw[show(x+4294967296*nv l)/4294967296=nv l by omega,show(x+4294967296*nv l)%4294967296=x by omega,ih h.tail]
theorem pH (l:List Nat) (n:Nat):nv l=nv (l.take n)+4294967296^min n l.length*nv (l.drop n):=by
 conv=>lhs;rw[<-List.take_append_drop n l]
 rw[mN,List.length_take]
theorem AA {B:aA} (hB:B.mi=false) {h:Hd} (hl:look [B] h≠ .free):h=0:=by
 have hk:=d7 hl
 cases h with
 |t n=>
  have:n=0:=by simp[Hd.key]at hk;exact hk
  subst this;rfl
 |r n k=>
  have:n=0:=by simp[Hd.key]at hk;exact hk
  subst this
  exfalso
  apply hl
  cases B<;>first|rfl|cases hB
theorem ab.one {av r:AV} {H:Hp} {T:TypeId} {W:Nat} {es es0:List PV} (h0:look H 0= .vec T W es) (hp:∀e∈es,∀c∈e.cells,ct c) (h:Conv [0] H av r):ab [.vec T W es0] av H r [.vec T W es]:=
 .mk [0] rfl qS rfl (Nat.le_refl _) (fun h hl=>by rw[AA rfl (aA.ck hl),h0];trivial) (fun h hl=>by rw[AA rfl hl,h0];exact fun e=>by cases e)
  (fun i h B e1 e2=>by
   cases i with
   |zero=>
    cases e1;cases e2
    have e:H.getD 0 .free= .vec T W es:=by
     have h0:(H.getD 0 .free).top=_:=h0
     generalize H.getD 0 .free=C at h0
     cases C<;>first|exact h0|cases h0
    rw[e];exact .vec hp
   |succ i=>simp at e1) h
theorem Fc {u u' U q vm y c bw bw' p o d tot pk:Nat} (hset:u'+(pk*p)*o=u+(pk*p)*(d%4294967296)) (h:u+q*vm*pk=U+(bw+c)*(pk*p)) (ht:tot=c+q*y)
  (hd:o+4294967296*bw'=d%4294967296+tot%4294967296+bw):
  u'+q*(vm+p*y)*pk=U+(bw'+tot/4294967296)*(pk*(p*4294967296)):=by
 have h1:tot=tot%4294967296+4294967296*(tot/4294967296):=qO
 generalize tot/4294967296=c' at h1⊢
 generalize tot%4294967296=lo at h1 hd
 generalize d%4294967296=x at hset hd
 have e:u'+q*(vm+p*y)*pk+(pk*p)*o=U+(bw'+c')*(pk*(p*4294967296))+(pk*p)*o:=by
  have h2:(pk*p)*(o+4294967296*bw')=(pk*p)*(x+lo+bw):=by rw[hd]
  have h3:(pk*p)*(c+q*y)=(pk*p)*(lo+4294967296*c'):=by rw[<-h1,ht]
  grind
 omega
theorem KS (m':Bool) (L U v k n q:Nat) (hn:az v=n) (hk:k+n+1<=L) (hlen:L<=549755813888) (hq:q<4294967296) (hwin:U<4294967296^(k+n+1)):
  df Tryz.prog 159 [.vec 0 1 0 L,.p (bF m' v),.p (.int .i64 k),.p (.int .u64 q)] [.vec 100 1 (bV (dg L U))] (.p (.bool (decide (U<q*v*4294967296^k))))
   [.vec 100 1 (bV (dg L (U+(if U<q*v*4294967296^k then 4294967296^(k+n+1)else 0)-q*v*4294967296^k)))]:=by
 have hvl:(nl v).length=n:=hn
 have hUL:U<4294967296^L:=Nat.lt_of_lt_of_le hwin (Nat.pow_le_pow_right qO hk)
 refine aW Tryz.func159 ?_ (h5:=by intro B hB;simp at hB;subst hB;exact fun e=>by cases e)
 refine SZ.mk (n:Int) (by simp[hvl]) ?_
 refine a5 (n+1) ?_
 refine aJ.mk (Nat×Nat×Nat×List Nat) (fun(i,c,bw,us)=>([(0,.vec 0 1 0 L),(1,.p (bF m' v)),(2,.p (.int .i64 k)),(3,.p (.int .u64 q)),(9,.p (.int .u64 c)),(10,.p (.int .u64 bw)),(15,.p (.int .i64 ((n+1:Nat):Int))),(16,.p (.int .i64 i))],[.vec 100 1 (bV us)]))
  (fun(i,c,bw,us)=>i<=n+1/\bw<=1/\c=q*(v%4294967296^i)/4294967296^i/\us.length=L/\iR us/\nv (us.drop (k+n+1))=0/\nv us+q*(v%4294967296^i)*4294967296^k=U+(bw+c)*(4294967296^k*4294967296^i)) (fun x=>n+1-x.1) (0,0,0,dg L U) [0]
  ⟨Nat.zero_le _,Nat.zero_le _,by simp[Nat.mod_one],eZ _ _,DM _ _,?_,by simp[Nat.mod_one,rC hUL]⟩
  aY ?_
 ·have h1:=pH (dg L U) (k+n+1)
  rw[rC hUL,eZ,Nat.min_eq_left hk]at h1
  rcases Nat.eq_zero_or_pos (nv ((dg L U).drop (k+n+1)))with h|h
  ·exact h
  ·have:=Nat.mul_le_mul_left (4294967296^(k+n+1)) h
   omega
 intro⟨i,c,bw,us⟩ ⟨h1,h2,h3,h4,h5,h6,h7⟩
 have hcB:c<4294967296:=by
  rw[h3,Nat.div_lt_iff_lt_mul (bX i)]
  exact Nat.mul_lt_mul'' hq (Nat.mod_lt _ (bX i))
 by_cases hi:i<n+1
 ·refine bo ?_
  refine aa.pure (nL m' (nl v) (cp v) i) ?_
  rw[if_pos (Int.natCast_nonneg i),Int.toNat_natCast]
  have e2:=bU v i
  have l2:(nl v).getD i 0<4294967296:=bC (cp v) i
  have l3:us.getD (k+i) 0<4294967296:=bC h5 (k+i)
  obtain⟨y,hy⟩:∃y,y=(nl v).getD i 0:=⟨_,rfl⟩
  rw[<-hy]at e2 l2⊢
  have hqy:=wE hq l2
  refine ai.ed (q*y) (Int.natCast_mul q y).symm qO ?_
  obtain⟨tot,htot⟩:∃tot,tot=c+q*y:=⟨_,rfl⟩
  refine xt tot ?_
  refine a5 (k+i) ?_
  refine aK.mk (k+i) rfl qO ?_
  refine aF.xf (i:=k+i) qO ?_
  obtain⟨o,ho⟩:∃o,o=us.getD (k+i) 0:=⟨_,rfl⟩
  rw[<-ho]at l3⊢
  refine ai.ed o rfl qO ?_
  refine ai.gS (tot%4294967296) qO ?_
  refine ai.ed (tot%4294967296) rfl qO ?_
  refine ai.M3 ?_
  obtain⟨d,hd⟩:∃d,d=(o+36893488147419103232-tot%4294967296-bw)%18446744073709551616:=⟨_,rfl⟩
  refine ai.Ed d qO ?_
  have hs:o+4294967296*(d/9223372036854775808)=d%4294967296+tot%4294967296+bw:=qO
  have hb':d/9223372036854775808<=1:=qO
  refine a5 (k+i) ?_
  refine ai.gS (d%4294967296) qO ?_
  refine aK.mk (k+i) rfl qO ?_
  refine cm.set qO ?_
  refine dp.set ?_
  refine gZ ?_
  refine A5 ?_
  refine a5 (i+1) ?_
  refine⟨(i+1,tot/4294967296,d/9223372036854775808,us.set (k+i) (d%4294967296)),[0],⟨hi,hb',?_,by simpa using h4,h5.set (Nat.mod_lt _ qO),?_,?_⟩,by show n+1-(i+1)<n+1-i;omega,
   aY⟩
  ·have hb2:v%4294967296^(i+1)=v%4294967296^i+4294967296^i*(v/4294967296^i%4294967296):=Nat.mod_pow_succ
   rw[hb2,<-e2,Nat.pow_succ,<-Nat.div_div_eq_div_mul,Nat.mul_add,show q*(4294967296^i*y)=4294967296^i*(q*y) by grind,Nat.add_mul_div_left _ _ (bX i),<-h3,htot]
  ·rw[List.drop_set_of_lt qO];exact h6
  ·have hs':=jU us (k+i) (d%4294967296) qO
   rw[<-ho,Nat.pow_add]at hs'
   have hb2:v%4294967296^(i+1)=v%4294967296^i+4294967296^i*(v/4294967296^i%4294967296):=Nat.mod_pow_succ
   rw[hb2,<-e2,Nat.pow_succ]
   exact Fc hs' h7 htot hs
 ·refine bd ?_
  have hin:i=n+1:=qO
  subst hin
  have hvn:v%4294967296^(n+1)=v:=d5 v (n+1) qO
  have hvlt:v<4294967296^n:=by have:=cH v;rwa[hn]at this
  have hc0:c=0:=by
   rw[h3,hvn]
   refine Nat.div_eq_of_lt ?_
   rw[Nat.pow_succ,Nat.mul_comm]
   exact Nat.mul_lt_mul'' hvlt hq
  subst hc0
  rw[hvn,Nat.add_zero,<-Nat.pow_add,show k+(n+1)=k+n+1 by omega]at h7
  have hus:nv us<4294967296^(k+n+1):=by
   have h8:=pH us (k+n+1)
   rw[h6,Nat.mul_zero,Nat.add_zero]at h8
   rw[h8]
   have:=zw (h5.take (k+n+1))
   rwa[List.length_take,Nat.min_eq_left qO]at this
  generalize hX:q*v*4294967296^k=X at h7⊢
  generalize hP:4294967296^(k+n+1)=Pw at h7 hus hwin⊢
  have hfin:∀V,nv us=V->us=dg L V:=fun V e=>by rw[<-e,<-h4,IK h5]
  rcases Nat.eq_zero_or_pos bw with hb|hb
  ·subst hb
   have hle:¬U<X:=qO
   refine bd ?_
   rw[if_neg hle,decide_eq_false hle,<-hfin (U+0-X) qO]
   exact ab.one rfl (aL us) (.tf false)
  ·have hb1:bw=1:=qO
   subst hb1
   have hlt:U<X:=qO
   refine bo ?_
   rw[if_pos hlt,decide_eq_true hlt,<-hfin (U+Pw-X) qO]
   exact ab.one rfl (aL us) (.tf true)
theorem Fs {u u' U vm y c o tot p pk:Nat} (hset:u'+(pk*p)*o=u+(pk*p)*(tot%4294967296)) (h:u+c*(pk*p)=U+vm*pk) (ht:tot=c+(o+y)):
  u'+tot/4294967296*(pk*(p*4294967296))=U+(vm+p*y)*pk:=by
 have h1:tot=tot%4294967296+4294967296*(tot/4294967296):=qO
 generalize tot/4294967296=c' at h1⊢
 generalize tot%4294967296=lo at h1 hset
 have e:u'+c'*(pk*(p*4294967296))+(pk*p)*o=U+(vm+p*y)*pk+(pk*p)*o:=by
  have h3:(pk*p)*(c+(o+y))=(pk*p)*(lo+4294967296*c'):=by rw[<-h1,ht]
  grind
 omega
theorem K6 (m':Bool) (L U v k n:Nat) (hn:az v=n) (hk:k+n+1<=L) (hlen:L<=549755813888) (hwin:U<4294967296^(k+n+1)):
  df Tryz.prog 160 [.vec 0 1 0 L,.p (bF m' v),.p (.int .i64 k)] [.vec 100 1 (bV (dg L U))] (.bK [])
   [.vec 100 1 (bV (dg L ((U+v*4294967296^k)%4294967296^(k+n+1))))]:=by
 have hvl:(nl v).length=n:=hn
 have hUL:U<4294967296^L:=Nat.lt_of_lt_of_le hwin (Nat.pow_le_pow_right qO hk)
 refine aW Tryz.func160 ?_ (h5:=by intro B hB;simp at hB;subst hB;exact fun e=>by cases e)
 refine SZ.mk (n:Int) (by simp[hvl]) ?_
 refine a5 (n+1) ?_
 refine aJ.mk (Nat×Nat×List Nat) (fun(i,c,us)=>([(0,.vec 0 1 0 L),(1,.p (bF m' v)),(2,.p (.int .i64 k)),(6,.p (.int .u64 c)),(10,.p (.int .i64 ((n+1:Nat):Int))),(11,.p (.int .i64 i))],[.vec 100 1 (bV us)]))
  (fun(i,c,us)=>i<=n+1/\c<=1/\us.length=L/\iR us/\nv (us.drop (k+n+1))=0/\nv us+c*(4294967296^k*4294967296^i)=U+v%4294967296^i*4294967296^k) (fun x=>n+1-x.1) (0,0,dg L U) [0]
  ⟨Nat.zero_le _,Nat.zero_le _,eZ _ _,DM _ _,?_,by simp[Nat.mod_one,rC hUL]⟩
  aY ?_
 ·have h1:=pH (dg L U) (k+n+1)
  rw[rC hUL,eZ,Nat.min_eq_left hk]at h1
  rcases Nat.eq_zero_or_pos (nv ((dg L U).drop (k+n+1)))with h|h
  ·exact h
  ·have:=Nat.mul_le_mul_left (4294967296^(k+n+1)) h
   omega
 intro⟨i,c,us⟩ ⟨h1,h2,h4,h5,h6,h7⟩
 by_cases hi:i<n+1
 ·refine bo ?_
  have e2:=bU v i
  have l2:(nl v).getD i 0<4294967296:=bC (cp v) i
  have l3:us.getD (k+i) 0<4294967296:=bC h5 (k+i)
  obtain⟨y,hy⟩:∃y,y=(nl v).getD i 0:=⟨_,rfl⟩
  obtain⟨o,ho⟩:∃o,o=us.getD (k+i) 0:=⟨_,rfl⟩
  refine gx ?_
  iterate 4 refine aq ?_
  refine ag (a5 (k+i) af) ?_
  refine ag (aK.mk (k+i) rfl qO af) ?_
  refine ag (aF.xf (i:=k+i) qO af) ?_
  rw[<-ho]at l3⊢
  refine ag (ai.ed o rfl qO af) ?_
  iterate 2 refine aq ?_
  refine ag (aa.pure (nL m' (nl v) (cp v) i) af) ?_
  rw[if_pos (Int.natCast_nonneg i),Int.toNat_natCast]
  rw[<-hy]at e2 l2⊢
  refine ag (xt (o+y) af) ?_
  obtain⟨tot,htot⟩:∃tot,tot=c+(o+y):=⟨_,rfl⟩
  refine ag (xt tot af) ?_
  iterate 1 refine aq ?_
  refine a5 (k+i) ?_
  refine ai.gS (tot%4294967296) qO ?_
  refine aK.mk (k+i) rfl qO ?_
  refine cm.set qO ?_
  refine dp.set ?_
  refine gZ ?_
  refine a5 (i+1) ?_
  refine⟨(i+1,tot/4294967296,us.set (k+i) (tot%4294967296)),[0],⟨hi,qO,by simpa using h4,h5.set (Nat.mod_lt _ qO),?_,?_⟩,by show n+1-(i+1)<n+1-i;omega,
   aY⟩
  ·rw[List.drop_set_of_lt qO];exact h6
  ·have hs':=jU us (k+i) (tot%4294967296) qO
   rw[<-ho,Nat.pow_add]at hs'
   have hb2:v%4294967296^(i+1)=v%4294967296^i+4294967296^i*(v/4294967296^i%4294967296):=Nat.mod_pow_succ
   rw[hb2,<-e2,Nat.pow_succ]
   exact Fs hs' h7 htot
 ·refine bd ?_
  have hin:i=n+1:=qO
  subst hin
  have hvn:v%4294967296^(n+1)=v:=d5 v (n+1) qO
  rw[hvn,<-Nat.pow_add,show k+(n+1)=k+n+1 by omega]at h7
  have hus:nv us<4294967296^(k+n+1):=by
   have h8:=pH us (k+n+1)
   rw[h6,Nat.mul_zero,Nat.add_zero]at h8
   rw[h8]
   have:=zw (h5.take (k+n+1))
   rwa[List.length_take,Nat.min_eq_left qO]at this
  have hV:(U+v*4294967296^k)%4294967296^(k+n+1)=nv us:=by
   rw[<-h7,Nat.add_mul_mod_self_right];exact Nat.mod_eq_of_lt hus
  rw[hV]
  have:dg L (nv us)=us:=by rw[<-h4,IK h5]
  rw[this]
  exact ab.one rfl (aL us) (.bK rfl fun i c d e1 e2=>by simp at e1)
theorem aa.vec {P:Program} {f:FuncId} {L:Hd->aA} {base h:Nat} {K:AV->List (Hd×aA)->Prop} {args args':List AV} {T:TypeId} {W:Nat} {es es':List PV} {r:AV} (hb:h<base) (hL:L h= .vec T W es)
  (hc:df P f args' [.vec T W es] r [.vec T W es']) (ha:AV.de (bz [h] base) args'=args) (hargs:∀a∈args',∀k,a.aT k->k.key<1) (hr:r.dm (bz [h] base)=r) (hk:K r [(h,.vec T W es')]) (hLr:∀k,L (.r h k)= .free:=by intro _;rfl) {raw:List AV}:aa P true f raw args L base K:=by
 refine .mk [h] args' r [.vec T W es] [.vec T W es'] (fun e=>by cases e) qS (fun k hk=>by simp at hk;omega) ha rfl (fun i g B e1 e2=>?_) (fun B hB=>by simp at hB;subst hB;simp) (fun B hB k hk=>by simp at hB;subst hB;exact hk.elim) (Nat.le_refl _)
  (fun B hB=>by simp at hB;subst hB;simp) hargs hc ?_
 ·match i,e1,e2 with
  |0,e1,e2=>cases e1;cases e2;exact⟨hL,hLr⟩
 ·rw[hr]
  simpa[fk,aA.dm]using hk
theorem zI {L n:Nat} (h:az n<=L):dg L n=nl n++List.replicate (L-az n) 0:=by
 have hl:(nl n++List.replicate (L-az n) 0).length=L:=by simp[az]at h⊢;omega
 have hok:iR (nl n++List.replicate (L-az n) 0):=fun x hx=>by
  rcases List.mem_append.1 hx with hx|hx
  ·exact cp n x hx
  ·exact iR.replicate _ x hx
 have:=IK hok
 rw[hl,mN,yI,dV,Nat.mul_zero,Nat.add_zero]at this
 exact this
theorem DY (L:Nat):dg L 0=List.replicate L 0:=by
 rw[zI (by rw[az,dH];simp),az,dH];simp
abbrev Qg:FuncId->Bool:=fun f=>Nat.beq f 159||Nat.beq f 160
theorem pN (m:Bool) (a:Nat) (ha:az a<=1099511627776):ae Tryz.prog 75 [bF m a] (.p (cg a)) []:=by
 have:=jT m (nl a) (cp a) ha
 rwa[yI]at this
abbrev KH (q r:Nat) (e:Int):AV:=.bK [.p (cg q),.p (cg r),.p (.int .i64 e)]
theorem Gb {b n k:Nat} (hn:az b=n+1) (hk:k=32-bitLen ((nl b).getD n 0)):az (b*2^k)=n+1/\k<32:=by
 have hb0:b≠0:=by intro h;rw[h]at hn;simp[az,dH]at hn
 obtain⟨top,htop⟩:∃t,t=(nl b).getD n 0:=⟨_,rfl⟩
 rw[<-htop]at hk
 have ht0:top≠0:=by
  have:=pq hb0
  rw[show(nl b).length-1=n by show az b-1=n;omega,<-htop]at this
  exact this
 have ht:top<4294967296:=by rw[htop];exact bC (cp b) _
 have hs:=bitLen_spec top
 have hbl:bitLen top<=32:=by
  have h1:=hs.2 ht0
  rcases Nat.lt_or_ge 32 (bitLen top)with h|h
  ·have:2^32<=2^(bitLen top-1):=Nat.pow_le_pow_right qO qO
   omega
  ·exact h
 have hbl1:1<=bitLen top:=by
  rcases Nat.eq_zero_or_pos (bitLen top)with h|h
  ·rw[h]at hs;have:=hs.1;simp at this;exact(ht0 this).elim
  ·exact h
 refine⟨Nat.le_antisymm (fX ?_) ?_,qO⟩
 ·have h1:b<(top+1)*4294967296^n:=by
   have h2:b/4294967296^n=top:=by
    rw[htop,bU]
    have:b/4294967296^n<4294967296:=by
     rw[Nat.div_lt_iff_lt_mul (bX n),<-Nat.pow_succ']
     have:=cH b;rwa[hn]at this
    exact(Nat.mod_eq_of_lt this).symm
   rw[<-h2,Nat.mul_comm]
   exact Nat.lt_mul_div_succ b (bX n)
  have h3:(top+1)*2^k<=4294967296:=by
   have:(top+1)*2^k<=2^bitLen top*2^k:=Nat.mul_le_mul_right _ hs.1
   rw[<-Nat.pow_add,show bitLen top+k=32 by omega]at this
   exact this
  calc b*2^k<(top+1)*4294967296^n*2^k:=Nat.mul_lt_mul_of_pos_right h1 (Nat.two_pow_pos k)
   _=(top+1)*2^k*4294967296^n:=by grind
   _<=4294967296*4294967296^n:=Nat.mul_le_mul_right _ h3
   _=4294967296^(n+1):=(Nat.pow_succ').symm
 ·rw[<-hn];exact dz (Nat.le_mul_of_pos_right _ (Nat.two_pow_pos k))
theorem wT (m m':Bool) (a b:Nat) (ha:az a<=137438953472) (hb:az b<=137438953472):
  ae Tryz.prog 126 [bF m a,bF m' b] (if b=0 then KH 0 0 5 else KH (a/b) (a%b) 0) []:=by
 refine Jy (wr:=Qg) Tryz.func126 ?_
 refine aa.pure (pN m a qO) ?_
 refine aa.pure (pN m' b qO) ?_
 have e0:cg 0= .sl false 1 []:=by simp[dH]
 refine SZ.mk (az b) qS ?_
 by_cases hb0:b=0
 ·refine ao.yes (jx (by have:=aw.2 hb0;omega)) ?_
  rw[if_pos hb0,KH,e0]
  refine ab.pure ?_
  exact .bK rfl fun i c d e1 e2=>by
   match i,e1,e2 with
   |0,e1,e2=>cases e1;cases e2;exact .emp _
   |1,e1,e2=>cases e1;cases e2;exact .emp _
   |2,e1,e2=>cases e1;cases e2;exact .p _ (.int _ _)
 refine ao.no (iO (by have:=mt aw.1 hb0;omega)) ?_
 rw[if_neg hb0]
 refine aa.pure (lB false false a b qO qO) ?_
 have hbp:0<b:=qO
 by_cases hab:a<b
 ·refine ao.yes (decide_eq_true (by simp only[cF,if_pos hab];decide)) ?_
  rw[Nat.div_eq_of_lt hab,Nat.mod_eq_of_lt hab,KH,e0]
  refine ab.pure ?_
  exact .bK rfl fun i c d e1 e2=>by
   match i,e1,e2 with
   |0,e1,e2=>cases e1;cases e2;exact .emp _
   |1,e1,e2=>cases e1;cases e2;exact .p _ (.sl _ _ (aL _))
   |2,e1,e2=>cases e1;cases e2;exact .p _ (.int _ _)
 refine ao.no (decide_eq_false (by simp only[cF,if_neg hab];split<;>decide)) ?_
 refine SZ.mk (az b) qS ?_
 by_cases h1:az b=1
 ·refine ao.yes (jx qO) ?_
  have hbl:(nl b).length=1:=h1
  refine aF.lb 0 rfl qO ?_
  have hbB:b<4294967296:=by have:=cH b;rw[h1]at this;simpa using this
  rw[bU,Nat.pow_zero,Nat.div_one,Nat.mod_eq_of_lt hbB]
  refine aa.aO (Ij false a b qO hbp hbB) (fun _=>rfl) ?_
  have hr:a%b<b:=Nat.mod_lt _ hbp
  obtain⟨r,hr'⟩:∃r,r=a%b:=⟨_,rfl⟩
  rw[<-hr']at hr⊢
  refine ai.ed r rfl qO ?_
  refine aa.pure (q9 r qO) ?_
  refine ab.pure ?_
  exact .bK rfl fun i c d e1 e2=>by
   match i,e1,e2 with
   |0,e1,e2=>cases e1;cases e2;exact .p _ (.sl _ _ (aL _))
   |1,e1,e2=>cases e1;cases e2;exact .p _ (.sl _ _ (aL _))
   |2,e1,e2=>cases e1;cases e2;exact .p _ (.int _ _)
 refine ao.no (iO qO) ?_
 have hbn0:=mt aw.1 hb0
 obtain⟨n,hn⟩:∃n,az b=n+1:=⟨az b-1,qO⟩
 have hbl:(nl b).length=n+1:=hn
 refine SZ.mk ((n+1:Nat):Int) (by simp[hbl]) ?_
 refine kJ (n:Int) ?_
 refine aF.lb n rfl qO ?_
 refine aa.pure (KM _ (bC (cp b) n)) ?_
 obtain⟨k,hk⟩:∃k,k=32-bitLen ((nl b).getD n 0):=⟨_,rfl⟩
 rw[<-hk]
 obtain⟨hnv,hk32⟩:=Gb hn hk
 refine aa.pure (BM false b k qO qO) ?_
 obtain⟨v,hv⟩:∃v,v=b*2^k:=⟨_,rfl⟩
 rw[<-hv]at hnv⊢
 obtain⟨la,hla⟩:∃x,x=az a:=⟨_,rfl⟩
 refine SZ.mk (la:Int) (by simp[hla]) ?_
 refine a5 (la+1) ?_
 refine SZ.mk ((la+1:Nat):Int) rfl ?_
 refine cm.mk qS ?_
 refine cy.u32 (la+1) rfl qO ?_
 refine cm.mk qS ?_
 refine dp.mk (bV (dg (la+1) 0)) (by rw[DY];simp) ?_
 refine aa.pure (BM false a k qO qO) ?_
 have hsh:az (a*2^k)<=la+1:=by have:=pT a k;omega
 refine cm.mk (by simp[eZ]) ?_
 refine dp.mk (bV (dg (la+1) (a*2^k))) (by
  rw[DY,zI hsh]
  have:(nl (a*2^k)).length<=la+1:=hsh
  simp[List.take_of_length_le,this,Nat.min_eq_left this]) ?_
 refine SZ.mk ((min (bV (nl (a*2^k))).length (la+1):Nat):Int) rfl ?_
 have hab':az b<=az a:=dz qO
 obtain⟨mm,hmm⟩:∃x,la=n+1+x:=⟨la-(n+1),qO⟩
 refine SZ.mk (la:Int) (by simp[hla]) ?_
 refine SZ.mk ((n+1:Nat):Int) (by simp[hbl]) ?_
 refine kJ (mm:Int) ?_
 refine a5 (mm+1) ?_
 refine SZ.mk ((mm+1:Nat):Int) rfl ?_
 refine cm.mk qS ?_
 refine cy.u32 (mm+1) rfl qO ?_
 refine SZ.mk (la:Int) (by simp[hla]) ?_
 refine SZ.mk ((n+1:Nat):Int) (by simp[hbl]) ?_
 refine kJ (mm:Int) ?_
 have hvp:0<v:=by rw[hv];exact Nat.mul_pos hbp (Nat.two_pow_pos k)
 have hvlt:v<4294967296^(n+1):=by have:=cH v;rwa[hnv]at this
 have hR0:a*2^k<v*4294967296^(mm+1):=by
  have h3:a<4294967296^n*4294967296^(mm+1):=by
   rw[<-Nat.pow_add,show n+(mm+1)=az a by omega];exact cH a
  have h4:4294967296^n<=b:=by have:=Az hb0;rwa[hn,Nat.add_sub_cancel]at this
  calc a*2^k<4294967296^n*4294967296^(mm+1)*2^k:=Nat.mul_lt_mul_of_pos_right h3 (Nat.two_pow_pos k)
   _<=b*4294967296^(mm+1)*2^k:=Nat.mul_le_mul_right _ (Nat.mul_le_mul_right _ h4)
   _=v*4294967296^(mm+1):=by rw[hv];grind
 refine aJ.mk (Nat×Nat×List Nat) (fun(j,R,out)=>([(9,.p (.int .i64 k)),(10,.p (cg v)),(11,.vec 0 1 0 (la+1)),(12,.vec 1 1 0 (mm+1)),(13,.p (.int .i64 ((j:Int)-1)))],[.vec 100 1 (bV (dg (la+1) R)),.vec 100 1 (bV out)]))
  (fun(j,R,out)=>j<=mm+1/\R<v*4294967296^j/\out.length=mm+1/\iR out/\∃Q,nv out=Q*4294967296^j/\a*2^k=Q*4294967296^j*v+R) (fun x=>x.1) (mm+1,a*2^k,List.replicate (mm+1) 0) [0,1]
  ⟨Nat.le_refl _,hR0,qS,.replicate _,0,by simp[dV],qS⟩
  (aY ⟨rfl,congrArg _ (bM _).symm,trivial⟩ (ss:=⟨rfl,rfl,rfl,rfl,congrArg (fun z=>AV.p (.int .i64 z)) qO,trivial⟩)) ?_
 intro⟨j,R,out⟩ ⟨g1,g2,g3,g4,Q,g5,g6⟩
 have hR:R<4294967296^(n+j+1):=by
  refine Nat.lt_trans g2 ?_
  rw[show n+j+1=(n+1)+j by omega,Nat.pow_add]
  exact Nat.mul_lt_mul_of_pos_right hvlt (bX j)
 by_cases hj:j=0
 ·subst hj
  refine bd ?_
  simp only[Nat.pow_zero,Nat.mul_one]at g2 g5 g6
  refine bl.all (by simpa using g3.symm) ?_
  refine aa.pure (jT true out g4 qO) ?_
  refine bl.all (by simp[eZ]) ?_
  refine aa.pure (jT true (dg (la+1) R) (DM _ _) (by rw[eZ];omega)) ?_
  rw[rC (Nat.lt_of_lt_of_le hR (Nat.pow_le_pow_right qO qO))]
  have hRl:az R<=n+1:=fX (by simpa using hR)
  refine aa.pure (F7 false R k qO qO) ?_
  have hq:nv out=a/b:=by
   rw[g5]
   have:a*2^k/(b*2^k)=Q:=by
    rw[<-hv,g6,Nat.mul_comm Q v,Nat.mul_add_div hvp,Nat.div_eq_of_lt g2,Nat.add_zero]
   rwa[Nat.mul_div_mul_right _ _ (Nat.two_pow_pos k),eq_comm]at this
  have hr:R/2^k=a%b:=by
   have:a*2^k%(b*2^k)=R:=by
    rw[<-hv,g6,Nat.mul_comm Q v,Nat.mul_add_mod,Nat.mod_eq_of_lt g2]
   rw[Nat.mul_mod_mul_right]at this
   rw[<-this,Nat.mul_div_cancel _ (Nat.two_pow_pos k)]
  rw[hq,hr]
  refine ab.pure ?_
  exact .bK rfl fun i c d e1 e2=>by
   match i,e1,e2 with
   |0,e1,e2=>cases e1;cases e2;exact .p _ (.sl _ _ (aL _))
   |1,e1,e2=>cases e1;cases e2;exact .p _ (.sl _ _ (aL _))
   |2,e1,e2=>cases e1;cases e2;exact .p _ (.int _ _)
 ·obtain⟨i,rfl⟩:=Nat.exists_eq_succ_of_ne_zero hj
  rw[Nat.succ_eq_add_one]at g1 g2 g5 g6 hR
  refine bo ?_
  refine bl.all (by simp[eZ]) ?_
  have hRL:R<4294967296^(la+1):=Nat.lt_of_lt_of_le hR (Nat.pow_le_pow_right qO qO)
  have hRw:R<4294967296^(i+(n+1)+1):=by rw[show i+(n+1)+1=n+(i+1)+1 by omega];exact hR
  obtain⟨q,⟨q1,q2,q3⟩,hgc⟩:=GG true false (dg (la+1) R) v i (n+1) (DM _ _) hnv qO (by rw[eZ];omega) (by rw[eZ];omega) (by rw[rC hRL];exact g2) (by rw[rC hRL];exact hRw)
  rw[rC hRL]at q2 q3
  rw[show(i:Int)=(((i+1:Nat):Int)-1) by omega]at hgc
  refine aa.pure hgc ?_
  have htk:=KS false (la+1) R v i (n+1) q hnv qO qO q1 hRw
  rw[show(i:Int)=(((i+1:Nat):Int)-1) by omega]at htk
  have hup:R<(q+1)*v*4294967296^i:=by rwa[Nat.div_lt_iff_lt_mul (bX i)]at q2
  have hlow:(q-1)*v*4294967296^i<=R:=by rwa[Nat.le_div_iff_mul_le (bX i)]at q3
  by_cases hlt:R<q*v*4294967296^i
  ·rw[if_pos hlt,decide_eq_true hlt]at htk
   refine aa.vec (h:=0) qD rfl htk rfl (by intro a ha;simp at ha;rcases ha with rfl|rfl|rfl|rfl<;>intro k hk<;>simp only[AV.aT]at hk<;>subst hk<;>exact Nat.zero_lt_one) rfl ?_
   refine gv ?_
   obtain⟨q,rfl⟩:∃q',q=q'+1:=⟨q-1,by
    rcases Nat.eq_zero_or_pos q with h|h
    ·rw[h]at hlt;simp at hlt
    ·omega⟩
   rw[Nat.add_sub_cancel]at hlow
   refine xt q ?_
   have hP:(q+1)*v*4294967296^i=q*v*4294967296^i+v*4294967296^i:=by rw[Nat.add_mul,Nat.one_mul,Nat.add_mul]
   have hvP:v*4294967296^i<=4294967296^(i+(n+1)+1):=by
    have:v*4294967296^i<=4294967296^(n+1)*4294967296^i:=Nat.mul_le_mul_right _ (Nat.le_of_lt hvlt)
    rw[<-Nat.pow_add]at this
    exact Nat.le_trans this (Nat.pow_le_pow_right qO qO)
   have hbk:=K6 false (la+1) (R+4294967296^(i+(n+1)+1)-(q+1)*v*4294967296^i) v i (n+1) hnv qO qO qO
   rw[show(i:Int)=(((i+1:Nat):Int)-1) by omega]at hbk
   refine aa.vec (h:=0) qD rfl hbk rfl (by intro a ha;simp at ha;rcases ha with rfl|rfl|rfl<;>intro k hk<;>simp only[AV.aT]at hk<;>subst hk<;>exact Nat.zero_lt_one) rfl ?_
   have hU:(R+4294967296^(i+(n+1)+1)-(q+1)*v*4294967296^i+v*4294967296^i)%4294967296^(i+(n+1)+1)=R-q*v*4294967296^i:=by
    rw[show R+4294967296^(i+(n+1)+1)-(q+1)*v*4294967296^i+v*4294967296^i=(R-q*v*4294967296^i)+4294967296^(i+(n+1)+1) by omega,Nat.add_mod_right]
    exact Nat.mod_eq_of_lt qO
   refine ai.gS q qO ?_
   refine aK.mk i qO qO ?_
   refine cm.set qO ?_
   refine dp.set ?_
   refine kJ ((i:Int)-1) ?_
   refine⟨(i,R-q*v*4294967296^i,out.set i q),[0,1],⟨qO,?_,by simpa using g3,g4.set qO,Q*4294967296+q,?_,?_⟩,Nat.lt_succ_self i,
    aY ⟨congrArg (fun z=>aA.vec 100 1 (bV (dg (la+1) z))) hU.symm,rfl,trivial⟩⟩
   ·have h7:R<(q+1)*v*4294967296^i:=hlt
    rw[Nat.add_mul,Nat.one_mul,Nat.add_mul]at h7
    omega
   ·have hs:=jU out i (q) qO
    have hz:out.getD i 0=0:=by
     rw[ja g4,g5,Nat.pow_succ,Nat.mul_comm (4294967296^i),<-Nat.mul_assoc,Nat.mul_div_cancel _ (bX i),Nat.mul_mod_left]
    rw[hz,Nat.mul_zero,Nat.add_zero,g5,Nat.pow_succ]at hs
    rw[hs];grind
   ·have h8:q*v*4294967296^i<=R:=hlow
    rw[g6,Nat.pow_succ]
    have e:(Q*4294967296+q)*4294967296^i*v=Q*(4294967296^i*4294967296)*v+q*v*4294967296^i:=by grind
    rw[e];omega
  ·rw[if_neg hlt,decide_eq_false hlt]at htk
   refine aa.vec (h:=0) qD rfl htk rfl (by intro a ha;simp at ha;rcases ha with rfl|rfl|rfl|rfl<;>intro k hk<;>simp only[AV.aT]at hk<;>subst hk<;>exact Nat.zero_lt_one) rfl ?_
   refine fI ?_
   refine ai.gS q qO ?_
   refine aK.mk i qO qO ?_
   refine cm.set qO ?_
   refine dp.set ?_
   refine kJ ((i:Int)-1) ?_
   refine⟨(i,R-q*v*4294967296^i,out.set i q),[0,1],⟨qO,?_,by simpa using g3,g4.set qO,Q*4294967296+q,?_,?_⟩,Nat.lt_succ_self i,
    aY⟩
   ·have h7:R<(q+1)*v*4294967296^i:=hup
    rw[Nat.add_mul,Nat.one_mul,Nat.add_mul]at h7
    omega
   ·have hs:=jU out i (q) qO
    have hz:out.getD i 0=0:=by
     rw[ja g4,g5,Nat.pow_succ,Nat.mul_comm (4294967296^i),<-Nat.mul_assoc,Nat.mul_div_cancel _ (bX i),Nat.mul_mod_left]
    rw[hz,Nat.mul_zero,Nat.add_zero,g5,Nat.pow_succ]at hs
    rw[hs];grind
   ·have h8:q*v*4294967296^i<=R:=qO
    rw[g6,Nat.pow_succ]
    have e:(Q*4294967296+q)*4294967296^i*v=Q*(4294967296^i*4294967296)*v+q*v*4294967296^i:=by grind
    rw[e];omega
theorem Iw (m m':Bool) (a b:Nat) (ha:az a<=137438953472) (hb:az b<=137438953472):ae Tryz.prog 125 [bF m a,bF m' b] (.p (cg (Nat.gcd a b))) []:=by
 refine aW Tryz.func125 ?_
 refine aa.pure (pN m a qO) ?_
 refine aa.pure (pN m' b qO) ?_
 refine aJ.mk (Nat×Nat) (fun(x,y)=>([(0,.p (cg x)),(1,.p (cg y))],[])) (fun(x,y)=>az x<=137438953472/\az y<=137438953472/\Nat.gcd x y=Nat.gcd a b) (fun x=>x.2) (a,b) []
  ⟨ha,hb,rfl⟩ aY ?_
 intro⟨x,y⟩ ⟨h1,h2,h3⟩
 refine SZ.mk (az y:Int) qS ?_
 by_cases hy:y=0
 ·subst hy
  refine ao.no (decide_eq_false (by rw[aw.2 rfl];decide)) ?_
  refine aa.pure (pN false x qO) ?_
  rw[<-h3,Nat.gcd_zero_right]
  exact ab.pure (.p _ (.sl _ _ (aL _)))
 ·have hn:=mt aw.1 hy
  refine bo ?_
  have hd:=wT false false x y h1 h2
  rw[if_neg hy]at hd
  refine aa.aO hd (fun _=>rfl) ?_
  have hr:x%y<y:=Nat.mod_lt _ qO
  exact⟨(y,x%y),[],⟨h2,Nat.le_trans (dz (Nat.le_of_lt hr)) h2,by rw[<-h3,Nat.gcd_comm,<-Nat.gcd_rec,Nat.gcd_comm]⟩,hr,aY⟩
def cZ (neg:Bool) (n:Nat):Int:=if neg then-(n:Int)else n
abbrev aB (q:Rat):PV:=.agg [.bool (decide (q.num<0)),cg q.num.natAbs,cg q.den]
def iW (neg:Bool) (n d:Nat):Rat:=mkRat (cZ neg n) d
theorem tD (neg:Bool) (n:Nat):(cZ neg n).natAbs=n:=by cases neg<;>simp[cZ]
theorem aG (b:Bool) (x y:Nat):ct (.agg [.bool b,cg x,cg y]):=.agg _ fun c hc=>by
 simp at hc
 rcases hc with rfl|rfl|rfl
 ·exact .bool _
 ·exact .sl _ _ (aL _)
 ·exact .sl _ _ (aL _)
theorem gX:cg 0= .sl false 1 []:=by simp[dH]
theorem e8:aB 0= .agg [.bool false,.sl false 1 [],cg 1]:=by
 show PV.agg [.bool (decide ((0:Int)<0)),cg (0:Int).natAbs,cg 1]=_
 rw[show(0:Int).natAbs=0 from rfl,gX];rfl
theorem Dx {neg:Bool} {n d:Nat} (hd:d≠0):(iW neg n d).num.natAbs=n/Nat.gcd n d/\(iW neg n d).den=d/Nat.gcd n d/\(n≠0->((iW neg n d).num<0↔neg=true)):=by
 have e:iW neg n d=Rat.normalize (cZ neg n) d hd:=by simp[iW,mkRat,hd]
 rw[e,Rat.normalize_eq]
 simp only[tD]
 have hg:0<Nat.gcd n d:=Nat.gcd_pos_of_pos_right _ qO
 have hdv:Nat.gcd n d∣n:=Nat.gcd_dvd_left n d
 have key:cZ neg n/((Nat.gcd n d:Nat):Int)=cZ neg (n/Nat.gcd n d):=by
  cases neg
  ·simp[cZ]
  ·simp only[cZ,if_true]
   rw[Int.neg_ediv_of_dvd (Int.natCast_dvd_natCast.2 hdv)]
   simp
 simp only[key]
 refine⟨tD _ _,trivial,fun hn=>?_⟩
 have hp:0<n/Nat.gcd n d:=Nat.div_pos (Nat.le_of_dvd qO hdv) hg
 cases neg
 ·simp only[cZ,Bool.false_eq_true,if_false,iff_false];omega
 ·simp only[cZ,if_true,iff_true];omega
theorem sR {neg:Bool} {n d:Nat} (hd:d≠0) (hn:n≠0):aB (iW neg n d)= .agg [.bool neg,cg (n/Nat.gcd n d),cg (d/Nat.gcd n d)]:=by
 obtain⟨h1,h2,h3⟩:=Dx (neg:=neg) (n:=n) hd
 simp only[aB,h1,h2]
 congr 3
 have h3:=h3 hn
 cases neg<;>simp at h3⊢<;>omega
theorem Ci:ae Tryz.prog 129 [] (.p (cg 1)) []:=by
 refine aW Tryz.func129 ?_
 refine aa.pure (pvs:=[.int .u64 1]) (q9 1 qO) ?_
 exact ab.pure (.p _ (.sl _ _ (aL _)))
theorem Lq:ae Tryz.prog 124 [] (.p (aB 0)) []:=by
 refine aW Tryz.func124 ?_
 refine aa.pure Ci ?_
 refine ab.pure ?_
 rw[e8]
 refine .p _ ?_
 have:=aG false 0 1
 rwa[gX]at this
theorem tg (neg:Bool) (m m':Bool) (n d:Nat) (hd:d≠0) (hn':az n<=137438953472) (hd':az d<=137438953472):
  ae Tryz.prog 74 [.bool neg,bF m n,bF m' d] (.p (aB (iW neg n d))) []:=by
 refine aW Tryz.func74 ?_
 refine SZ.mk (az n:Int) qS ?_
 by_cases hn:n=0
 ·subst hn
  refine ao.yes (jx (by rw[aw.2 rfl];rfl)) ?_
  refine aa.pure Lq ?_
  refine ab.pure ?_
  rw[show iW neg 0 d=0 by cases neg<;>simp[iW,cZ]]
  exact .p _ (aG _ _ _)
 ·refine ao.no (iO (by have:=mt aw.1 hn;omega)) ?_
  have hg:0<Nat.gcd n d:=Nat.gcd_pos_of_pos_right _ qO
  have hgl:az (Nat.gcd n d)<=137438953472:=Nat.le_trans (dz (Nat.gcd_le_right _ qO)) hd'
  refine aa.pure (Iw m m' n d hn' hd') ?_
  have h1:=wT m false n (Nat.gcd n d) hn' hgl
  have h2:=wT m' false d (Nat.gcd n d) hd' hgl
  rw[if_neg qO]at h1 h2
  refine aa.aO h1 (fun _=>rfl) ?_
  refine aa.aO h2 (fun _=>rfl) ?_
  refine ab.pure ?_
  rw[sR hd hn]
  exact .p _ (aG _ _ _)
theorem xd (neg:Bool) (m m':Bool) (n d:Nat) (hd:d≠0) (hn':az n<=137438953472) (hd':az d<=137438953472):
  ae Tryz.prog 31 [.bool neg,bF m n,bF m' d] (.bK [.p (aB (iW neg n d)),.p (.int .i64 0)]) []:=by
 refine aW Tryz.func31 ?_
 refine SZ.mk (az d:Int) qS ?_
 refine ao.no (iO (by have:=mt aw.1 hd;omega)) ?_
 refine aa.pure (tg neg m m' n d hd hn' hd') ?_
 refine ab.pure ?_
 exact .bK rfl fun i c d e1 e2=>by
  match i,e1,e2 with
  |0,e1,e2=>cases e1;cases e2;exact .p _ (aG _ _ _)
  |1,e1,e2=>cases e1;cases e2;exact .p _ (.int _ _)
theorem GX (neg:Bool) (m m':Bool) (n:Nat):
  ae Tryz.prog 31 [.bool neg,bF m n,bF m' 0] (.bK [.p (.agg [.bool false,.sl false 1 [],.sl false 1 []]),.p (.int .i64 5)]) []:=by
 refine aW Tryz.func31 ?_
 refine SZ.mk 0 (by simp[dH]) ?_
 refine ao.yes rfl ?_
 refine ab.pure ?_
 exact .bK rfl fun i c d e1 e2=>by
  match i,e1,e2 with
  |0,e1,e2=>
   cases e1;cases e2
   have:=aG false 0 0
   rw[gX]at this
   exact .p _ this
  |1,e1,e2=>cases e1;cases e2;exact .p _ (.int _ _)
theorem Gi (b:Bool) (x y:Nat) (hx:az x<=1099511627776) (hy:az y<=1099511627776):ae Tryz.prog 133 [.agg [.bool b,cg x,cg y]] (.p (.agg [.bool b,cg x,cg y])) []:=by
 refine aW Tryz.func133 ?_
 refine gx ?_
 iterate 2 refine aq ?_
 refine ag (aa.pure (kG false (nl x) hx) af) ?_
 iterate 2 refine aq ?_
 refine ag (aa.pure (kG false (nl y) hy) af) ?_
 iterate 4 refine aq ?_
 refine ab.pure ?_
 exact .p _ (aG _ _ _)
theorem Od (q:Rat) (hx:az q.num.natAbs<=1099511627776) (hy:az q.den<=1099511627776):ae Tryz.prog 78 [aB q] (.p (.agg [.bool false,cg q.num.natAbs,cg q.den])) []:=by
 refine aW Tryz.func78 ?_
 refine aa.pure (Gi _ _ _ hx hy) ?_
 refine ab.pure ?_
 exact .p _ (aG _ _ _)
theorem x5 (q:Rat) (hx:az q.num.natAbs<=1099511627776) (hy:az q.den<=1099511627776):ae Tryz.prog 103 [aB q] (.p (aB (-q))) []:=by
 refine aW Tryz.func103 ?_
 refine aa.pure (Gi _ _ _ hx hy) ?_
 have hn:aB (-q)= .agg [.bool (decide (0<q.num)),cg q.num.natAbs,cg q.den]:=by
  simp only[aB,Rat.neg_num,Rat.neg_den,Int.natAbs_neg]
  congr 3
  by_cases h:0<q.num<;>simp[h]<;>omega
 rw[hn]
 by_cases h:q.num<0
 ·refine ao.no (by simp[h]) ?_
  refine ab.pure ?_
  rw[decide_eq_false qO]
  exact .p _ (aG _ _ _)
 ·refine ao.yes (by simp[h]) ?_
  refine SZ.mk (az q.num.natAbs:Int) qS ?_
  have h0:=aw (n:=q.num.natAbs)
  by_cases hz:q.num=0
  ·refine ao.no (decide_eq_false (by rw[h0.2 qO];decide)) ?_
   refine ab.pure ?_
   rw[decide_eq_false qO]
   exact .p _ (aG _ _ _)
  ·refine ao.yes (decide_eq_true (by have:=mt h0.1 qO;omega)) ?_
   refine ab.pure ?_
   rw[decide_eq_true qO]
   exact .p _ (aG _ _ _)
structure Sz (q:Rat) (k:Nat):Prop where
 n:az q.num.natAbs<=k
 d:az q.den<=k
theorem xk (q:Rat):cZ (decide (q.num<0)) q.num.natAbs=q.num:=by
 by_cases h:q.num<0
 ·simp only[cZ,decide_eq_true h,if_true];omega
 ·simp only[cZ,decide_eq_false h,Bool.false_eq_true,if_false];omega
theorem Ki (a b:Bool) (x y:Nat):cZ (a !=b) (x*y)=cZ a x*cZ b y:=by
 cases a<;>cases b<;>simp[cZ]<;>grind
theorem KN (a:Bool) (x y:Nat):cZ a (x+y)=cZ a x+cZ a y:=by
 cases a<;>simp[cZ]<;>grind
theorem Db {a b:Bool} (hab:a≠b) {x y:Nat} (h:y<=x):cZ a (x-y)=cZ a x+cZ b y:=by
 cases a<;>cases b<;>simp[cZ]at hab⊢<;>omega
theorem mul_eq (p q:Rat):p*q=iW (decide (p.num<0) !=decide (q.num<0)) (p.num.natAbs*q.num.natAbs) (p.den*q.den):=by
 rw[Rat.mul_def,iW,Rat.normalize_eq_mkRat,Ki,xk,xk]
theorem add_eq (p q:Rat):p+q=mkRat (p.num*q.den+q.num*p.den) (p.den*q.den):=by
 rw[Rat.add_def,Rat.normalize_eq_mkRat]
theorem EU (a:Bool) (x y:Nat):cZ a (x*y)=cZ a x*(y:Int):=by
 cases a<;>simp[cZ]<;>grind
theorem nN (p q:Rat):p.num*(q.den:Int)=cZ (decide (p.num<0)) (p.num.natAbs*q.den):=by
 rw[EU,xk]
theorem BD (p q:Rat) (hq:q≠0):p/q=iW (decide (p.num<0) !=decide (q.num<0)) (p.num.natAbs*q.den) (p.den*q.num.natAbs):=by
 have hqn:q.num≠0:=by intro h;exact hq (Rat.num_eq_zero.1 h)
 have e1:p=(p.num:Rat)/(p.den:Rat):=by rw[<-Rat.mkRat_eq_div,Rat.mkRat_self]
 have e2:q=(q.num:Rat)/(q.den:Rat):=by rw[<-Rat.mkRat_eq_div,Rat.mkRat_self]
 have hpd:(p.den:Rat)≠0:=by have:=p.den_nz;exact_mod_cast this
 have hqd:(q.den:Rat)≠0:=by have:=q.den_nz;exact_mod_cast this
 rw[iW,Rat.mkRat_eq_div]
 conv=>lhs;rw[e1,e2]
 generalize hN:p.num=pn
 generalize hM:q.num=qn at*
 generalize p.den=pd at*
 generalize q.den=qd at*
 have hs:cZ (decide (pn<0) !=decide (qn<0)) (pn.natAbs*qd)*qn=pn*qd*(qn.natAbs:Int):=by
  by_cases h1:pn<0<;>by_cases h2:qn<0<;>simp[cZ,h1,h2]<;>grind
 have hs':(cZ (decide (pn<0) !=decide (qn<0)) (pn.natAbs*qd):Rat)*(qn:Rat)=(pn:Rat)*(qd:Rat)*(qn.natAbs:Rat):=by exact_mod_cast hs
 have hqn':(qn:Rat)≠0:=by exact_mod_cast hqn
 have hqa:((qn.natAbs:Nat):Rat)≠0:=by
  have:qn.natAbs≠0:=qO
  exact_mod_cast this
 rw[Rat.natCast_mul]
 grind
theorem FP {a b k:Nat} (ha:az a<=k) (hb:az b<=k):az (a+b)<=k+1:=by have:=sN a b;omega
theorem eu {a b j k:Nat} (ha:az a<=j) (hb:az b<=k):az (a*b)<=j+k:=by have:=FU a b;omega
theorem Sz.neg {p:Rat} {k:Nat} (hp:Sz p k):Sz (-p) k:=⟨by rw[Rat.neg_num,Int.natAbs_neg];exact hp.n,hp.d⟩
theorem cE (p q:Rat) {j k:Nat} (hp:Sz p j) (hq:Sz q k) (h:j+k<=137438953472):ae Tryz.prog 47 [aB p,aB q] (.p (aB (p*q))) []:=by
 refine aW Tryz.func47 ?_
 have h1:=hp.n
 have h2:=hp.d
 have h3:=hq.n
 have h4:=hq.d
 have hl:=tg (decide (p.num<0) !=decide (q.num<0)) false false (p.num.natAbs*q.num.natAbs) (p.den*q.den) (Nat.mul_ne_zero p.den_nz q.den_nz) (Nat.le_trans (eu h1 h3) h) (Nat.le_trans (eu h2 h4) h)
 rw[<-mul_eq]at hl
 refine gx ?_
 iterate 4 refine aq ?_
 refine ag (ao.sym af) ?_
 iterate 4 refine aq ?_
 refine ag (aa.pure (f8 false false p.num.natAbs q.num.natAbs qO qO) af) ?_
 iterate 4 refine aq ?_
 refine ag (aa.pure (f8 false false p.den q.den qO qO) af) ?_
 refine ag (aa.pure hl af) ?_
 iterate 1 refine aq ?_
 exact ab.pure (.p _ (aG _ _ _))
theorem iS (p q:Rat) (hq0:q≠0) {j k:Nat} (hp:Sz p j) (hq:Sz q k) (h:j+k<=137438953472):ae Tryz.prog 45 [aB p,aB q] (.bK [.p (aB (p/q)),.p (.int .i64 0)]) []:=by
 refine aW Tryz.func45 ?_
 have h1:=hp.n
 have h2:=hp.d
 have h3:=hq.n
 have h4:=hq.d
 have hqn:q.num.natAbs≠0:=by intro e;exact hq0 (Rat.num_eq_zero.1 qO)
 have hl:=xd (decide (p.num<0) !=decide (q.num<0)) false false (p.num.natAbs*q.den) (p.den*q.num.natAbs) (Nat.mul_ne_zero p.den_nz hqn) (Nat.le_trans (eu h1 h4) h) (Nat.le_trans (eu h2 h3) h)
 rw[<-BD p q hq0]at hl
 refine gx ?_
 iterate 4 refine aq ?_
 refine ag (ao.sym af) ?_
 iterate 4 refine aq ?_
 refine ag (aa.pure (f8 false false p.num.natAbs q.den qO qO) af) ?_
 iterate 4 refine aq ?_
 refine ag (aa.pure (f8 false false p.den q.num.natAbs qO qO) af) ?_
 refine ag (aa.aO hl (fun _=>rfl) af) ?_
 iterate 4 refine aq ?_
 refine ab.pure ?_
 exact .bK rfl fun i c d e1 e2=>by
  match i,e1,e2 with
  |0,e1,e2=>cases e1;cases e2;exact .p _ (aG _ _ _)
  |1,e1,e2=>cases e1;cases e2;exact .p _ (.int _ _)
theorem add_same {p q:Rat} (h:decide (p.num<0)=decide (q.num<0)):p+q=iW (decide (p.num<0)) (p.num.natAbs*q.den+q.num.natAbs*p.den) (p.den*q.den):=by
 rw[add_eq,iW,KN,nN,nN,h]
theorem qw {p q:Rat} (h:decide (p.num<0)≠decide (q.num<0)) (hle:q.num.natAbs*p.den<=p.num.natAbs*q.den):p+q=iW (decide (p.num<0)) (p.num.natAbs*q.den-q.num.natAbs*p.den) (p.den*q.den):=by
 rw[add_eq,iW,Db h hle,nN,nN]
theorem pY {p q:Rat} (h:decide (p.num<0)≠decide (q.num<0)) (hle:p.num.natAbs*q.den<=q.num.natAbs*p.den):p+q=iW (decide (q.num<0)) (q.num.natAbs*p.den-p.num.natAbs*q.den) (p.den*q.den):=by
 rw[add_eq,iW,Db (Ne.symm h) hle,nN,nN,Int.add_comm]
theorem eh (p q:Rat) {j k:Nat} (hp:Sz p j) (hq:Sz q k) (h:j+k+1<=137438953472):ae Tryz.prog 46 [aB p,aB q] (.p (aB (p+q))) []:=by
 refine aW Tryz.func46 ?_
 have h1:=hp.n
 have h2:=hp.d
 have h3:=hq.n
 have h4:=hq.d
 have hd:=Nat.mul_ne_zero p.den_nz q.den_nz
 obtain⟨x,hx⟩:∃x,x=p.num.natAbs*q.den:=⟨_,rfl⟩
 obtain⟨y,hy⟩:∃y,y=q.num.natAbs*p.den:=⟨_,rfl⟩
 obtain⟨d,hdd⟩:∃d,d=p.den*q.den:=⟨_,rfl⟩
 have hxl:az x<=j+k:=by rw[hx];exact eu h1 h4
 have hyl:az y<=j+k:=by rw[hy,Nat.add_comm];exact eu h3 h2
 have hdl:az d<=j+k:=by rw[hdd];exact eu h2 h4
 have m1:=f8 false false p.num.natAbs q.den qO qO
 have m2:=f8 false false q.num.natAbs p.den qO qO
 have m3:=f8 false false p.den q.den qO qO
 rw[<-hx]at m1
 rw[<-hy]at m2
 rw[<-hdd]at m3 hd
 refine gx ?_
 iterate 4 refine aq ?_
 refine ag (aa.pure m1 af) ?_
 iterate 4 refine aq ?_
 refine ag (aa.pure m2 af) ?_
 iterate 4 refine aq ?_
 refine ag (aa.pure m3 af) ?_
 iterate 3 refine aq ?_
 by_cases hs:decide (p.num<0)=decide (q.num<0)
 ·refine ao.yes (beq_iff_eq.2 hs) ?_
  have hl:=tg (decide (p.num<0)) false false (x+y) d hd (Nat.le_trans (FP hxl hyl) qO) qO
  rw[hx,hy,hdd,<-add_same hs]at hl
  have hA:=HX false false x y qO qO
  rw[hx,hy]at hA
  rw[hx,hy,hdd]
  refine gx ?_
  iterate 4 refine aq ?_
  refine ag (aa.pure hA af) ?_
  iterate 1 refine aq ?_
  refine ag (aa.pure hl af) ?_
  iterate 1 refine aq ?_
  exact ab.pure (.p _ (aG _ _ _))
 ·refine ao.no (beq_eq_false_iff_ne.2 hs) ?_
  have hS:=tY false false x y qO qO
  by_cases hle:y<=x
  ·rw[if_pos hle]at hS
   have hl:=tg (decide (p.num<0)) false false (x-y) d hd (Nat.le_trans (dz (Nat.sub_le _ _)) qO) qO
   rw[hx,hy]at hle
   rw[hx,hy,hdd,<-qw hs hle]at hl
   rw[hx,hy]at hS
   rw[hx,hy,hdd]
   refine aa.aO hS (fun _=>rfl) ?_
   refine ao.yes rfl ?_
   refine aa.pure hl ?_
   exact ab.pure (.p _ (aG _ _ _))
  ·rw[if_neg hle]at hS
   have hle':x<=y:=qO
   have hS2:=tY false false y x qO qO
   rw[if_pos hle']at hS2
   have hl:=tg (decide (q.num<0)) false false (y-x) d hd (Nat.le_trans (dz (Nat.sub_le _ _)) qO) qO
   rw[hx,hy]at hle'
   rw[hx,hy,hdd,<-pY hs hle']at hl
   rw[hx,hy]at hS hS2
   rw[hx,hy,hdd]
   refine aa.aO hS (fun _=>rfl) ?_
   refine ao.no rfl ?_
   refine aa.aO hS2 (fun _=>rfl) ?_
   refine aa.pure hl ?_
   exact ab.pure (.p _ (aG _ _ _))
theorem dh (p q:Rat) {j k:Nat} (hp:Sz p j) (hq:Sz q k) (h:j+k+1<=137438953472):ae Tryz.prog 43 [aB p,aB q] (.p (aB (p-q))) []:=by
 refine aW Tryz.func43 ?_
 have h3:=hq.n
 have h4:=hq.d
 have hA:=eh p (-q) hp hq.neg h
 rw[<-Rat.sub_eq_add_neg]at hA
 refine gx ?_
 iterate 2 refine aq ?_
 refine ag (aa.pure (x5 q qO qO) af) ?_
 refine ag (aa.pure hA af) ?_
 iterate 1 refine aq ?_
 exact ab.pure (.p _ (aG _ _ _))
abbrev H0 (q:Rat):PV:=.agg [.bool (decide (q.num<0)),.bool (decide (q.num=0))]
theorem qX (a b:Bool):ct (.agg [.bool a,.bool b]):=.agg _ fun c hc=>by
 simp at hc
 rcases hc with rfl|rfl<;>exact .bool _
theorem CU (q:Rat):ae Tryz.prog 80 [aB q] (.p (H0 q)) []:=by
 refine aW Tryz.func80 ?_
 have h0:=aw (n:=q.num.natAbs)
 by_cases h:q.num<0
 ·rw[aB,H0,decide_eq_true h,decide_eq_false (show ¬q.num=0 by omega)]
  refine gv ?_
  refine SZ.mk (az q.num.natAbs:Int) qS ?_
  have hp:=mt h0.1 qO
  refine bo ?_
  refine SZ.mk (az q.num.natAbs:Int) qS ?_
  refine ao.no (iO qO) ?_
  exact ab.pure (.p _ (qX _ _))
 ·rw[aB,H0,decide_eq_false h]
  refine fI ?_
  refine SZ.mk (az q.num.natAbs:Int) qS ?_
  by_cases hz:q.num=0
  ·have hp:=h0.2 qO
   refine ao.yes (jx qO) ?_
   rw[decide_eq_true hz]
   exact ab.pure (.p _ (qX _ _))
  ·have hp:=mt h0.1 qO
   refine ao.no (iO qO) ?_
   rw[decide_eq_false hz]
   exact ab.pure (.p _ (qX _ _))
def nF (p q:Rat):Int:=if p<q then-1 else if p=q then 0 else 1
theorem Nu {p q:Rat}:p<q↔p.num*(q.den:Int)<q.num*(p.den:Int):=Rat.lt_iff p q
theorem Nb {p q:Rat}:p=q↔p.num*(q.den:Int)=q.num*(p.den:Int):=by
 constructor
 ·intro h;rw[h]
 ·intro h
  have h1:=(Rat.le_iff p q).2 qO
  have h2:=(Rat.le_iff q p).2 qO
  exact Rat.le_antisymm h1 h2
theorem CK (p q:Rat):nF p q=if p.num*(q.den:Int)<q.num*(p.den:Int)then-1 else if p.num*(q.den:Int)=q.num*(p.den:Int)then 0 else 1:=by
 simp only[nF,Nu,Nb]
theorem fJ (p q:Rat) {j k:Nat} (hp:Sz p j) (hq:Sz q k) (h:j+k<=137438953472):ae Tryz.prog 36 [aB p,aB q] (.p (.int .i64 (nF p q))) []:=by
 refine aW Tryz.func36 ?_
 refine gx ?_
 refine aq ?_
 refine ag (aa.pure (CU p) af) ?_
 refine aq ?_
 refine ag (aa.pure (CU q) af) ?_
 iterate 4 refine aq ?_
 have hpd:(0:Int)<(p.den:Int):=by have:=p.den_nz;omega
 have hqd:(0:Int)<(q.den:Int):=by have:=q.den_nz;omega
 have h1:=hp.n
 have h2:=hp.d
 have h3:=hq.n
 have h4:=hq.d
 have hP:p.num*(q.den:Int)=cZ (decide (p.num<0)) (p.num.natAbs*q.den):=nN p q
 have hQ:q.num*(p.den:Int)=cZ (decide (q.num<0)) (q.num.natAbs*p.den):=nN q p
 have m1:=f8 false false p.num.natAbs q.den qO qO
 have m2:=f8 false false q.num.natAbs p.den qO qO
 have x0:p.num≠0->0<p.num.natAbs*q.den:=fun h=>Nat.mul_pos qO qO
 have y0:q.num≠0->0<q.num.natAbs*p.den:=fun h=>Nat.mul_pos qO qO
 have xz:p.num=0->p.num.natAbs*q.den=0:=fun h=>by rw[h];simp
 have yz:q.num=0->q.num.natAbs*p.den=0:=fun h=>by rw[h];simp
 have hxl:az (p.num.natAbs*q.den)<=j+k:=eu h1 h4
 have hyl:az (q.num.natAbs*p.den)<=j+k:=by rw[Nat.add_comm];exact eu h3 h2
 have m3:=lB false false (p.num.natAbs*q.den) (q.num.natAbs*p.den) qO qO
 rw[CK,hP,hQ]
 generalize hx:p.num.natAbs*q.den=x at*
 generalize hy:q.num.natAbs*p.den=y at*
 by_cases p1:p.num<0
 ·have p2:¬p.num=0:=qO
  have x1:=x0 p2
  rw[decide_eq_true p1,decide_eq_false p2]
  by_cases q1:q.num<0
  ·have q2:¬q.num=0:=qO
   rw[decide_eq_true q1,decide_eq_false q2]
   refine ao.no rfl ?_
   refine gx ?_
   iterate 4 refine aq ?_
   refine ag (aa.pure m1 af) ?_
   iterate 4 refine aq ?_
   refine ag (aa.pure m2 af) ?_
   refine ag (aa.pure m3 af) ?_
   iterate 1 refine aq ?_
   refine gv ?_
   refine ai.bD (0-cF x y) rfl (by simp only[cF];split<;>(try split)<;>omega) ?_
   refine ab.pure ?_
   rw[show(if cZ true x<cZ true y then(-1:Int)else if cZ true x=cZ true y then 0 else 1)=0-cF x y by
    simp only[cZ,if_true,cF]
    rcases Nat.lt_trichotomy x y with h|h|h
    ·rw[if_neg qO,if_neg qO,if_pos h];rfl
    ·rw[if_neg qO,if_pos qO,if_neg qO,if_pos h];rfl
    ·rw[if_pos qO,if_neg qO,if_neg qO];rfl]
   exact .p _ (.int _ _)
  ·rw[decide_eq_false q1]
   by_cases q2:q.num=0
   ·rw[decide_eq_true q2]
    refine ao.yes rfl ?_
    refine gv ?_
    refine ab.pure ?_
    rw[show(if cZ true x<cZ false y then(-1:Int)else if cZ true x=cZ false y then 0 else 1)= -1 by
     simp only[cZ,if_true,Bool.false_eq_true,if_false]
     rw[if_pos qO]]
    exact .p _ (.int _ _)
   ·rw[decide_eq_false q2]
    refine ao.yes rfl ?_
    refine gv ?_
    refine ab.pure ?_
    rw[show(if cZ true x<cZ false y then(-1:Int)else if cZ true x=cZ false y then 0 else 1)= -1 by
     simp only[cZ,if_true,Bool.false_eq_true,if_false]
     rw[if_pos qO]]
    exact .p _ (.int _ _)
 ·rw[decide_eq_false p1]
  by_cases p2:p.num=0
  ·have x1:=xz p2
   rw[decide_eq_true p2]
   by_cases q1:q.num<0
   ·have q2:¬q.num=0:=qO
    have y1:=y0 q2
    rw[decide_eq_true q1,decide_eq_false q2]
    refine ao.yes rfl ?_
    refine fI ?_
    refine gv ?_
    refine ao.no rfl ?_
    refine ab.pure ?_
    rw[show(if cZ false x<cZ true y then(-1:Int)else if cZ false x=cZ true y then 0 else 1)=1 by
     simp only[cZ,if_true,Bool.false_eq_true,if_false]
     rw[if_neg qO,if_neg qO]]
    exact .p _ (.int _ _)
   ·rw[decide_eq_false q1]
    by_cases q2:q.num=0
    ·rw[decide_eq_true q2]
     refine ao.no rfl ?_
     refine gx ?_
     iterate 4 refine aq ?_
     refine ag (aa.pure m1 af) ?_
     iterate 4 refine aq ?_
     refine ag (aa.pure m2 af) ?_
     refine ag (aa.pure m3 af) ?_
     iterate 1 refine aq ?_
     refine fI ?_
     refine ab.pure ?_
     rw[show(if cZ false x<cZ false y then(-1:Int)else if cZ false x=cZ false y then 0 else 1)=cF x y by
      simp only[cZ,Bool.false_eq_true,if_false,cF]
      rcases Nat.lt_trichotomy x y with h|h|h
      ·rw[if_pos qO,if_pos h]
      ·rw[if_neg qO,if_pos qO,if_neg qO,if_pos h]
      ·rw[if_neg qO,if_neg qO,if_neg qO,if_neg qO]]
     exact .p _ (.int _ _)
    ·have y1:=y0 q2
     rw[decide_eq_false q2]
     refine ao.yes rfl ?_
     refine fI ?_
     refine gv ?_
     refine ao.yes rfl ?_
     refine ab.pure ?_
     rw[show(if cZ false x<cZ false y then(-1:Int)else if cZ false x=cZ false y then 0 else 1)= -1 by
      simp only[cZ,if_true,Bool.false_eq_true,if_false]
      rw[if_pos qO]]
     exact .p _ (.int _ _)
  ·have x1:=x0 p2
   rw[decide_eq_false p2]
   by_cases q1:q.num<0
   ·have q2:¬q.num=0:=qO
    have y1:=y0 q2
    rw[decide_eq_true q1,decide_eq_false q2]
    refine ao.yes rfl ?_
    refine fI ?_
    refine fI ?_
    refine ab.pure ?_
    rw[show(if cZ false x<cZ true y then(-1:Int)else if cZ false x=cZ true y then 0 else 1)=1 by
     simp only[cZ,if_true,Bool.false_eq_true,if_false]
     rw[if_neg qO,if_neg qO]]
    exact .p _ (.int _ _)
   ·rw[decide_eq_false q1]
    by_cases q2:q.num=0
    ·have y1:=yz q2
     rw[decide_eq_true q2]
     refine ao.yes rfl ?_
     refine fI ?_
     refine fI ?_
     refine ab.pure ?_
     rw[show(if cZ false x<cZ false y then(-1:Int)else if cZ false x=cZ false y then 0 else 1)=1 by
      simp only[cZ,if_true,Bool.false_eq_true,if_false]
      rw[if_neg qO,if_neg qO]]
     exact .p _ (.int _ _)
    ·have y1:=y0 q2
     rw[decide_eq_false q2]
     refine ao.no rfl ?_
     refine gx ?_
     iterate 4 refine aq ?_
     refine ag (aa.pure m1 af) ?_
     iterate 4 refine aq ?_
     refine ag (aa.pure m2 af) ?_
     refine ag (aa.pure m3 af) ?_
     iterate 1 refine aq ?_
     refine fI ?_
     refine ab.pure ?_
     rw[show(if cZ false x<cZ false y then(-1:Int)else if cZ false x=cZ false y then 0 else 1)=cF x y by
      simp only[cZ,Bool.false_eq_true,if_false,cF]
      rcases Nat.lt_trichotomy x y with h|h|h
      ·rw[if_pos qO,if_pos h]
      ·rw[if_neg qO,if_pos qO,if_neg qO,if_pos h]
      ·rw[if_neg qO,if_neg qO,if_neg qO,if_neg qO]]
     exact .p _ (.int _ _)
theorem sQ (p q:Rat) {j k:Nat} (hp:Sz p j) (hq:Sz q k) (h:j+k<=137438953472):ae Tryz.prog 94 [aB p,aB q] (.p (.bool (decide (p=q)))) []:=by
 refine aW Tryz.func94 ?_
 refine aa.pure (fJ p q hp hq h) ?_
 by_cases e:p=q
 ·have hz:nF p q=0:=by subst e;simp[nF,Rat.lt_irrefl]
  rw[hz,decide_eq_true e]
  refine ao.yes rfl ?_
  exact ab.pure (.tf true)
 ·have hz:nF p q≠0:=by simp only[nF,if_neg e];split<;>decide
  rw[decide_eq_false e]
  refine ao.no (iO hz) ?_
  exact ab.pure (.tf false)
theorem iF (m:Bool) (l:List Nat) (h:iR l) (hl:l.length<=1099511627776):ae Tryz.prog 108 [.sl m 1 (bV l)] (.p (cg (nv l))) []:=by
 refine aW Tryz.func108 ?_
 refine SZ.mk l.length qS ?_
 refine aJ.mk Nat (fun n=>([(0,.p (.sl m 1 (bV l))),(3,.p (.int .i64 n))],[])) (fun n=>n<=l.length/\nv (l.take n)=nv l) id l.length [] ⟨Nat.le_refl _,qS⟩
  aY ?_
 intro n ⟨hn,hv⟩
 have done:(n=0\/l.getD (n-1) 0≠0)->_:=fun h2=>DX h hn hv h2
 by_cases h0:n=0
 ·refine bd ?_
  refine SZ.mk n rfl ?_
  refine cm.mk qS ?_
  refine fO.mk 0 n rfl rfl qO (by simp;omega) ?_
  have e:=done (.inl h0)
  have hl2:(nl (nv l)).length<=1099511627776:=by rw[<-e,List.length_take];omega
  refine dp.mk (bV (nl (nv l))) (by rw[<-e];simp[List.map_take]) ?_
  refine cG.mk (by simp;omega) (by simp;omega) ?_
  exact ab.pure (xu rfl qS)
 ·refine bo ?_
  refine a5 (n-1) ?_
  refine aF.lb (n-1) rfl qO ?_
  by_cases h1:l.getD (n-1) 0=0
  ·refine ao.yes (jx qO) ?_
   refine a5 (n-1) ?_
   exact⟨n-1,[],⟨qO,(pC h0 hn h1).trans hv⟩,by simp;omega,aY⟩
  ·refine ao.no (iO qO) ?_
   refine SZ.mk n rfl ?_
   refine cm.mk qS ?_
   refine fO.mk 0 n rfl rfl qO (by simp;omega) ?_
   have e:=done (.inr h1)
   have hl2:(nl (nv l)).length<=1099511627776:=by rw[<-e,List.length_take];omega
   refine dp.mk (bV (nl (nv l))) (by rw[<-e];simp[List.map_take]) ?_
   refine cG.mk (by simp;omega) (by simp;omega) ?_
   exact ab.pure (xu rfl qS)
theorem mE (m:Bool) (a:Nat) (ha:az a<=1099511627776):ae Tryz.prog 108 [bF m a] (.p (cg a)) []:=by
 have:=iF m (nl a) (cp a) ha
 rwa[yI]at this
theorem Jo (v:Nat) (hv:v<18446744073709551616):ae Tryz.prog 122 [.int .u64 v] (.p (cg v)) []:=by
 refine aW Tryz.func122 ?_
 refine ai.gS (v%4294967296) qO ?_
 refine gZ ?_
 refine ai.gS (v/4294967296) qO ?_
 refine bl.all rfl ?_
 refine aa.pure (iF true [v%4294967296,v/4294967296] (.cons qO (.cons qO .nil)) qS) ?_
 have:nv [v%4294967296,v/4294967296]=v:=by simp only[nv];omega
 rw[this]
 exact ab.pure (.p _ (.sl _ _ (aL _)))
theorem qG (m:Bool) (l:List Nat) (h:iR l) (i:Nat):ae Tryz.prog 114 [.sl m 1 (bV l),.int .i64 i] (.p (.int .u64 ((l.getD i 0:Nat):Int))) []:=by
 refine aW Tryz.func114 ?_
 refine SZ.mk l.length qS ?_
 by_cases h2:i<l.length
 ·refine bo ?_
  refine aF.lb i rfl qO ?_
  have:=bC h i
  refine ai.u64 qO ?_
  exact ab.pure (.p _ (.int _ _))
 ·refine bd ?_
  rw[eJ l 0 qO]
  exact ab.pure (.p _ (.int _ _))
theorem kO (m m':Bool) (a b:Nat) (ha:az a<=549755813888) (hb:az b<=549755813888):ae Tryz.prog 49 [bF m a,bF m' b] (.p (.int .i64 (cF a b))) []:=by
 refine aW Tryz.func49 ?_
 refine SZ.mk (az a) qS ?_
 refine SZ.mk (az b) qS ?_
 by_cases hne:az a=az b
 ·refine ao.no (uQ qO) ?_
  refine SZ.mk (az a) qS ?_
  refine aJ.mk Nat (fun i=>([(0,.p (bF m a)),(1,.p (bF m' b)),(5,.p (.int .i64 i))],[])) (fun i=>i<=az a/\a/4294967296^i=b/4294967296^i) id (az a) []
   ⟨Nat.le_refl _,by rw[Nat.div_eq_of_lt (cH a),hne,Nat.div_eq_of_lt (cH b)]⟩ aY ?_
  intro i ⟨h1,h2⟩
  by_cases h0:i=0
  ·refine bd ?_
   subst h0
   have:a=b:=by simpa using h2
   refine ab.pure ?_
   rw[show cF a b=0 by simp[cF,this]]
   exact .p _ (.int _ _)
  ·refine bo ?_
   obtain⟨i,rfl⟩:=Nat.exists_eq_succ_of_ne_zero h0
   refine gx ?_
   have e1:=bU a i
   have e2:=bU b i
   have q1:(nl a).length=az a:=rfl
   have q2:(nl b).length=az b:=rfl
   repeat refine aq ?_
   refine ag (kJ (i:Int) af) ?_
   refine ag (aF.lb i rfl qO af) ?_
   repeat refine aq ?_
   refine ag (kJ (i:Int) af) ?_
   refine ag (aF.lb i rfl qO af) ?_
   repeat refine aq ?_
   generalize hx:(nl a).getD i 0=x at e1⊢
   generalize hy:(nl b).getD i 0=y at e2⊢
   by_cases hlt:x<y
   ·refine ag (ao.yes (decide_eq_true qO) af) ?_
    refine ab.pure ?_
    rw[show cF a b= -1 by simp[cF,pc h2 (by rw[<-e1,<-e2];exact hlt)]]
    exact .p _ (.int _ _)
   ·refine ag (ao.no (decide_eq_false qO) af) ?_
    refine gx ?_
    repeat refine aq ?_
    refine ag (kJ (i:Int) af) ?_
    refine ag (aF.lb i rfl qO af) ?_
    repeat refine aq ?_
    refine ag (kJ (i:Int) af) ?_
    refine ag (aF.lb i rfl qO af) ?_
    repeat refine aq ?_
    rw[hx,hy]
    by_cases hxy:x=y
    ·refine ag (ao.no (decide_eq_false qO) af) ?_
     refine kJ (i:Int) ?_
     exact⟨i,[],⟨qO,Aq h2 (by rw[<-e1,<-e2];exact hxy)⟩,Nat.lt_succ_self i,aY⟩
    ·refine ag (ao.yes (decide_eq_true qO) af) ?_
     refine ab.pure ?_
     have:b<a:=pc h2.symm (by rw[<-e1,<-e2];omega)
     rw[show cF a b=1 by simp[cF,show ¬a<b by omega,show a≠b by omega]]
     exact .p _ (.int _ _)
 ·refine ao.yes (BA qO) ?_
  refine SZ.mk (az a) qS ?_
  refine SZ.mk (az b) qS ?_
  by_cases hlt:az a<az b
  ·refine bo ?_
   refine ab.pure ?_
   rw[show cF a b= -1 by simp[cF,kM hlt]]
   exact .p _ (.int _ _)
  ·refine bd ?_
   refine ab.pure ?_
   have:b<a:=kM qO
   rw[show cF a b=1 by simp[cF,show ¬a<b by omega,show a≠b by omega]]
   exact .p _ (.int _ _)
theorem Kg (m m':Bool) (a b:Nat) (ha:az a<=549755813887) (hb:az b<=549755813887):ae Tryz.prog 58 [bF m a,bF m' b] (.p (cg (a+b))) []:=by
 refine aW Tryz.func58 ?_
 obtain⟨L,hL⟩:∃L,L=max (az a) (az b)+1:=⟨_,rfl⟩
 refine SZ.mk (az a) qS ?_
 refine SZ.mk (az b) qS ?_
 refine SZ.mk ((max (az a) (az b):Nat):Int) (by show(if((az b:Nat):Int)>((az a:Nat):Int)then _ else _)=_;split<;>omega) ?_
 refine kJ (L:Int) ?_
 refine SZ.mk L rfl ?_
 refine cm.mk qS ?_
 refine cy.u32 L rfl qO ?_
 refine aJ.mk (Nat×Nat×List Nat) (fun(i,c,out)=>([(0,.p (bF m a)),(1,.p (bF m' b)),(5,.vec 0 1 0 L),(6,.p (.int .u64 c)),(7,.p (.int .i64 i))],[.vec 100 1 (bV out)]))
  (fun(i,c,out)=>i<=L/\c<=1/\out.length=L/\iR out/\nv (out.take i)+c*4294967296^i=a%4294967296^i+b%4294967296^i) (fun x=>L-x.1) (0,0,List.replicate L 0) [0]
  ⟨Nat.zero_le _,qS,qS,.replicate _,by simp[nv,Nat.mod_one]⟩
  (aY ⟨congrArg _ (bM L).symm,trivial⟩) ?_
 intro⟨i,c,out⟩ ⟨h1,h2,h3,h4,h5⟩
 refine SZ.mk L rfl ?_
 by_cases hi:i<L
 ·refine bo ?_
  refine aa.pure (qG m (nl a) (cp a) i) ?_
  have e1:=bU a i
  have e2:=bU b i
  have l1:(nl a).getD i 0<4294967296:=bC (cp a) i
  have l2:(nl b).getD i 0<4294967296:=bC (cp b) i
  generalize hx:(nl a).getD i 0=x at e1 l1⊢
  refine xt (c+x) ?_
  refine aa.pure (qG m' (nl b) (cp b) i) ?_
  generalize hy:(nl b).getD i 0=y at e2 l2⊢
  refine xt (c+(x+y)) ?_
  refine ai.gS ((c+(x+y))%4294967296) qO ?_
  refine aK.mk i rfl hi ?_
  refine cm.set qO ?_
  refine dp.set ?_
  refine gZ ?_
  refine a5 (i+1) ?_
  refine⟨(i+1,(c+(x+y))/4294967296,out.set i ((c+(x+y))%4294967296)),[0],⟨hi,qO,by simpa using h3,h4.set (Nat.mod_lt _ qO),?_⟩,cA,aY⟩
  rw[dU qO,Nat.pow_succ]
  exact AD h5 (by rw[<-e1,<-e2];omega)
 ·refine bd ?_
  have hiL:i=L:=qO
  subst hiL
  have hlt:a+b<4294967296^i:=by
   have:=cH (a+b)
   have h:=sN a b
   exact Nat.lt_of_lt_of_le this (Nat.pow_le_pow_right qO qO)
  rw[d5 a i qO,d5 b i qO,List.take_of_length_le qO]at h5
  have hc:c=0:=by
   rcases Nat.eq_zero_or_pos c with h|h
   ·exact h
   ·have:1*4294967296^i<=c*4294967296^i:=Nat.mul_le_mul_right _ h
    omega
  subst hc
  have hv:nv out=a+b:=qO
  refine bl.all (by simpa using h3.symm) ?_
  refine aa.pure (iF true out h4 qO) ?_
  rw[hv]
  exact ab.pure (.p _ (.sl _ _ (aL _)))
theorem Ar (m m':Bool) (a b:Nat) (ha:az a<=549755813888) (hba:b<=a):ae Tryz.prog 115 [bF m a,bF m' b] (.p (cg (a-b))) []:=by
 refine aW Tryz.func115 ?_
 obtain⟨L,hL⟩:∃L,L=az a:=⟨_,rfl⟩
 refine SZ.mk L (by simp[hL]) ?_
 refine SZ.mk L rfl ?_
 refine cm.mk qS ?_
 refine cy.u32 L rfl qO ?_
 refine aJ.mk (Nat×Nat×List Nat) (fun(i,c,out)=>([(0,.p (bF m a)),(1,.p (bF m' b)),(5,.vec 0 1 0 L),(6,.p (.int .u64 c)),(7,.p (.int .i64 i))],[.vec 100 1 (bV out)]))
  (fun(i,c,out)=>i<=L/\c<=1/\out.length=L/\iR out/\nv (out.take i)+b%4294967296^i=a%4294967296^i+c*4294967296^i) (fun x=>L-x.1) (0,0,List.replicate L 0) [0]
  ⟨Nat.zero_le _,qS,qS,.replicate _,by simp[nv,Nat.mod_one]⟩
  (aY ⟨congrArg _ (bM L).symm,trivial⟩) ?_
 intro⟨i,c,out⟩ ⟨h1,h2,h3,h4,h5⟩
 refine SZ.mk L (by simp[hL]) ?_
 by_cases hi:i<L
 ·refine bo ?_
  refine aa.pure (qG m (nl a) (cp a) i) ?_
  refine aa.pure (qG m' (nl b) (cp b) i) ?_
  have e1:=bU a i
  have e2:=bU b i
  have l1:(nl a).getD i 0<4294967296:=bC (cp a) i
  have l2:(nl b).getD i 0<4294967296:=bC (cp b) i
  generalize hx:(nl a).getD i 0=x at e1 l1⊢
  generalize hy:(nl b).getD i 0=y at e2 l2⊢
  refine ai.M3 ?_
  refine ai.Ed ((x+36893488147419103232-y-c)%18446744073709551616) qO ?_
  obtain⟨d,hd⟩:∃d,d=(x+36893488147419103232-y-c)%18446744073709551616:=⟨_,rfl⟩
  rw[<-hd]
  have hs:x+4294967296*(d/9223372036854775808)=d%4294967296+y+c:=qO
  have hc':d/9223372036854775808<=1:=qO
  refine ai.gS (d%4294967296) qO ?_
  refine aK.mk i rfl hi ?_
  refine cm.set qO ?_
  refine dp.set ?_
  refine A5 ?_
  refine a5 (i+1) ?_
  refine⟨(i+1,d/9223372036854775808,out.set i (d%4294967296)),[0],⟨hi,hc',by simpa using h3,h4.set (Nat.mod_lt _ qO),?_⟩,cA,aY⟩
  rw[dU qO,Nat.pow_succ]
  exact zV e1.symm e2.symm h5 hs
 ·refine bd ?_
  have hiL:i=L:=qO
  subst hiL
  have hba':az b<=az a:=dz qO
  rw[d5 a i qO,d5 b i qO,List.take_of_length_le qO]at h5
  have hc:c=0:=by
   rcases Nat.eq_zero_or_pos c with h|h
   ·exact h
   ·have h6:1*4294967296^i<=c*4294967296^i:=Nat.mul_le_mul_right _ h
    have h7:=zw h4
    rw[h3]at h7
    omega
  subst hc
  have hv:nv out=a-b:=qO
  refine bl.all (by simpa using h3.symm) ?_
  refine aa.pure (iF true out h4 qO) ?_
  rw[hv]
  exact ab.pure (.p _ (.sl _ _ (aL _)))
theorem Dp (m m':Bool) (a b:Nat) (ha:az a<=549755813888) (hb:az b<=549755813888) (hba:b<=a):
  ae Tryz.prog 59 [bF m a,bF m' b] (.bK [.p (cg (a-b)),.p (.int .i64 0)]) []:=by
 refine aW Tryz.func59 ?_
 refine aa.pure (kO m m' a b ha hb) ?_
 refine ao.no (decide_eq_false (by simp only[cF];split;omega;split<;>omega)) ?_
 refine aa.pure (Ar m m' a b ha hba) ?_
 exact eT (.p _ (.sl _ _ (aL _))) (.p _ (.int _ _))
theorem cN (n:Nat):n<2^bitLen n:=(bitLen_spec n).1
theorem cj {n k:Nat} (h:n<2^k):bitLen n<=k:=by
 by_cases h0:n=0
 ·subst h0;simp[bitLen]
 ·have h1:=(bitLen_spec n).2 h0
  rcases Nat.lt_or_ge k (bitLen n)with h2|h2
  ·have:2^k<=2^(bitLen n-1):=Nat.pow_le_pow_right qO qO
   omega
  ·exact h2
theorem cY {a b:Nat} (h:a<=b):bitLen a<=bitLen b:=cj (Nat.lt_of_le_of_lt h (cN b))
theorem tF (a b:Nat):bitLen (a*b)<=bitLen a+bitLen b:=cj (by
 rw[Nat.pow_add];exact Nat.mul_lt_mul'' (cN a) (cN b))
theorem sO (a b:Nat):bitLen (a+b)<=max (bitLen a) (bitLen b)+1:=cj (by
 have h1:=cN a
 have h2:=cN b
 have m1:2^bitLen a<=2^max (bitLen a) (bitLen b):=Nat.pow_le_pow_right qO (Nat.le_max_left _ _)
 have m2:2^bitLen b<=2^max (bitLen a) (bitLen b):=Nat.pow_le_pow_right qO (Nat.le_max_right _ _)
 rw[Nat.pow_succ]
 omega)
theorem a9 (n:Nat):az n<=bitLen n:=fX (Nat.lt_of_lt_of_le (cN n) (Nat.pow_le_pow_left qO _))
theorem cK {n:Nat}:bitLen n=0↔n=0:=by
 constructor
 ·intro h;have:=cN n;rw[h]at this;simpa using this
 ·intro h;subst h;simp[bitLen]
theorem y7 {x:Nat} (h:x≠0):bitLen x=bitLen (x/2)+1:=by
 by_cases h1:x/2=0
 ·have:x=1:=qO
  subst this;decide
 ·have:=bitLen_shift x 1 (by simpa using h1)
  rw[this];simp;omega
theorem kY {n:Nat} (h:n≠0):2^(bitLen n-1)<=n:=(bitLen_spec n).2 h
theorem yb {a b:Nat} (h:bitLen a<bitLen b):a<b:=by
 rcases Nat.lt_or_ge a b with h1|h1
 ·exact h1
 ·have:=cY h1;omega
theorem i7 (m m':Bool) (a b:Nat) (ha:az a<=274877906944) (hb:az b<=274877906944):ae Tryz.prog 50 [bF m a,bF m' b] (.p (cg (a*b))) []:=by
 refine aW Tryz.func50 ?_
 obtain⟨la,hla⟩:∃L,L=az a:=⟨_,rfl⟩
 obtain⟨lb,hlb⟩:∃L,L=az b:=⟨_,rfl⟩
 have ha':(nl a).length=la:=hla.symm
 have hb':(nl b).length=lb:=hlb.symm
 refine SZ.mk la (by simp[hla]) ?_
 refine SZ.mk lb (by simp[hlb]) ?_
 refine a5 (la+lb) ?_
 refine SZ.mk ((la+lb:Nat):Int) rfl ?_
 refine cm.mk qS ?_
 refine cy.u32 (la+lb) rfl qO ?_
 refine aJ.mk (Nat×List Nat) (fun(i,out)=>([(0,.p (bF m a)),(1,.p (bF m' b)),(5,.vec 0 1 0 (la+lb)),(6,.p (.int .i64 i))],[.vec 100 1 (bV out)]))
  (fun(i,out)=>i<=la/\out.length=la+lb/\iR out/\nv (out.take (i+lb))=a%4294967296^i*b) (fun x=>la-x.1) (0,List.replicate (la+lb) 0) [0]
  ⟨Nat.zero_le _,qS,.replicate _,by simp[dV,Nat.mod_one]⟩
  (aY ⟨congrArg _ (bM _).symm,trivial⟩) ?_
 intro⟨i,out⟩ ⟨h1,h3,h4,h5⟩
 refine SZ.mk la (by simp[hla]) ?_
 by_cases hi:i<la
 ·refine bo ?_
  have e1:=bU a i
  have l1:(nl a).getD i 0<4294967296:=bC (cp a) i
  obtain⟨x,hx⟩:∃x,x=(nl a).getD i 0:=⟨_,rfl⟩
  rw[<-hx]at e1 l1
  refine aJ.mk (Nat×Nat×List Nat) (fun(k,c,out)=>([(0,.p (bF m a)),(1,.p (bF m' b)),(5,.vec 0 1 0 (la+lb)),(6,.p (.int .i64 i)),(7,.p (.int .u64 c)),(8,.p (.int .i64 k))],[.vec 100 1 (bV out)]))
   (fun(k,c,out)=>k<=lb/\c<4294967296/\out.length=la+lb/\iR out/\nv (out.take (i+lb))+c*(4294967296^i*4294967296^k)=a%4294967296^i*b+x*4294967296^i*(b%4294967296^k)) (fun x=>lb-x.1) (0,0,out) [0]
   ⟨Nat.zero_le _,qS,h3,h4,by simp[h5,Nat.mod_one]⟩
   aY ?_
  intro⟨k,c,out⟩ ⟨g1,g2,g3,g4,g5⟩
  refine SZ.mk lb (by simp[hlb]) ?_
  by_cases hk:k<lb
  ·refine bo ?_
   refine gx ?_
   have e2:=bU b k
   have l2:(nl b).getD k 0<4294967296:=bC (cp b) k
   have l3:out.getD (i+k) 0<4294967296:=bC g4 (i+k)
   repeat refine aq ?_
   refine ag (aF.lb i rfl qO af) ?_
   repeat refine aq ?_
   rw[<-hx]
   refine ag (ai.ed x rfl qO af) ?_
   repeat refine aq ?_
   refine ag (aF.lb k rfl qO af) ?_
   repeat refine aq ?_
   generalize hy:(nl b).getD k 0=y at e2 l2⊢
   have hxy:=wE l1 l2
   refine ag (ai.ed y rfl qO af) ?_
   refine ag (ai.ed (x*y) (Int.natCast_mul x y).symm qO af) ?_
   refine ag (xt (c+x*y) af) ?_
   repeat refine aq ?_
   refine ag (a5 (i+k) af) ?_
   refine ag (aK.mk (i+k) rfl qO af) ?_
   refine ag (aF.xf qO af) ?_
   generalize ho:out.getD (i+k) 0=o at l3⊢
   refine ag (ai.ed o rfl qO af) ?_
   refine ag (xt (c+(x*y+o)) af) ?_
   repeat refine aq ?_
   obtain⟨tot,htot⟩:∃tot,tot=c+(x*y+o):=⟨_,rfl⟩
   rw[<-htot]
   refine a5 (i+k) ?_
   refine ai.gS (tot%4294967296) qO ?_
   refine aK.mk (i+k) rfl qO ?_
   refine cm.set qO ?_
   refine dp.set ?_
   refine gZ ?_
   refine a5 (k+1) ?_
   refine⟨(k+1,tot/4294967296,out.set (i+k) (tot%4294967296)),[0],⟨hk,qO,by simpa using g3,g4.set (Nat.mod_lt _ qO),?_⟩,by show lb-(k+1)<lb-k;omega,
    aY⟩
   have hs:=jU (out.take (i+lb)) (i+k) (tot%4294967296) (by simp;omega)
   rw[<-List.take_set,show(out.take (i+lb)).getD (i+k) 0=o by rw[<-ho];simp[List.getD,show i+k<i+lb by omega],Nat.pow_add]at hs
   have hm:=zK hs g5 htot
   have hb2:b%4294967296^(k+1)=b%4294967296^k+4294967296^k*(b/4294967296^k%4294967296):=Nat.mod_pow_succ
   rw[hb2,<-e2,Nat.pow_succ,<-Nat.mul_assoc (4294967296^i)]
   exact hm
  ·refine bd ?_
   have hkl:k=lb:=qO
   subst hkl
   refine SZ.mk k (by simp[hb']) ?_
   refine a5 (i+k) ?_
   refine ai.gS c qO ?_
   refine aK.mk (i+k) rfl qO ?_
   refine cm.set qO ?_
   refine dp.set ?_
   refine a5 (i+1) ?_
   refine⟨(i+1,out.set (i+k) c),[0],⟨hi,by simpa using g3,g4.set g2,?_⟩,cA,aY⟩
   rw[show i+1+k=i+k+1 by omega,dU qO,Nat.pow_add,Nat.pow_succ,Nat.mod_mul,<-e1]
   rw[d5 b k qO]at g5
   grind
 ·refine bd ?_
  have hiL:i=la:=qO
  subst hiL
  rw[d5 a i qO,List.take_of_length_le qO]at h5
  refine bl.all (by simpa using h3.symm) ?_
  refine aa.pure (iF true out h4 qO) ?_
  rw[h5]
  exact ab.pure (.p _ (.sl _ _ (aL _)))
theorem Pf {a:Nat} {K:Int->Prop} (hk:K ((a/2:Nat):Int)):DH 1 (SZ ((a:Int).fdiv (2^(min (1:Int).toNat (IntKind.bits .u32)))) K):=
 .mk qD (.mk _ (by
  show Int.fdiv (a:Int) 2=_
  rw[Int.fdiv_eq_ediv_of_nonneg _ qD];omega) hk)
theorem yT (m:Bool) (a:Nat) (ha:az a<=549755813888):ae Tryz.prog 172 [bF m a] (.p (.int .i64 (bitLen a))) []:=by
 refine aW Tryz.func172 ?_
 refine SZ.mk (az a) qS ?_
 by_cases h0:a=0
 ·have:=aw.2 h0
  refine ao.yes (jx qO) ?_
  rw[cK.2 h0]
  exact ab.pure (.p _ (.int _ _))
 ·have hn:=mt aw.1 h0
  refine ao.no (iO qO) ?_
  obtain⟨L,hL⟩:∃L,az a=L+1:=⟨az a-1,qO⟩
  have hL':(nl a).length=L+1:=hL
  refine SZ.mk ((L+1:Nat):Int) (by simp[hL']) ?_
  refine kJ (L:Int) ?_
  refine a5 (32*L) ?_
  refine SZ.mk ((L+1:Nat):Int) (by simp[hL']) ?_
  refine kJ (L:Int) ?_
  refine aF.lb L rfl qO ?_
  have l1:(nl a).getD L 0<4294967296:=bC (cp a) L
  have e1:a/2^(32*L)=(nl a).getD L 0:=by
   rw[bU,Nat.pow_mul]
   have:=cH a
   rw[hL,Nat.pow_succ,Nat.mul_comm]at this
   have h2:a/4294967296^L<4294967296:=(Nat.div_lt_iff_lt_mul (bX L)).2 this
   exact(Nat.mod_eq_of_lt h2).symm
  have hz:=pq h0
  rw[hL',Nat.add_sub_cancel]at hz
  have hb:bitLen a=32*L+bitLen ((nl a).getD L 0):=by rw[<-e1]at hz⊢;exact bitLen_shift a (32*L) hz
  have hb32:bitLen ((nl a).getD L 0)<=32:=cj l1
  obtain⟨B,hB⟩:∃B,B=bitLen a:=⟨_,rfl⟩
  rw[<-hB]at hb
  refine aJ.mk (Nat×Nat) (fun(n,x)=>([(3,.p (.int .i64 n)),(4,.p (.int .u32 x))],[])) (fun(n,x)=>n+bitLen x=B) (fun x=>x.2) (32*L,(nl a).getD L 0) []
   hb.symm aY ?_
  intro⟨n,x⟩ h
  have h:n+bitLen x=B:=h
  by_cases hx:x=0
  ·refine bd ?_
   rw[cK.2 hx]at h
   rw[<-hB,show n=B by omega]
   exact ab.pure (.p _ (.int _ _))
  ·refine bo ?_
   have:=y7 hx
   refine a5 (n+1) ?_
   refine Pf ?_
   exact⟨(n+1,x/2),[],by show n+1+bitLen (x/2)=B;omega,cA,aY⟩
theorem O5 {q s r v:Nat} {K:Int->Prop} (hx:q*2^s<4294967296) (hr:r<2^s) (hr':r<4294967296) (hv:v=q*2^s+r) (hv':v<4294967296) (hk:K (v:Int)):
  ai .u32 (((BitVec.ofInt (IntKind.bits .u32) (r:Int)|||BitVec.ofInt (IntKind.bits .u32) ((q*2^s:Nat):Int)).toNat:Nat):Int) K:=by
 refine .gS v ?_ hk
 show(((BitVec.ofInt 32 (r:Int)|||BitVec.ofInt 32 ((q*2^s:Nat):Int)).toNat:Nat):Int)%4294967296=_
 rw[BitVec.toNat_or,iz hx,iz hr',Nat.or_comm,Nat.mul_comm,<-Nat.two_pow_add_eq_or_of_lt hr,Nat.mul_comm,<-hv]
 omega
theorem Ee {t t1 t2 pw x D Bi Am S lo hi o:Nat} (hs1:t1+(pw*Bi)*o=t+(pw*Bi)*(lo+o)) (hs2:t2=t1+(pw*Bi*4294967296)*hi) (hx:x*D=lo+4294967296*hi) (h:t=Am*D*pw):
  t2=(Am+Bi*x)*D*pw:=by
 have e1:t1=t+(pw*Bi)*lo:=by
  have:(pw*Bi)*(lo+o)=(pw*Bi)*lo+(pw*Bi)*o:=by grind
  omega
 rw[hs2,e1,h]
 have:(Am+Bi*x)*D*pw=Am*D*pw+pw*Bi*(x*D):=by grind
 rw[this,hx]
 grind
theorem JY (m:Bool) (a k:Nat) (ha:az a<=274877906944) (hk:k<=1048576):ae Tryz.prog 173 [bF m a,.int .i64 k] (.p (cg (a*2^k))) []:=by
 refine aW Tryz.func173 ?_
 refine bd ?_
 refine bd ?_
 refine SZ.mk (az a) qS ?_
 by_cases h0:a=0
 ·have:=aw.2 h0
  refine ao.yes (jx qO) ?_
  refine aa.pure (mE m a qO) ?_
  rw[show a*2^k=a by rw[h0,Nat.zero_mul]]
  exact ab.pure (.p _ (.sl _ _ (aL _)))
 ·have hn0:=mt aw.1 h0
  refine ao.no (iO qO) ?_
  obtain⟨n,hn⟩:∃n,n=k/32:=⟨_,rfl⟩
  obtain⟨s,hs⟩:∃s,s=k%32:=⟨_,rfl⟩
  have hs':s<32:=qO
  have hk2:2^k=4294967296^n*2^s:=by
   rw[show(4294967296:Nat)=2^32 by decide,<-Nat.pow_mul,<-Nat.pow_add];congr 1;omega
  refine ye (b:=32) qO hn (by rw[IntKind.wrap_i64];omega) ?_
  refine xy (b:=32) qO hs ?_
  refine ai.ed s rfl qO ?_
  obtain⟨N,hN⟩:∃N,N=az a:=⟨_,rfl⟩
  have hN':(nl a).length=N:=hN.symm
  refine SZ.mk N (by simp[hN]) ?_
  refine a5 (N+n) ?_
  obtain⟨L,hL⟩:∃L,L=N+n+1:=⟨_,rfl⟩
  refine kJ (L:Int) ?_
  refine SZ.mk L rfl ?_
  refine cm.mk qS ?_
  refine cy.u32 L rfl qO ?_
  have hD:0<2^s:=Nat.two_pow_pos s
  have hC:0<2^(32-s):=Nat.two_pow_pos _
  have hDC:=mK (s:=s) qO
  have hDB:2^s<=2147483648:=Nat.le_trans (Nat.pow_le_pow_right qO (show s<=31 by omega)) qD
  refine aJ.mk (Nat×List Nat) (fun(i,out)=>([(0,.p (bF m a)),(5,.p (.int .i64 n)),(6,.p (.int .u64 s)),(7,.vec 0 1 0 L),(8,.p (.int .i64 i))],[.vec 100 1 (bV out)]))
   (fun(i,out)=>i<=N/\out.length=L/\iR out/\nv out=a%4294967296^i*2^s*4294967296^n) (fun x=>N-x.1) (0,List.replicate L 0) [0]
   ⟨Nat.zero_le _,qS,.replicate _,by simp[dV,Nat.mod_one]⟩
   (aY ⟨congrArg _ (bM L).symm,trivial⟩) ?_
  intro⟨i,out⟩ ⟨h1,h3,h4,h5⟩
  refine SZ.mk N (by simp[hN]) ?_
  by_cases hi:i<N
  ·refine bo ?_
   refine aF.lb i rfl qO ?_
   have e1:=bU a i
   have l1:(nl a).getD i 0<4294967296:=bC (cp a) i
   obtain⟨x,hx⟩:∃x,x=(nl a).getD i 0:=⟨_,rfl⟩
   rw[<-hx]at e1 l1
   rw[<-hx]
   refine ai.ed x rfl qO ?_
   obtain⟨X,hX⟩:∃X,X=x*2^s:=⟨_,rfl⟩
   refine H5 (v:=X) hs' l1 hX ?_
   refine a5 (i+n) ?_
   refine a5 (i+n) ?_
   refine aK.mk (i+n) rfl qO ?_
   refine aF.lb (i+n) rfl qO ?_
   have hlt:a%4294967296^i*2^s<4294967296^i*2^s:=Nat.mul_lt_mul_of_pos_right (Nat.mod_lt _ (bX i)) hD
   have ho:out.getD (i+n) 0<2^s:=by
    rw[ja h4,h5,Nat.pow_add,Nat.mul_comm (4294967296^i),<-Nat.div_div_eq_div_mul,Nat.mul_div_cancel _ (bX n)]
    refine Nat.lt_of_le_of_lt (Nat.mod_le _ _) ?_
    rw[Nat.div_lt_iff_lt_mul (bX i),Nat.mul_comm (2^s)]
    exact hlt
   have ho2:out.getD (i+n+1) 0=0:=by
    rw[ja h4,h5,show i+n+1=n+(i+1) by omega,Nat.pow_add,<-Nat.div_div_eq_div_mul,Nat.mul_div_cancel _ (bX n),Nat.div_eq_of_lt,Nat.zero_mod]
    refine Nat.lt_of_lt_of_le hlt ?_
    rw[Nat.pow_succ]
    exact Nat.mul_le_mul_left _ qO
   obtain⟨o,hoe⟩:∃o,o=out.getD (i+n) 0:=⟨_,rfl⟩
   rw[<-hoe]at ho
   rw[<-hoe]
   have hlo:X%4294967296=(x%2^(32-s))*2^s:=by
    have:=mL (A:=x) hD hDC
    rw[Nat.mod_eq_of_lt l1]at this
    rw[hX,this]
   refine ai.gS (x%2^(32-s)*2^s) (by rw[<-hlo];omega) ?_
   have hxl:x%2^(32-s)*2^s+2^s<=4294967296:=by
    have:x%2^(32-s)+1<=2^(32-s):=Nat.mod_lt _ hC
    have:=Nat.mul_le_mul_right (2^s) this
    rw[Nat.add_mul,Nat.one_mul,Nat.mul_comm (2^(32-s)),hDC]at this
    exact this
   refine O5 (v:=x%2^(32-s)*2^s+o) qO ho qO rfl qO ?_
   rw[<-hlo]
   have hlo':X%4294967296+o<4294967296:=qO
   refine aK.mk (i+n) rfl qO ?_
   refine cm.set qO ?_
   refine dp.set ?_
   refine a5 (i+n) ?_
   refine a5 (i+n+1) ?_
   refine gZ ?_
   have hXl:X<4294967296*4294967296:=by
    have:x*2^s<=4294967295*2147483648:=Nat.mul_le_mul qO hDB
    omega
   refine ai.gS (X/4294967296) qO ?_
   refine aK.mk (i+n+1) rfl qO ?_
   refine cm.set (by simp;omega) ?_
   refine dp.set ?_
   refine a5 (i+1) ?_
   refine⟨(i+1,(out.set (i+n) (X%4294967296+o)).set (i+n+1) (X/4294967296)),[0],⟨hi,by simpa using h3,(h4.set hlo').set qO,?_⟩,cA,aY⟩
   have q1:=jU out (i+n) (X%4294967296+o) qO
   have q2:=jU (out.set (i+n) (X%4294967296+o)) (i+n+1) (X/4294967296) (by simp;omega)
   rw[show(out.set (i+n) (X%4294967296+o)).getD (i+n+1) 0=out.getD (i+n+1) 0 by simp[List.getD],ho2,Nat.mul_zero,Nat.add_zero]at q2
   rw[<-hoe]at q1
   have e3:a%4294967296^(i+1)=a%4294967296^i+4294967296^i*x:=by rw[e1];exact Nat.mod_pow_succ
   rw[e3]
   rw[Nat.add_comm i n,Nat.pow_add]at q1
   rw[Nat.add_comm i n,Nat.pow_succ,Nat.pow_add]at q2
   rw[Nat.add_comm i n]
   have e4:x*2^s=X%4294967296+4294967296*(X/4294967296):=by rw[<-hX];exact(Nat.mod_add_div X 4294967296).symm
   exact Ee (S:=0) q1 q2 e4 h5
  ·refine bd ?_
   have hiL:i=N:=qO
   subst hiL
   rw[d5 _ i qO,Nat.mul_assoc,Nat.mul_comm (2^s),<-hk2]at h5
   refine bl.all (by simpa using h3.symm) ?_
   refine aa.pure (iF true out h4 qO) ?_
   rw[h5]
   exact ab.pure (.p _ (.sl _ _ (aL _)))
theorem DW (m:Bool) (a k:Nat) (ha:az a<=274877906944) (hk:k<=1048576):ae Tryz.prog 174 [bF m a,.int .i64 k] (.p (cg (a/2^k))) []:=by
 refine aW Tryz.func174 ?_
 refine bd ?_
 refine bd ?_
 obtain⟨n,hn⟩:∃n,n=k/32:=⟨_,rfl⟩
 obtain⟨s,hs⟩:∃s,s=k%32:=⟨_,rfl⟩
 have hs':s<32:=qO
 have hk2:2^k=4294967296^n*2^s:=by
  rw[show(4294967296:Nat)=2^32 by decide,<-Nat.pow_mul,<-Nat.pow_add];congr 1;omega
 refine ye (b:=32) qO hn (by rw[IntKind.wrap_i64];omega) ?_
 refine xy (b:=32) qO hs ?_
 refine ai.ed s rfl qO ?_
 have hD:0<2^s:=Nat.two_pow_pos s
 have hDC:=mK (s:=s) qO
 refine SZ.mk (az a) qS ?_
 by_cases hw:az a<=n
 ·refine bo ?_
  have hz:a/2^k=0:=by
   rw[hk2,<-Nat.div_div_eq_div_mul,Nat.div_eq_of_lt (Nat.lt_of_lt_of_le (cH a) (Nat.pow_le_pow_right qO hw)),Nat.zero_div]
  rw[hz,gX]
  exact ab.pure (.emp _)
 ·refine bd ?_
  obtain⟨L,hL⟩:∃L,L=az a-n:=⟨_,rfl⟩
  refine SZ.mk (az a) qS ?_
  refine kJ (L:Int) ?_
  refine SZ.mk L rfl ?_
  refine cm.mk qS ?_
  refine cy.u32 L rfl qO ?_
  refine aJ.mk (Nat×List Nat) (fun(i,out)=>([(0,.p (bF m a)),(5,.p (.int .i64 n)),(6,.p (.int .u64 s)),(7,.vec 0 1 0 L),(8,.p (.int .i64 i))],[.vec 100 1 (bV out)]))
   (fun(i,out)=>i<=L/\out.length=L/\iR out/\nv (out.take i)=a/2^k%4294967296^i) (fun x=>L-x.1) (0,List.replicate L 0) [0]
   ⟨Nat.zero_le _,qS,.replicate _,by simp[nv,Nat.mod_one]⟩
   (aY ⟨congrArg _ (bM L).symm,trivial⟩) ?_
  intro⟨i,out⟩ ⟨h1,h3,h4,h5⟩
  refine SZ.mk L rfl ?_
  by_cases hi:i<L
  ·refine bo ?_
   refine a5 (i+n) ?_
   refine aa.pure (qG m (nl a) (cp a) (i+n)) ?_
   refine a5 (i+n) ?_
   refine a5 (i+n+1) ?_
   refine aa.pure (qG m (nl a) (cp a) (i+n+1)) ?_
   obtain⟨x,hx⟩:∃x:Nat,x=(nl a).getD (i+n) 0:=⟨_,rfl⟩
   obtain⟨y,hy⟩:∃y:Nat,y=(nl a).getD (i+n+1) 0:=⟨_,rfl⟩
   have lx:x<4294967296:=by rw[hx];exact bC (cp a) _
   have ly:y<4294967296:=by rw[hy];exact bC (cp a) _
   rw[<-hx,<-hy]
   refine tr ly ?_
   obtain⟨S,hS⟩:∃S,S=x+4294967296*y:=⟨_,rfl⟩
   refine GC lx ly hS ?_
   obtain⟨v,hv⟩:∃v,v=S/2^s:=⟨_,rfl⟩
   refine LO hs' hv ?_
   have hlimb:a/2^k/4294967296^i%4294967296=v%4294967296:=by
    rw[hv,hS,hx,hy,bU,bU,hk2,<-Nat.div_div_eq_div_mul,yG hD hDC]
    rw[Nat.div_div_eq_div_mul,Nat.div_div_eq_div_mul,Nat.add_comm i n,Nat.add_assoc,Nat.pow_add,Nat.pow_add,Nat.pow_succ]
   refine ai.gS (v%4294967296) qO ?_
   refine aK.mk i rfl hi ?_
   refine cm.set qO ?_
   refine dp.set ?_
   refine a5 (i+1) ?_
   refine⟨(i+1,out.set i (v%4294967296)),[0],⟨hi,by simpa using h3,h4.set (Nat.mod_lt _ qO),?_⟩,cA,aY⟩
   rw[dU qO,h5,<-hlimb]
   exact Nat.mod_pow_succ.symm
  ·refine bd ?_
   have hiL:i=L:=qO
   subst hiL
   have hlt:a/2^k<4294967296^i:=by
    rw[hk2,<-Nat.div_div_eq_div_mul]
    refine Nat.lt_of_le_of_lt (Nat.div_le_self _ _) ?_
    rw[Nat.div_lt_iff_lt_mul (bX n),<-Nat.pow_add]
    exact Nat.lt_of_lt_of_le (cH a) (Nat.pow_le_pow_right qO qO)
   rw[Nat.mod_eq_of_lt hlt,List.take_of_length_le qO]at h5
   refine bl.all (by simpa using h3.symm) ?_
   refine aa.pure (iF true out h4 qO) ?_
   rw[h5]
   exact ab.pure (.p _ (.sl _ _ (aL _)))
theorem O0 {s v:Nat} {K:Int->Prop} (hs:s<32) (hv:v=2^s) (hk:K (v:Int)):DH (s:Int) (ai .u32 ((1:Int)*2^(min (s:Int).toNat (IntKind.bits .u32))) K):=by
 have hm:min (s:Int).toNat (IntKind.bits .u32)=s:=by rw[Int.toNat_natCast];exact Nat.min_eq_left (by show s<=32;omega)
 rw[hm]
 have h1:2^s<=2^31:=Nat.pow_le_pow_right qO qO
 refine .mk qO (.gS v ?_ hk)
 rw[hv,Int.one_mul,show(2:Int)^s=((2^s:Nat):Int) by simp]
 omega
theorem Js {V t i w s:Nat} (hi:i=32*w+s) (hs:s<32) (hV:V=2^(i+1)*t):V/4294967296^w%4294967296=t%2^(31-s)*2^(s+1):=by
 have e1:V=4294967296^w*(2^(s+1)*t):=by
  rw[hV,hi,show(4294967296:Nat)=2^32 by decide,<-Nat.pow_mul,<-Nat.mul_assoc,<-Nat.pow_add,Nat.add_assoc]
 have e2:2^(s+1)*2^(31-s)=4294967296:=by rw[<-Nat.pow_add,show s+1+(31-s)=32 by omega]
 rw[e1,Nat.mul_div_cancel_left _ (bX w),<-e2,Nat.mul_mod_mul_left,Nat.mul_comm]
theorem xg (m m':Bool) (a b:Nat) (hb0:b≠0) (ha:bitLen a<=1048576) (hb:bitLen b<=1048576):
  ae Tryz.prog 147 [bF m a,bF m' b] (.bK [.p (cg (a/b)),.p (cg (a%b)),.p (.int .i64 0)]) []:=by
 have hna:=a9 a
 have hnb:=a9 b
 refine aW Tryz.func147 ?_
 refine SZ.mk (az b) qS ?_
 have hb1:=mt aw.1 hb0
 refine ao.no (iO qO) ?_
 refine aa.pure (yT m a qO) ?_
 refine aa.pure (yT m' b qO) ?_
 refine ai.bD ((bitLen a:Int)-bitLen b) rfl qO ?_
 by_cases hk0:bitLen a<bitLen b
 ·refine bo ?_
  refine aa.pure (mE m a qO) ?_
  have hlt:=yb hk0
  rw[Nat.div_eq_of_lt hlt,Nat.mod_eq_of_lt hlt,gX]
  exact yl (.emp _) (.p _ (.sl _ _ (aL _))) (.p _ (.int _ _))
 ·refine bd ?_
  obtain⟨k,hk⟩:∃k,bitLen a=k+bitLen b:=⟨bitLen a-bitLen b,qO⟩
  rw[show(bitLen a:Int)-bitLen b=(k:Int) by omega]
  obtain⟨n,hn⟩:∃n,n=k/32:=⟨_,rfl⟩
  refine ye (b:=32) qO hn (by rw[IntKind.wrap_i64];omega) ?_
  obtain⟨L,hL⟩:∃L,L=n+1:=⟨_,rfl⟩
  refine kJ (L:Int) ?_
  refine SZ.mk L rfl ?_
  refine cm.mk qS ?_
  refine cy.u32 L rfl qO ?_
  refine aa.pure (mE m a qO) ?_
  refine aa.pure (JY m' b k qO qO) ?_
  have hkl:az (b*2^k)<=4194304:=by have:=pT b k;omega
  have hinit:a<b*2^(k+1):=by
   have h1:=cN a
   have h2:=kY hb0
   have h3:bitLen b≠0:=mt cK.1 hb0
   rw[hk,show k+bitLen b=(bitLen b-1)+(k+1) by omega,Nat.pow_add]at h1
   exact Nat.lt_of_lt_of_le h1 (Nat.mul_le_mul_right _ h2)
  refine aJ.mk (Nat×Int×List Nat×Nat×Nat) (fun(j,z,q,r,d)=>([(8,.vec 0 1 0 L),(9,.p (cg r)),(10,.p (cg d)),(11,.p (.int .i64 z))],[.vec 100 1 (bV q)]))
   (fun(j,z,q,r,d)=>j<=k+1/\z=(j:Int)-1/\q.length=L/\iR q/\a=nv q*b+r/\(∃t,nv q=2^j*t)/\r<b*2^j/\d=b*2^j/2) (fun x=>x.1) (k+1,(k:Int),List.replicate L 0,a,b*2^k) [0]
   ⟨Nat.le_refl _,qO,qS,.replicate _,by simp[dV],⟨0,by simp[dV]⟩,hinit,by rw[Nat.pow_succ,<-Nat.mul_assoc,Nat.mul_div_cancel _ qO]⟩
   (aY ⟨congrArg _ (bM L).symm,trivial⟩) ?_
  intro⟨j,z,q,r,d⟩ ⟨h1,hz,h2,h3,h4,⟨t,h5⟩,h6,h7⟩
  by_cases hj:j=0
  ·subst hj
   refine bd ?_
   refine bl.all (by simpa using h2.symm) ?_
   refine aa.pure (iF true q h3 qO) ?_
   rw[Nat.pow_zero,Nat.mul_one]at h6
   have hm:=Nat.div_mod_unique (Nat.pos_of_ne_zero hb0)|>.2 (⟨by rw[h4];grind,h6⟩:r+b*nv q=a/\r<b)
   rw[hm.1,hm.2]
   exact yl (.p _ (.sl _ _ (aL _))) (.p _ (.sl _ _ (aL _))) (.p _ (.int _ _))
  ·obtain⟨i,rfl⟩:=Nat.exists_eq_succ_of_ne_zero hj
   have hz:z=(i:Int):=qO
   subst hz
   refine bo ?_
   have hd:d=b*2^i:=by rw[h7,Nat.pow_succ,<-Nat.mul_assoc,Nat.mul_div_cancel _ qO]
   have hd2:b*2^i/2=d/2:=by rw[hd]
   have hra:r<=a:=by rw[h4];exact Nat.le_add_left _ _
   have hrl:az r<=1048576:=Nat.le_trans (dz hra) qO
   have hdl:az d<=4194304:=Nat.le_trans (dz (by rw[hd];exact Nat.mul_le_mul_left _ (Nat.pow_le_pow_right qO qO))) hkl
   refine aa.pure (kO false false r d qO qO) ?_
   by_cases hrd:d<=r
   ·refine ao.yes (decide_eq_true (by simp only[cF];split;omega;split<;>omega)) ?_
    refine aa.pure (Ar false false r d qO hrd) ?_
    obtain⟨w,hw⟩:∃w,w=i/32:=⟨_,rfl⟩
    obtain⟨s,hs⟩:∃s,s=i%32:=⟨_,rfl⟩
    have hs':s<32:=qO
    refine ye (b:=32) qO hw (by rw[IntKind.wrap_i64];omega) ?_
    refine ye (b:=32) qO hw (by rw[IntKind.wrap_i64];omega) ?_
    refine aK.mk w rfl qO ?_
    refine aF.lb w rfl qO ?_
    refine xy (b:=32) qO hs ?_
    refine ai.ed s rfl qO ?_
    refine O0 (v:=2^s) hs' rfl ?_
    have ho:q.getD w 0=t%2^(31-s)*2^(s+1):=by
     rw[ja h3];exact Js qO hs' h5
    obtain⟨u,hu⟩:∃u,u=t%2^(31-s):=⟨_,rfl⟩
    have hul:u<2^(31-s):=by rw[hu];exact Nat.mod_lt _ (Nat.two_pow_pos _)
    have hul2:(u+1)*2^(s+1)<=4294967296:=by
     have:=Nat.mul_le_mul_right (2^(s+1)) hul
     rwa[<-Nat.pow_add,show 31-s+(s+1)=32 by omega]at this
    rw[Nat.add_mul,Nat.one_mul]at hul2
    rw[<-hu]at ho
    rw[ho]
    have hp:2^(s+1)=2*2^s:=by rw[Nat.pow_succ,Nat.mul_comm]
    have hps:0<2^s:=Nat.two_pow_pos s
    refine Pj (q:=u) (s:=s+1) (r:=2^s) (v:=u*2^(s+1)+2^s) qO qO qO rfl qO ?_
    refine aK.mk w rfl qO ?_
    refine cm.set qO ?_
    refine dp.set ?_
    refine aa.pure (DW false d 1 qO qO) ?_
    refine ai.bD ((i:Int)-1) rfl qO ?_
    have hset:=jU q w (u*2^(s+1)+2^s) qO
    rw[ho]at hset
    have hpi:4294967296^w*2^s=2^i:=by
     rw[show(4294967296:Nat)=2^32 by decide,<-Nat.pow_mul,<-Nat.pow_add];congr 1;omega
    have hq':nv (q.set w (u*2^(s+1)+2^s))=nv q+2^i:=by
     have:4294967296^w*(u*2^(s+1)+2^s)=4294967296^w*(u*2^(s+1))+2^i:=by rw[Nat.mul_add,hpi]
     omega
    refine⟨(i,(i:Int)-1,q.set w (u*2^(s+1)+2^s),r-d,d/2^1),[0],⟨qO,rfl,by simpa using h2,h3.set qO,?_,⟨2*t+1,?_⟩,?_,by rw[hd2]⟩,Nat.lt_succ_self i,aY⟩
    ·have:(nv q+2^i)*b=nv q*b+d:=by rw[hd];grind
     rw[hq',this]
     show a=nv q*b+d+(r-d)
     omega
    ·rw[hq',h5,Nat.succ_eq_add_one,Nat.pow_succ];grind
    ·show r-d<b*2^i
     rw[Nat.succ_eq_add_one,Nat.pow_succ,<-Nat.mul_assoc,<-hd]at h6
     omega
   ·refine ao.no (decide_eq_false (by simp only[cF];split;omega;omega)) ?_
    refine aa.pure (DW false d 1 qO qO) ?_
    refine kJ ((i:Int)-1) ?_
    refine⟨(i,(i:Int)-1,q,r,d/2^1),[0],⟨qO,rfl,h2,h3,h4,⟨2*t,?_⟩,by rw[<-hd];omega,by rw[hd2]⟩,Nat.lt_succ_self i,aY⟩
    rw[h5,Nat.succ_eq_add_one,Nat.pow_succ];grind
theorem Kk (m m':Bool) (a b:Nat) (ha:bitLen a<=1048576) (hb:bitLen b<=1048576):ae Tryz.prog 146 [bF m a,bF m' b] (.p (cg (Nat.gcd a b))) []:=by
 refine aW Tryz.func146 ?_
 refine aJ.mk (Nat×Nat×Bool×Bool) (fun(x,y,mx,my)=>([(0,.p (bF mx x)),(1,.p (bF my y))],[])) (fun(x,y,mx,my)=>bitLen x<=1048576/\bitLen y<=1048576/\Nat.gcd x y=Nat.gcd a b) (fun x=>x.2.1) (a,b,m,m') []
  ⟨ha,hb,rfl⟩ aY ?_
 intro⟨x,y,mx,my⟩ ⟨h1,h2,h3⟩
 refine SZ.mk (az y:Int) qS ?_
 have n1:=a9 x
 by_cases hy:y=0
 ·subst hy
  refine ao.no (decide_eq_false (by rw[aw.2 rfl];decide)) ?_
  refine aa.pure (mE mx x qO) ?_
  rw[<-h3,Nat.gcd_zero_right]
  exact ab.pure (.p _ (.sl _ _ (aL _)))
 ·have hn:=mt aw.1 hy
  refine bo ?_
  refine aa.aO (xg mx my x y hy h1 h2) (fun _=>rfl) ?_
  have hr:x%y<y:=Nat.mod_lt _ qO
  exact⟨(y,x%y,my,false),[],⟨h2,Nat.le_trans (cY (Nat.le_of_lt hr)) h2,by rw[<-h3,Nat.gcd_comm,<-Nat.gcd_rec,Nat.gcd_comm]⟩,hr,aY⟩
theorem om {n:Nat} {K:Prop} (h:az n<=1099511627776) (hk:K):cG (bV (nl n)).length 4 K:=by
 have h:(nl n).length<=1099511627776:=h
 exact .mk (by simp;omega) (by simp;omega) hk
structure Bz (q:Rat) (k:Nat):Prop where
 n:bitLen q.num.natAbs<=k
 d:bitLen q.den<=k
theorem Bz.mono {q:Rat} {j k:Nat} (h:Bz q j) (hk:j<=k):Bz q k:=⟨Nat.le_trans h.n hk,Nat.le_trans h.d hk⟩
theorem Bz.sz {q:Rat} {k:Nat} (h:Bz q k):Sz q k:=⟨Nat.le_trans (a9 _) h.n,Nat.le_trans (a9 _) h.d⟩
theorem gH {a b j k:Nat} (ha:bitLen a<=j) (hb:bitLen b<=k):bitLen (a*b)<=j+k:=by have:=tF a b;omega
theorem Hy {a b k:Nat} (ha:bitLen a<=k) (hb:bitLen b<=k):bitLen (a+b)<=k+1:=by have:=sO a b;omega
theorem Bz.iW {neg:Bool} {n d k:Nat} (hd:d≠0) (hn:bitLen n<=k) (hdk:bitLen d<=k):Bz (iW neg n d) k:=by
 obtain⟨h1,h2,_⟩:=Dx (neg:=neg) (n:=n) hd
 exact⟨by rw[h1];exact Nat.le_trans (cY (Nat.div_le_self _ _)) hn,by rw[h2];exact Nat.le_trans (cY (Nat.div_le_self _ _)) hdk⟩
theorem Bz.mul {p q:Rat} {j k:Nat} (hp:Bz p j) (hq:Bz q k):Bz (p*q) (j+k):=by
 rw[mul_eq]
 exact Bz.iW (Nat.mul_ne_zero p.den_nz q.den_nz) (gH hp.n hq.n) (gH hp.d hq.d)
theorem Bz.neg {p:Rat} {k:Nat} (hp:Bz p k):Bz (-p) k:=⟨by rw[Rat.neg_num,Int.natAbs_neg];exact hp.n,hp.d⟩
theorem Bz.div {p q:Rat} {j k:Nat} (hp:Bz p j) (hq:Bz q k):Bz (p/q) (j+k):=by
 by_cases h:q=0
 ·subst h
  rw[Rat.div_def,Rat.inv_zero,Rat.mul_zero]
  exact⟨by simp[bitLen],by have:=cY (Nat.pos_of_ne_zero p.den_nz);have h2:=hp.d;simp at this⊢;omega⟩
 ·have hqn:q.num.natAbs≠0:=by intro e;exact h (Rat.num_eq_zero.1 qO)
  rw[BD p q h]
  exact Bz.iW (Nat.mul_ne_zero p.den_nz hqn) (gH hp.n hq.d) (gH hp.d hq.n)
theorem Bz.add {p q:Rat} {j k:Nat} (hp:Bz p j) (hq:Bz q k):Bz (p+q) (j+k+1):=by
 have hd:=Nat.mul_ne_zero p.den_nz q.den_nz
 have h5:=gH hp.n hq.d
 have h6:=gH hq.n hp.d
 have h7:=gH hp.d hq.d
 by_cases h:decide (p.num<0)=decide (q.num<0)
 ·rw[add_same h]
  exact Bz.iW hd (Hy h5 qO) qO
 ·rcases Nat.le_total (q.num.natAbs*p.den) (p.num.natAbs*q.den)with hle|hle
  ·rw[qw h hle]
   exact Bz.iW hd (Nat.le_trans (cY (Nat.sub_le _ _)) qO) qO
  ·rw[pY h hle]
   exact Bz.iW hd (Nat.le_trans (cY (Nat.sub_le _ _)) qO) qO
theorem Bz.sub {p q:Rat} {j k:Nat} (hp:Bz p j) (hq:Bz q k):Bz (p-q) (j+k+1):=by
 rw[Rat.sub_eq_add_neg];exact hp.add hq.neg
theorem tP:ae Tryz.prog 51 [] (.p (cg 1)) []:=by
 refine aW Tryz.func51 ?_
 have:nl 1=[1]:=by rw[jX qO,show 1/4294967296=0 by decide,dH]
 show ab _ _ _ (.p (.sl false 1 (bV (nl 1)))) _
 rw[this]
 exact ab.pure (xu (l:=[1]) rfl rfl)
theorem js:ae Tryz.prog 16 [] (.p (aB 0)) []:=by
 refine aW Tryz.func16 ?_
 refine aa.pure (tP) ?_
 refine ab.pure ?_
 rw[e8]
 refine .p _ ?_
 have:=aG false 0 1
 rwa[gX]at this
theorem AH (n:Int) (h: -9223372036854775808<=n/\n<9223372036854775808):ae Tryz.prog 123 [.int .i64 n] (.p (.int .u64 n.natAbs)) []:=by
 refine aW Tryz.func123 ?_
 by_cases hn:n<0
 ·refine bo ?_
  refine ai.Ed (n+18446744073709551616).toNat qO ?_
  refine ai.Ed n.natAbs qO ?_
  exact ab.pure (.p _ (.int _ _))
 ·refine bd ?_
  refine ai.Ed n.natAbs qO ?_
  exact ab.pure (.p _ (.int _ _))
theorem iY {H:Hp} {a b c:AV} {x y z:PV} (h:x.one=true/\y.one=true/\z.one=true) (ha:Conv [] H a (.p x)) (hb:Conv [] H b (.p y)) (hc:Conv [] H c (.p z)):Conv [] H (.agg [a,b,c]) (.p (.agg [x,y,z])):=
 .ov (by simp[h.1,h.2.1,h.2.2]) rfl fun i c d e1 e2=>by
  match i,e1,e2 with
  |0,e1,e2=>cases e1;cases e2;exact ha
  |1,e1,e2=>cases e1;cases e2;exact hb
  |2,e1,e2=>cases e1;cases e2;exact hc
theorem yO (neg:Bool) (m m':Bool) (n d:Nat) (hd:d≠0) (hn':bitLen n<=1048576) (hd':bitLen d<=1048576):
  ae Tryz.prog 113 [.bool neg,bF m n,bF m' d] (.bK [.p (aB (iW neg n d)),.p (.int .i64 0)]) []:=by
 refine aW Tryz.func113 ?_
 have n1:=a9 n
 have n2:=a9 d
 refine SZ.mk (az d:Int) qS ?_
 refine ao.no (iO (by have:=mt aw.1 hd;omega)) ?_
 refine SZ.mk (az n:Int) qS ?_
 by_cases hn:n=0
 ·subst hn
  refine ao.yes (jx (by rw[aw.2 rfl];rfl)) ?_
  refine aa.pure (js) ?_
  rw[show iW neg 0 d=0 by cases neg<;>simp[iW,cZ]]
  exact eT (.p _ (aG _ _ _)) (.p _ (.int _ _))
 ·refine ao.no (iO (by have:=mt aw.1 hn;omega)) ?_
  refine aa.pure (tP) ?_
  have n3:az 1<=549755813888:=Nat.le_trans (a9 1) qD
  refine aa.pure (kO m' false d 1 qO n3) ?_
  by_cases h1:d=1
  ·subst h1
   refine ao.yes (by simp[cF]) ?_
   refine om qO ?_
   refine aa.pure (tP) ?_
   have e:=sR (neg:=neg) (n:=n) (d:=1) qO hn
   rw[Nat.gcd_one_right,Nat.div_one,Nat.div_one]at e
   rw[e]
   refine ab.pure (.bK rfl fun i c d e1 e2=>?_)
   match i,e1,e2 with
   |0,e1,e2=>cases e1;cases e2;exact iY ⟨rfl,rfl,rfl⟩ (.p _ (.bool _)) (xu rfl qS) (.p _ (.sl _ _ (aL _)))
   |1,e1,e2=>cases e1;cases e2;exact .p _ (.int _ _)
  ·refine ao.no (by simp only[cF];split<;>simp[h1]) ?_
   have hg:0<Nat.gcd n d:=Nat.gcd_pos_of_pos_right _ qO
   have hgl:bitLen (Nat.gcd n d)<=1048576:=Nat.le_trans (cY (Nat.gcd_le_right _ qO)) hd'
   refine aa.pure (Kk m m' n d hn' hd') ?_
   refine aa.aO (xg m false n (Nat.gcd n d) qO hn' hgl) (fun _=>rfl) ?_
   refine aa.aO (xg m' false d (Nat.gcd n d) qO hd' hgl) (fun _=>rfl) ?_
   rw[sR hd hn]
   exact ab.pure (.bK rfl fun i c d e1 e2=>by
    match i,e1,e2 with
    |0,e1,e2=>cases e1;cases e2;exact .p _ (aG _ _ _)
    |1,e1,e2=>cases e1;cases e2;exact .p _ (.int _ _))
theorem mB (neg:Bool) (m m':Bool) (n d:Nat) (hd:d≠0) (hn':bitLen n<=1048576) (hd':bitLen d<=1048576):
  ae Tryz.prog 57 [.bool neg,bF m n,bF m' d] (.p (aB (iW neg n d))) []:=by
 refine aW Tryz.func57 ?_
 refine aa.aO (yO neg m m' n d hd hn' hd') (fun _=>rfl) ?_
 exact ab.pure (.p _ (aG _ _ _))
theorem D0 (n d:Int) (hn: -9223372036854775808<=n/\n<9223372036854775808) (hd: -9223372036854775808<=d/\d<9223372036854775808) (hd0:d≠0):
  ae Tryz.prog 65 [.int .i64 n,.int .i64 d] (.bK [.p (aB (iW (decide (n<0) !=decide (d<0)) n.natAbs d.natAbs)),.p (.int .i64 0)]) []:=by
 refine aW Tryz.func65 ?_
 refine ao.sym ?_
 refine ao.sym ?_
 refine ao.sym ?_
 refine aa.pure (AH n hn) ?_
 refine aa.pure (Jo n.natAbs qO) ?_
 refine aa.pure (AH d hd) ?_
 refine aa.pure (Jo d.natAbs qO) ?_
 have b1:bitLen n.natAbs<=64:=cj (by show _<18446744073709551616;omega)
 have b2:bitLen d.natAbs<=64:=cj (by show _<18446744073709551616;omega)
 refine aa.aO (yO _ false false n.natAbs d.natAbs qO qO qO) (fun _=>rfl) ?_
 exact ab.pure (.bK rfl fun i c d e1 e2=>by
  match i,e1,e2 with
  |0,e1,e2=>cases e1;cases e2;exact .p _ (aG _ _ _)
  |1,e1,e2=>cases e1;cases e2;exact .p _ (.int _ _))
theorem J3 (n:Int):iW (decide (n<0) !=decide ((1:Int)<0)) n.natAbs (1:Int).natAbs=(n:Rat):=by
 have:cZ (decide (n<0) !=decide ((1:Int)<0)) n.natAbs=n:=by
  by_cases h:n<0<;>simp[cZ,h]<;>omega
 rw[iW,this]
 simp[Rat.mkRat_one]
theorem eO (n:Int) (hn: -9223372036854775808<=n/\n<9223372036854775808):ae Tryz.prog 23 [.int .i64 n] (.p (aB (n:Rat))) []:=by
 refine aW Tryz.func23 ?_
 have h:=D0 n 1 hn qO qO
 rw[J3]at h
 refine aa.aO (h) (fun _=>rfl) ?_
 exact ab.pure (.p _ (aG _ _ _))
theorem r9 (q:Rat) (hx:az q.num.natAbs<=1099511627776) (hy:az q.den<=1099511627776):ae Tryz.prog 83 [aB q] (.p (aB (-q))) []:=by
 refine aW Tryz.func83 ?_
 have hn:aB (-q)= .agg [.bool (decide (0<q.num)),cg q.num.natAbs,cg q.den]:=by
  simp only[aB,Rat.neg_num,Rat.neg_den,Int.natAbs_neg]
  congr 3
  by_cases h:0<q.num<;>simp[h]<;>omega
 rw[hn]
 have h0:=aw (n:=q.num.natAbs)
 have done:∀(b:Bool) (H:Hp) (n d:Nat) (k1 k2:Nat),k1=az n->k2=az d->look H 2= .vec 100 1 (bV (nl n))->look H 3= .vec 100 1 (bV (nl d))->Conv [] H (.agg [.tf b,.vec 2 1 0 k1,.vec 3 1 0 k2]) (.p (.agg [.bool b,cg n,cg d])):=
  fun b H n d k1 k2 e1 e2 h1 h2=>iY ⟨rfl,rfl,rfl⟩ (.tf b) (xu h1 e1) (xu h2 e2)
 by_cases h:q.num<0
 ·rw[decide_eq_false (show ¬0<q.num by omega)]
  refine gx ?_
  repeat refine aq ?_
  refine ag (ao.no (by simp[h]) af) ?_
  repeat refine aq ?_
  refine ag (om hx af) ?_
  repeat refine aq ?_
  refine ag (om hy af) ?_
  repeat refine aq ?_
  exact ab.pure (done false _ _ _ _ _ qS qS rfl rfl)
 ·refine gx ?_
  repeat refine aq ?_
  refine ag (ao.yes (by simp[h]) af) ?_
  repeat refine aq ?_
  refine ag (SZ.mk (az q.num.natAbs:Int) qS af) ?_
  by_cases hz:q.num=0
  ·rw[decide_eq_false (show ¬0<q.num by omega)]
   refine ag (ao.no (decide_eq_false (by rw[h0.2 qO];decide)) af) ?_
   repeat refine aq ?_
   refine ag (om hx af) ?_
   repeat refine aq ?_
   refine ag (om hy af) ?_
   repeat refine aq ?_
   exact ab.pure (done false _ _ _ _ _ qS qS rfl rfl)
  ·rw[decide_eq_true (show 0<q.num by omega)]
   refine ag (ao.yes (decide_eq_true (by have:=mt h0.1 qO;omega)) af) ?_
   repeat refine aq ?_
   refine ag (om hx af) ?_
   repeat refine aq ?_
   refine ag (om hy af) ?_
   repeat refine aq ?_
   exact ab.pure (done true _ _ _ _ _ qS qS rfl rfl)
theorem Bz.nn {q:Rat} {k:Nat} (h:Bz q k) (hk:k<=1099511627776):az q.num.natAbs<=1099511627776:=Nat.le_trans h.sz.n hk
theorem Bz.nd {q:Rat} {k:Nat} (h:Bz q k) (hk:k<=1099511627776):az q.den<=1099511627776:=Nat.le_trans h.sz.d hk
theorem Gv (q:Rat) {k:Nat} (hq:Bz q k) (hk:k<=1099511627776):ae Tryz.prog 69 [aB q] (.p (aB q)) []:=by
 refine aW Tryz.func69 ?_
 refine aa.pure (r9 q (hq.nn hk) (hq.nd hk)) ?_
 refine aa.pure (r9 (-q) (hq.neg.nn hk) (hq.neg.nd hk)) ?_
 rw[Rat.neg_neg]
 exact ab.pure (.p _ (aG _ _ _))
theorem PL (q:Rat):PV.agg [.bool false,cg q.num.natAbs,cg q.den]=aB q.abs:=by
 rw[Rat.abs]
 split
 ·rename_i h
  have:=Rat.num_nonneg.2 h
  rw[aB,decide_eq_false qO]
 ·rename_i h
  have h:q.num<0:=by have:=mt Rat.num_nonneg.1 h;omega
  rw[aB,Rat.neg_num,Rat.neg_den,Int.natAbs_neg,decide_eq_false qO]
theorem Bz.abs {q:Rat} {k:Nat} (h:Bz q k):Bz q.abs k:=by
 rw[Rat.abs];split
 ·exact h
 ·exact h.neg
theorem iI (p q:Rat) {j k:Nat} (hp:Bz p j) (hq:Bz q k) (h:j+k<=1048576):ae Tryz.prog 20 [aB p,aB q] (.p (aB (p*q))) []:=by
 refine aW Tryz.func20 ?_
 have h1:=hp.n
 have h2:=hp.d
 have h3:=hq.n
 have h4:=hq.d
 have g1:=hp.sz.n
 have g2:=hp.sz.d
 have g3:=hq.sz.n
 have g4:=hq.sz.d
 have hl:=mB (decide (p.num<0) !=decide (q.num<0)) false false (p.num.natAbs*q.num.natAbs) (p.den*q.den) (Nat.mul_ne_zero p.den_nz q.den_nz) (Nat.le_trans (gH h1 h3) h) (Nat.le_trans (gH h2 h4) h)
 rw[<-mul_eq]at hl
 refine gx ?_
 repeat refine aq ?_
 refine ag (ao.sym af) ?_
 repeat refine aq ?_
 refine ag (aa.pure (i7 false false p.num.natAbs q.num.natAbs qO qO) af) ?_
 repeat refine aq ?_
 refine ag (aa.pure (i7 false false p.den q.den qO qO) af) ?_
 repeat refine aq ?_
 refine ag (aa.pure (hl) af) ?_
 repeat refine aq ?_
 exact ab.pure (.p _ (aG _ _ _))
theorem Lt (p q:Rat) (hq0:q≠0) {j k:Nat} (hp:Bz p j) (hq:Bz q k) (h:j+k<=1048576):ae Tryz.prog 134 [aB p,aB q] (.bK [.p (aB (p/q)),.p (.int .i64 0)]) []:=by
 refine aW Tryz.func134 ?_
 have h1:=hp.n
 have h2:=hp.d
 have h3:=hq.n
 have h4:=hq.d
 have g1:=hp.sz.n
 have g2:=hp.sz.d
 have g3:=hq.sz.n
 have g4:=hq.sz.d
 have hqn:q.num.natAbs≠0:=by intro e;exact hq0 (Rat.num_eq_zero.1 qO)
 have hz:=mt aw.1 hqn
 refine SZ.mk (az q.num.natAbs:Int) qS ?_
 refine ao.no (iO qO) ?_
 have hl:=mB (decide (p.num<0) !=decide (q.num<0)) false false (p.num.natAbs*q.den) (p.den*q.num.natAbs) (Nat.mul_ne_zero p.den_nz hqn) (Nat.le_trans (gH h1 h4) h) (Nat.le_trans (gH h2 h3) h)
 rw[<-BD p q hq0]at hl
 refine gx ?_
 repeat refine aq ?_
 refine ag (ao.sym af) ?_
 repeat refine aq ?_
 refine ag (aa.pure (i7 false false p.num.natAbs q.den qO qO) af) ?_
 repeat refine aq ?_
 refine ag (aa.pure (i7 false false p.den q.num.natAbs qO qO) af) ?_
 repeat refine aq ?_
 refine ag (aa.pure (hl) af) ?_
 repeat refine aq ?_
 exact ab.pure (.bK rfl fun i c d e1 e2=>by
  match i,e1,e2 with
  |0,e1,e2=>cases e1;cases e2;exact .p _ (aG _ _ _)
  |1,e1,e2=>cases e1;cases e2;exact .p _ (.int _ _))
theorem oQ (p q:Rat) (hq0:q≠0) {j k:Nat} (hp:Bz p j) (hq:Bz q k) (h:j+k<=1048576):ae Tryz.prog 84 [aB p,aB q] (.p (aB (p/q))) []:=by
 refine aW Tryz.func84 ?_
 refine aa.aO (Lt p q hq0 hp hq h) (fun _=>rfl) ?_
 exact ab.pure (.p _ (aG _ _ _))
theorem Pk {q:Rat}:az q.num.natAbs=0↔q=0:=by
 rw[aw,Int.natAbs_eq_zero,Rat.num_eq_zero]
theorem il (q:Rat):ae Tryz.prog 9 [aB q] (.p (.bool (decide (q=0)))) []:=by
 refine aW Tryz.func9 ?_
 refine SZ.mk (az q.num.natAbs:Int) qS ?_
 by_cases h:q=0
 ·refine ao.yes (jx (by have:=Pk.2 h;omega)) ?_
  rw[decide_eq_true h]
  exact ab.pure (.tf true)
 ·refine ao.no (iO (by have:=mt Pk.1 h;omega)) ?_
  rw[decide_eq_false h]
  exact ab.pure (.tf false)
theorem jn (p q:Rat) {j k:Nat} (hp:Bz p j) (hq:Bz q k) (h:j+k+1<=1048576):ae Tryz.prog 19 [aB p,aB q] (.p (aB (p+q))) []:=by
 refine aW Tryz.func19 ?_
 have h1:=hp.n
 have h2:=hp.d
 have h3:=hq.n
 have h4:=hq.d
 have g1:=hp.sz.n
 have g2:=hp.sz.d
 have g3:=hq.sz.n
 have g4:=hq.sz.d
 have hd:=Nat.mul_ne_zero p.den_nz q.den_nz
 obtain⟨x,hx⟩:∃x,x=p.num.natAbs*q.den:=⟨_,rfl⟩
 obtain⟨y,hy⟩:∃y,y=q.num.natAbs*p.den:=⟨_,rfl⟩
 obtain⟨d,hdd⟩:∃d,d=p.den*q.den:=⟨_,rfl⟩
 have m1:=i7 false false p.num.natAbs q.den qO qO
 have m2:=i7 false false q.num.natAbs p.den qO qO
 have m3:=i7 false false p.den q.den qO qO
 have hxl:bitLen x<=j+k:=by rw[hx];exact gH h1 h4
 have hyl:bitLen y<=j+k:=by rw[hy,Nat.add_comm];exact gH h3 h2
 have hdl:bitLen d<=j+k:=by rw[hdd];exact gH h2 h4
 have nx:=a9 x
 have ny:=a9 y
 have nd:=a9 d
 have hd':d≠0:=by rw[hdd];exact hd
 rw[<-hx]at m1
 rw[<-hy]at m2
 rw[<-hdd]at m3
 refine gx ?_
 repeat refine aq ?_
 refine ag (aa.pure (m1) af) ?_
 repeat refine aq ?_
 refine ag (aa.pure (m2) af) ?_
 repeat refine aq ?_
 refine aa.pure (m3) ?_
 by_cases hs:decide (p.num<0)=decide (q.num<0)
 ·refine ao.yes (beq_iff_eq.2 hs) ?_
  have hl:=mB (decide (p.num<0)) false false (x+y) d hd' (Nat.le_trans (Hy hxl hyl) qO) qO
  rw[hx,hy,hdd,<-add_same hs,<-hx,<-hy,<-hdd]at hl
  refine gx ?_
  repeat refine aq ?_
  refine ag (aa.pure (Kg false false x y qO qO) af) ?_
  repeat refine aq ?_
  refine ag (aa.pure (hl) af) ?_
  repeat refine aq ?_
  exact ab.pure (.p _ (aG _ _ _))
 ·refine ao.no (beq_eq_false_iff_ne.2 hs) ?_
  refine aa.pure (kO false false x y qO qO) ?_
  by_cases hle:y<=x
  ·refine ao.no (decide_eq_false (by simp only[cF];split;omega;split<;>omega)) ?_
   have hl:=mB (decide (p.num<0)) false false (x-y) d hd' (Nat.le_trans (cY (Nat.sub_le _ _)) qO) qO
   rw[hx,hy,hdd,<-qw hs (by rw[<-hx,<-hy];exact hle),<-hx,<-hy,<-hdd]at hl
   refine aa.aO (Dp false false x y qO qO hle) (fun _=>rfl) ?_
   refine aa.pure (hl) ?_
   exact ab.pure (.p _ (aG _ _ _))
  ·refine ao.yes (decide_eq_true (by simp only[cF];split;omega;omega)) ?_
   have hl:=mB (decide (q.num<0)) false false (y-x) d hd' (Nat.le_trans (cY (Nat.sub_le _ _)) qO) qO
   rw[hx,hy,hdd,<-pY hs (by rw[<-hx,<-hy];omega),<-hx,<-hy,<-hdd]at hl
   refine aa.aO (Dp false false y x qO qO qO) (fun _=>rfl) ?_
   refine aa.pure (hl) ?_
   exact ab.pure (.p _ (aG _ _ _))
theorem pS (p q:Rat) {j k:Nat} (hp:Bz p j) (hq:Bz q k) (h:j+k+1<=1048576):ae Tryz.prog 85 [aB p,aB q] (.p (aB (p-q))) []:=by
 refine aW Tryz.func85 ?_
 have hA:=jn p (-q) hp hq.neg h
 rw[<-Rat.sub_eq_add_neg]at hA
 refine gx ?_
 repeat refine aq ?_
 refine ag (aa.pure (r9 q (hq.nn qO) (hq.nd qO)) af) ?_
 refine ag (aa.pure (hA) af) ?_
 repeat refine aq ?_
 exact ab.pure (.p _ (aG _ _ _))
theorem yL (p q:Rat) {j k:Nat} (hp:Bz p j) (hq:Bz q k) (h:j+k<=1048576):ae Tryz.prog 15 [aB p,aB q] (.p (.int .i64 (nF p q))) []:=by
 refine aW Tryz.func15 ?_
 have hpd:0<p.den:=Nat.pos_of_ne_zero p.den_nz
 have hqd:0<q.den:=Nat.pos_of_ne_zero q.den_nz
 have h1:=hp.sz.n
 have h2:=hp.sz.d
 have h3:=hq.sz.n
 have h4:=hq.sz.d
 have hP:p.num*(q.den:Int)=cZ (decide (p.num<0)) (p.num.natAbs*q.den):=nN p q
 have hQ:q.num*(p.den:Int)=cZ (decide (q.num<0)) (q.num.natAbs*p.den):=nN q p
 have m1:=i7 false false p.num.natAbs q.den qO qO
 have m2:=i7 false false q.num.natAbs p.den qO qO
 have x0:p.num≠0->0<p.num.natAbs*q.den:=fun h=>Nat.mul_pos qO hqd
 have y0:q.num≠0->0<q.num.natAbs*p.den:=fun h=>Nat.mul_pos qO hpd
 have hxl:az (p.num.natAbs*q.den)<=j+k:=eu h1 h4
 have hyl:az (q.num.natAbs*p.den)<=j+k:=by rw[Nat.add_comm];exact eu h3 h2
 have m3:=kO false false (p.num.natAbs*q.den) (q.num.natAbs*p.den) qO qO
 rw[CK,hP,hQ]
 generalize hx:p.num.natAbs*q.den=x at*
 generalize hy:q.num.natAbs*p.den=y at*
 by_cases p1:p.num<0
 ·have xp:=x0 qO
  by_cases q1:q.num<0
  ·have yp:=y0 qO
   rw[decide_eq_true p1,decide_eq_true q1]
   refine ao.no (by simp[p1,q1]) ?_
   refine gx ?_
   repeat refine aq ?_
   refine ag (aa.pure (m1) af) ?_
   repeat refine aq ?_
   refine ag (aa.pure (m2) af) ?_
   refine ag (aa.pure (m3) af) ?_
   repeat refine aq ?_
   refine iK.mk (fun _=>?_) (fun hb=>absurd p1 (of_decide_eq_false hb))
   refine ai.bD (0-cF x y) rfl (by simp only[cF];split<;>(try split)<;>omega) ?_
   refine ab.pure ?_
   rw[show(if cZ true x<cZ true y then(-1:Int)else if cZ true x=cZ true y then 0 else 1)=0-cF x y by
    simp only[cZ,if_true,cF]
    rcases Nat.lt_trichotomy x y with h|h|h
    ·rw[if_neg qO,if_neg qO,if_pos h];rfl
    ·rw[if_neg qO,if_pos qO,if_neg qO,if_pos h];rfl
    ·rw[if_pos qO,if_neg qO,if_neg qO];rfl]
   exact .p _ (.int _ _)
  ·rw[decide_eq_true p1,decide_eq_false q1]
   refine ao.yes (by simp[p1,q1]) ?_
   refine iK.mk (fun _=>?_) (fun hb=>absurd p1 (of_decide_eq_false hb))
   rw[show(if cZ true x<cZ false y then(-1:Int)else if cZ true x=cZ false y then 0 else 1)= -1 by
    simp only[cZ,if_true,Bool.false_eq_true,if_false]
    rw[if_pos qO]]
   exact ab.pure (.p _ (.int _ _))
 ·by_cases q1:q.num<0
  ·have yp:=y0 qO
   rw[decide_eq_false p1,decide_eq_true q1]
   refine ao.yes (by simp[p1,q1]) ?_
   refine iK.mk (fun hb=>absurd (of_decide_eq_true hb) p1) (fun _=>?_)
   rw[show(if cZ false x<cZ true y then(-1:Int)else if cZ false x=cZ true y then 0 else 1)=1 by
    simp only[cZ,if_true,Bool.false_eq_true,if_false]
    rw[if_neg qO,if_neg qO]]
   exact ab.pure (.p _ (.int _ _))
  ·rw[decide_eq_false p1,decide_eq_false q1]
   refine ao.no (by simp[p1,q1]) ?_
   refine gx ?_
   repeat refine aq ?_
   refine ag (aa.pure (m1) af) ?_
   repeat refine aq ?_
   refine ag (aa.pure (m2) af) ?_
   refine ag (aa.pure (m3) af) ?_
   repeat refine aq ?_
   refine iK.mk (fun hb=>absurd (of_decide_eq_true hb) p1) (fun _=>?_)
   refine ab.pure ?_
   rw[show(if cZ false x<cZ false y then(-1:Int)else if cZ false x=cZ false y then 0 else 1)=cF x y by
    simp only[cZ,Bool.false_eq_true,if_false,cF]
    rcases Nat.lt_trichotomy x y with h|h|h
    ·rw[if_pos qO,if_pos h]
    ·rw[if_neg qO,if_pos qO,if_neg qO,if_pos h]
    ·rw[if_neg qO,if_neg qO,if_neg qO,if_neg qO]]
   exact .p _ (.int _ _)
theorem J6 {p q:Rat} (h1:decide (p.num<0)=decide (q.num<0)) (h2:p.num.natAbs=q.num.natAbs) (h3:p.den=q.den):p=q:=by
 refine Rat.ext ?_ h3
 have:(p.num<0)↔(q.num<0):=by simpa using h1
 omega
theorem oG (p q:Rat) {j k:Nat} (hp:Bz p j) (hq:Bz q k) (h:j+k<=137438953472):ae Tryz.prog 14 [aB p,aB q] (.p (.bool (decide (p=q)))) []:=by
 refine aW Tryz.func14 ?_
 have h1:=hp.sz.n
 have h2:=hp.sz.d
 have h3:=hq.sz.n
 have h4:=hq.sz.d
 by_cases hs:decide (p.num<0)=decide (q.num<0)
 ·refine ao.yes (beq_iff_eq.2 hs) ?_
  refine aa.pure (kO false false p.num.natAbs q.num.natAbs qO qO) ?_
  by_cases hn:p.num.natAbs=q.num.natAbs
  ·refine ao.yes (by simp[cF,hn]) ?_
   refine aa.pure (kO false false p.den q.den qO qO) ?_
   by_cases hd:p.den=q.den
   ·refine ao.yes (by simp[cF,hd]) ?_
    rw[decide_eq_true (show p=q from J6 hs hn hd)]
    exact ab.pure (.tf true)
   ·refine ao.no (by simp only[cF];split<;>simp[hd]) ?_
    rw[decide_eq_false (show ¬p=q from fun e=>hd (by rw[e]))]
    exact ab.pure (.tf false)
  ·refine ao.no (by simp only[cF];split<;>simp[hn]) ?_
   rw[decide_eq_false (show ¬p=q from fun e=>hn (by rw[e]))]
   exact ab.pure (.tf false)
 ·refine ao.no (beq_eq_false_iff_ne.2 hs) ?_
  rw[decide_eq_false (show ¬p=q from fun e=>hs (by rw[e]))]
  exact ab.pure (.tf false)
abbrev a7 (l:List Rat):List PV:=l.map aB
abbrev ar (m:Bool) (l:List Rat):PV:=.sl m 3 (a7 l)
theorem aF.rb {l:List Rat} {i:Int} {K:Nat->PV->Prop} (j:Nat) (hi:i=j) (hj:j<l.length) (hk:K j (aB (l.getD j 0))):aF (a7 l) i K:=
 .mk j _ hi (by simp[List.getElem?_map,List.getElem?_eq_getElem hj,List.getD]) hk
theorem au (l:List Rat):∀e∈a7 l,∀c∈e.cells,ct c:=by
 intro e he c hc
 obtain⟨x,_,rfl⟩:=List.mem_map.1 he
 have hc:c∈[PV.bool (decide (x.num<0)),cg x.num.natAbs,cg x.den]:=hc
 simp at hc
 rcases hc with rfl|rfl|rfl
 ·exact .bool _
 ·exact .sl _ _ (aL _)
 ·exact .sl _ _ (aL _)
def Bl (l:List Rat) (k:Nat):Prop:=∀i,i<l.length->Bz (l.getD i 0) k
section
def p2 (e:Int):Rat:=if 0<=e then((2^e.toNat:Nat):Rat)else 1/((2^(-e).toNat:Nat):Rat)
theorem jz (k:Nat):p2 (k:Int)=((2^k:Nat):Rat):=by rw[p2,if_pos qO,Int.toNat_natCast]
theorem dE (k:Nat):(0:Rat)<((2^k:Nat):Rat):=by
 have:0<2^k:=Nat.two_pow_pos k
 exact_mod_cast this
theorem xB {x:Rat} (h:0<x):0<1/x:=by
 have e:1/x*x=1:=Rat.div_mul_cancel (by grind)
 rcases Rat.le_total (a:=1/x) (b:=0)with h1|h1
 ·have:=Rat.mul_nonneg (show 0<= -(1/x) by grind) (show 0<=x by grind)
  grind
 ·rcases Rat.le_iff_lt_or_eq.1 h1 with h2|h2
  ·exact h2
  ·rw[<-h2]at e;grind
theorem lN (e:Int):0<p2 e:=by
 unfold p2;split
 ·exact dE _
 ·exact xB (dE _)
theorem uM (k:Nat):p2 (-(k:Int))=1/((2^k:Nat):Rat):=by
 unfold p2
 split
 ·have:k=0:=qO
  subst this;simp;grind
 ·congr 3;omega
theorem Dz (e:Int):p2 (e+1)=2*p2 e:=by
 rcases Int.lt_or_le e 0 with h|h
 ·obtain⟨k,hk⟩:∃k:Nat,e= -((k+1:Nat):Int):=⟨(-e-1).toNat,qO⟩
  rw[hk,uM,show-((k+1:Nat):Int)+1= -(k:Int) by omega,uM]
  have h1:=dE k
  have h2:((2^(k+1):Nat):Rat)=2*((2^k:Nat):Rat):=by rw[Nat.pow_succ,Nat.mul_comm];simp
  rw[h2]
  generalize((2^k:Nat):Rat)=x at h1
  grind
 ·obtain⟨k,hk⟩:∃k:Nat,e=(k:Int):=⟨e.toNat,qO⟩
  rw[hk,jz,show(k:Int)+1=((k+1:Nat):Int) by omega,jz,Nat.pow_succ,Nat.mul_comm]
  simp
theorem fz (e:Int) (k:Nat):p2 (e+k)=p2 e*((2^k:Nat):Rat):=by
 induction k with
 |zero=>simp
 |succ k ih=>
  rw[show e+((k+1:Nat):Int)=e+k+1 by omega,Dz,ih,Nat.pow_succ]
  simp
  grind
theorem D4:p2 0=1:=by have:=jz 0;simpa using this
theorem Nc (a b:Int):p2 (a+b)=p2 a*p2 b:=by
 rcases Int.lt_or_le b 0 with h|h
 ·obtain⟨k,hk⟩:∃k:Nat,b= -(k:Int):=⟨(-b).toNat,qO⟩
  have h1:=fz (a+b) k
  have h2:=fz b k
  rw[show a+b+(k:Int)=a by omega]at h1
  rw[show b+(k:Int)=0 by omega,D4]at h2
  have:=dE k
  rw[h1]
  generalize((2^k:Nat):Rat)=x at*
  grind
 ·obtain⟨k,hk⟩:∃k:Nat,b=(k:Int):=⟨b.toNat,qO⟩
  rw[hk,fz,jz]
theorem tC {a b:Int} (h:b<=a):p2 a=p2 b*((2^(a-b).toNat:Nat):Rat):=by
 have:=fz b (a-b).toNat
 rwa[show b+((a-b).toNat:Int)=a by omega]at this
theorem sc {a b:Nat}:(a:Rat)<=(b:Rat)↔a<=b:=by exact_mod_cast Iff.rfl
theorem Lr {a b:Nat}:(a:Rat)<(b:Rat)↔a<b:=by exact_mod_cast Iff.rfl
theorem lV {a b c:Rat} (h:a<=b) (hc:0<c):a*c<=b*c:=by
 have:=Rat.mul_nonneg (show 0<=b-a by grind) (show 0<=c by grind)
 grind
theorem qN {a b:Rat} (h:0<a) (hc:0<b):0<a*b:=Rat.mul_pos h hc
theorem Gh {a b c:Rat} (h:a<b) (hc:0<c):a*c<b*c:=by
 have:=Rat.mul_pos (show 0<b-a by grind) hc
 grind
theorem KI {a b:Int} (h:a<=b):p2 a<=p2 b:=by
 rw[tC h]
 have h1:(1:Rat)<=((2^(b-a).toNat:Nat):Rat):=by
  have:=Nat.two_pow_pos (b-a).toNat
  exact_mod_cast this
 have:=lV h1 (lN a)
 grind
def fq (c:Nat):Nat:=if c<4503599627370496 then c else c%4503599627370496+4503599627370496
def eF (c:Nat):Int:=if c<4503599627370496 then-1074 else((c/4503599627370496:Nat):Int)-1075
def b7 (c:Nat):Rat:=(fq c:Rat)*p2 (eF c)
theorem mH (c:Nat):b7 (c+1)=b7 c+p2 (eF c):=by
 unfold b7 fq eF
 rcases Nat.lt_or_ge (c+1) 4503599627370496 with h|h
 ·rw[if_pos h,if_pos h,if_pos qO,if_pos qO]
  simp;grind
 ·rcases Nat.lt_or_ge c 4503599627370496 with h0|h0
  ·have:c=4503599627370495:=qO
   subst this
   rw[if_neg qO,if_neg qO,if_pos qO,if_pos qO]
   have:((4503599627370496:Nat):Rat)=((4503599627370495:Nat):Rat)+1:=by exact_mod_cast (rfl:(4503599627370496:Nat)=4503599627370495+1)
   show((4503599627370496:Nat):Rat)*p2 (-1074)=_
   rw[this];grind
  ·rw[if_neg qO,if_neg qO,if_neg qO,if_neg qO]
   rcases Nat.lt_or_ge (c%4503599627370496+1) 4503599627370496 with h1|h1
   ·have e1:(c+1)/4503599627370496=c/4503599627370496:=qO
    have e2:(c+1)%4503599627370496+4503599627370496=(c%4503599627370496+4503599627370496)+1:=qO
    rw[e1,e2]
    obtain⟨x,hx⟩:∃x,x=c%4503599627370496+4503599627370496:=⟨_,rfl⟩
    rw[<-hx]
    simp;grind
   ·have e1:(c+1)/4503599627370496=c/4503599627370496+1:=qO
    have e2:(c+1)%4503599627370496=0:=qO
    have e3:c%4503599627370496=4503599627370495:=qO
    rw[e1,e2,e3,show(((c/4503599627370496+1:Nat):Int)-1075)=((c/4503599627370496:Nat):Int)-1075+1 by omega,Dz]
    show((4503599627370496:Nat):Rat)*_=((9007199254740991:Nat):Rat)*_+_
    have:2*((4503599627370496:Nat):Rat)=((9007199254740991:Nat):Rat)+1:=by exact_mod_cast (rfl:2*(4503599627370496:Nat)=9007199254740991+1)
    grind
theorem fG:b7 0=0:=by simp[b7,fq]
theorem oU (c:Nat):b7 c<b7 (c+1):=by rw[mH];have:=lN (eF c);grind
theorem Ah (a k:Nat):b7 a<b7 (a+k+1):=by
 induction k with
 |zero=>exact oU a
 |succ k ih=>have:=oU (a+k+1);show _<b7 (a+k+1+1);grind
theorem nr {a b:Nat}:b7 a<b7 b↔a<b:=by
 have key:∀{a b:Nat},a<b->b7 a<b7 b:=fun{a b} h=>by
  obtain⟨k,hk⟩:∃k,b=a+k+1:=⟨b-a-1,qO⟩
  rw[hk];exact Ah a k
 refine⟨fun h=>?_,key⟩
 rcases Nat.lt_trichotomy a b with h1|h1|h1
 ·exact h1
 ·subst h1;grind
 ·have:=key h1;grind
theorem iu {a b:Nat}:b7 a<=b7 b↔a<=b:=by
 rw[<-Rat.not_lt,nr];omega
theorem zG {a b:Nat}:b7 a=b7 b↔a=b:=by
 refine⟨fun h=>?_,fun h=>by rw[h]⟩
 have h1:=iu.1 (show b7 a<=b7 b by rw[h];exact Rat.le_refl)
 have h2:=iu.1 (show b7 b<=b7 a by rw[h];exact Rat.le_refl)
 omega
theorem lF (c:Nat):0<=b7 c:=by rw[<-fG,iu];omega
theorem mS {v t:Nat} (h:v<9007199254740992) (h2:4503599627370496<=v\/t=0):b7 (v+t*4503599627370496)=(v:Rat)*p2 ((t:Int)-1074)/\eF (v+t*4503599627370496)=(t:Int)-1074:=by
 unfold b7 fq eF
 rcases Nat.lt_or_ge v 4503599627370496 with h0|h0
 ·have ht:t=0:=qO
  subst ht
  rw[if_pos qO,if_pos qO]
  simp
 ·have e1:(v+t*4503599627370496)/4503599627370496=t+1:=qO
  have e2:(v+t*4503599627370496)%4503599627370496+4503599627370496=v:=qO
  rw[if_neg qO,if_neg qO,e1,e2,show((t+1:Nat):Int)-1075=(t:Int)-1074 by omega]
  exact⟨rfl,rfl⟩
theorem kS (c:Nat): -1074<=eF c:=by unfold eF;split<;>omega
def u5 (X:Rat) (c:Nat):Prop:=b7 c<=X/\X<b7 (c+1)
theorem u5.uniq {X:Rat} {a b:Nat} (ha:u5 X a) (hb:u5 X b):a=b:=by
 have h1:b7 a<b7 (b+1):=by have:=ha.1;have:=hb.2;grind
 have h2:b7 b<b7 (a+1):=by have:=hb.1;have:=ha.2;grind
 rw[nr]at h1 h2
 omega
theorem E2 (c:Nat):(c:Rat)*p2 (-1074)<=b7 c:=by
 induction c with
 |zero=>rw[fG];simp
 |succ c ih=>
  rw[mH]
  have:=KI (kS c)
  simp;grind
theorem ER (p:Nat->Prop) (h0:p 0):∀n,¬p n->∃c,p c/\¬p (c+1):=by
 intro n
 induction n with
 |zero=>intro h;exact absurd h0 h
 |succ n ih=>
  intro h
  by_cases hn:p n
  ·exact⟨n,hn,h⟩
  ·exact ih hn
theorem Fk {X:Rat} (h:0<=X):∃c,u5 X c:=by
 obtain⟨E,hE⟩:∃E:Nat,E=1074:=⟨_,rfl⟩
 obtain⟨c,h1,h2⟩:=ER (fun c=>b7 c<=X) (by show b7 0<=X;rw[fG];exact h) ((X.num.natAbs+1)*2^E) (by
  intro hle
  have hle:b7 ((X.num.natAbs+1)*2^E)<=X:=hle
  have h1:=E2 ((X.num.natAbs+1)*2^E)
  have h2:p2 (-1074)=1/((2^E:Nat):Rat):=by rw[<-uM E,hE];rfl
  have h3:=dE E
  have h4:(((X.num.natAbs+1)*2^E:Nat):Rat)*p2 (-1074)=((X.num.natAbs+1:Nat):Rat):=by
   rw[h2,Rat.natCast_mul]
   generalize((2^E:Nat):Rat)=x at h3
   generalize((X.num.natAbs+1:Nat):Rat)=y
   grind
  rw[h4]at h1
  have h5:X<=((X.num.natAbs:Nat):Rat):=by
   have e:(X.num:Rat)/((X.den:Int):Rat)=X:=by rw[<-Rat.divInt_eq_div];exact Rat.num_divInt_den X
   have hd0:((X.den:Int):Rat)=(X.den:Rat):=rfl
   rw[hd0]at e
   have hd:(1:Rat)<=(X.den:Rat):=by have:=X.den_pos;exact_mod_cast this
   have h6:=Rat.mul_nonneg h (show 0<=(X.den:Rat)-1 by grind)
   have h7:(X.num:Rat)<=((X.num.natAbs:Nat):Rat):=by
    have:X.num<=(X.num.natAbs:Int):=qO
    have h8:((X.num:Int):Rat)<=(((X.num.natAbs:Nat):Int):Rat):=by exact_mod_cast this
    exact h8
   have hn:(X.num:Rat)=X*(X.den:Rat):=by
    have:=Rat.div_mul_cancel (a:=(X.num:Rat)) (b:=(X.den:Rat)) (by grind)
    rw[e]at this;exact this.symm
   rw[hn]at h7
   generalize((X.num.natAbs:Nat):Rat)=y at h7⊢
   grind
  rw[Rat.natCast_add]at h1
  grind)
 exact⟨c,h1,Rat.not_le.1 h2⟩
open Classical in
noncomputable def cd (X:Rat):Nat:=if h:∃c,u5 X c then h.choose else 0
theorem H8 {X:Rat} {c:Nat} (h:u5 X c):cd X=c:=by
 unfold cd
 have h1:∃c,u5 X c:=⟨c,h⟩
 rw[dif_pos h1]
 exact h1.choose_spec.uniq h
theorem L8 {X:Rat} (h:0<=X):u5 X (cd X):=by
 obtain⟨c,hc⟩:=Fk h
 rw[H8 hc];exact hc
def rI (a b:Rat):Int:=if a<b then-1 else if b<a then 1 else 0
def sg (neg:Bool) (c:Nat):Nat:=if neg then c+9223372036854775808 else c
def goUp (mode:Int) (neg sm odd:Bool) (half:Int):Bool:=
 if mode=1 then false else if mode=2 then neg&&sm else if mode=3 then !neg&&sm else if mode=4 then decide (0<=half)else decide (0<half)||(decide (half=0)&&odd)
def xT (neg:Bool) (mode:Int):Nat:=if mode=1\/(mode=2/\neg=false)\/(mode=3/\neg=true)then 9218868437227405311 else 9218868437227405312
def yP (neg:Bool) (c:Nat) (sm:Bool) (half mode:Int):Nat:=if goUp mode neg sm (decide (c%2=1)) half then c+1 else c
def out (neg:Bool) (c:Nat) (sm:Bool) (half mode:Int):Nat×Int:=
 if 9218868437227405312<=yP neg c sm half mode then(sg neg (xT neg mode),5)else(sg neg (yP neg c sm half mode),if sm then(if c<4503599627370496 then 3 else 1)else 0)
noncomputable def rJ (neg:Bool) (X:Rat) (mode:Int):Nat×Int:=out neg (cd X) (decide (b7 (cd X)≠X)) (rI (2*X) (b7 (cd X)+b7 (cd X+1))) mode
structure Cut (X:Rat) (c:Nat) (sm:Bool) (half:Int):Prop where
 cd:u5 X c
 sm:sm=decide (b7 c≠X)
 half:half=rI (2*X) (b7 c+b7 (c+1))
theorem Cut.out {X:Rat} {c:Nat} {sm:Bool} {half:Int} (h:Cut X c sm half) (neg:Bool) (mode:Int):out neg c sm half mode=rJ neg X mode:=by
 rw[rJ,H8 h.cd,<-h.sm,<-h.half]
theorem CV {v t:Nat} {X:Rat} (hv:v<9007199254740992) (h2:4503599627370496<=v\/t=0) (h3:(v:Rat)*p2 ((t:Int)-1074)<=X) (h4:X<((v:Rat)+1)*p2 ((t:Int)-1074)):
  Cut X (v+t*4503599627370496) (decide ((v:Rat)*p2 ((t:Int)-1074)≠X)) (rI (2*X) ((2*(v:Rat)+1)*p2 ((t:Int)-1074))):=by
 obtain⟨e1,e2⟩:=mS hv h2
 have e3:=mH (v+t*4503599627370496)
 rw[e2,e1]at e3
 refine⟨⟨by rw[e1];exact h3,by rw[e3];grind⟩,by rw[e1],?_⟩
 rw[e3,e1]
 congr 1
 grind
theorem E8 {X:Rat} {c:Nat} (h:u5 X c):c<4503599627370496↔X<p2 (-1022):=by
 have e:b7 4503599627370496=p2 (-1022):=by
  have:=(mS (v:=4503599627370496) (t:=0) qO (.inl qO)).1
  rw[show 4503599627370496+0*4503599627370496=4503599627370496 by omega]at this
  rw[this,show((0:Nat):Int)-1074= -1074 by omega]
  have h2:=fz (-1074) 52
  rw[show(-1074:Int)+((52:Nat):Int)= -1022 by omega]at h2
  rw[h2,show 2^52=4503599627370496 by decide,Rat.mul_comm]
 rw[<-e]
 constructor
 ·intro h1
  have:=iu.2 (show c+1<=4503599627370496 by omega)
  have:=h.2
  grind
 ·intro h1
  have:b7 c<b7 4503599627370496:=by have:=h.1;grind
  exact nr.1 this
def lk (m:Nat) (e:Int):Int:=max ((bitLen m:Int)-1+e-52) (-1074)
theorem qt (a:Nat) {e f:Int} (h:f<=e):(a:Rat)*p2 e=((a*2^(e-f).toNat:Nat):Rat)*p2 f:=by
 rw[tC h,Rat.natCast_mul];grind
theorem Fp {m:Nat} {e:Int} (hm:m≠0) (hk:lk m e<=e):∃v t:Nat,v=m*2^(e-lk m e).toNat/\lk m e=(t:Int)-1074/\v<9007199254740992/\(4503599627370496<=v\/t=0)/\
  Cut ((m:Rat)*p2 e) (v+t*4503599627370496) false (-1)/\((bitLen m:Int)-1+e< -1022↔v+t*4503599627370496<4503599627370496):=by
 obtain⟨L,hL⟩:∃L,L=bitLen m:=⟨_,rfl⟩
 have hl:=cN m
 have hp:=kY hm
 have hL0:L≠0:=by rw[hL];exact mt cK.1 hm
 rw[<-hL]at hl hp
 obtain⟨A,hA⟩:∃A,A=lk m e:=⟨_,rfl⟩
 have hA':=hA
 rw[lk,<-hL]at hA'
 rw[<-hA]at hk⊢
 rw[<-hL]
 obtain⟨k,hk'⟩:∃k,k=(e-A).toNat:=⟨_,rfl⟩
 rw[<-hk']
 have hv:m*2^k<9007199254740992:=by
  have h1:m*2^k<2^L*2^k:=Nat.mul_lt_mul_of_pos_right hl (Nat.two_pow_pos k)
  rw[<-Nat.pow_add]at h1
  have h2:2^(L+k)<=2^53:=Nat.pow_le_pow_right qO qO
  have h3:2^53=9007199254740992:=qD
  omega
 have hv2:4503599627370496<=m*2^k\/A= -1074:=by
  by_cases h:A= -1074
  ·exact .inr h
  ·left
   have h1:2^(L-1)*2^k<=m*2^k:=Nat.mul_le_mul_right _ hp
   rw[<-Nat.pow_add,show L-1+k=52 by omega]at h1
   have h3:2^52=4503599627370496:=qD
   omega
 have hX:(m:Rat)*p2 e=((m*2^k:Nat):Rat)*p2 A:=by rw[hk'];exact qt m hk
 have ht:A=((A+1074).toNat:Int)-1074:=qO
 obtain⟨t,ht'⟩:∃t,t=(A+1074).toNat:=⟨_,rfl⟩
 rw[<-ht']at ht
 have hp2:=lN A
 have hc:=CV (v:=m*2^k) (t:=t) (X:=(m:Rat)*p2 e) hv qO (by rw[<-ht,hX];exact Rat.le_refl) (by rw[<-ht,hX];grind)
 rw[<-ht,hX]at hc
 rw[decide_eq_false qS]at hc
 rw[show rI (2*(((m*2^k:Nat):Rat)*p2 A)) ((2*((m*2^k:Nat):Rat)+1)*p2 A)= -1 by rw[rI,if_pos (by grind)]]at hc
 refine⟨m*2^k,t,rfl,ht,hv,qO,by rw[hX];exact hc,?_⟩
 constructor
 ·intro h1
  have h2:A= -1074:=qO
  have ht0:t=0:=qO
  subst ht0
  have h1:m*2^k<2^L*2^k:=Nat.mul_lt_mul_of_pos_right hl (Nat.two_pow_pos k)
  rw[<-Nat.pow_add]at h1
  have h2:2^(L+k)<=2^52:=Nat.pow_le_pow_right qO qO
  have h3:2^52=4503599627370496:=qD
  omega
 ·intro h1
  rcases Int.lt_or_le ((L:Int)-1+e) (-1022)with h2|h2
  ·exact h2
  ·exfalso
   have h3:2^(L-1)*2^k<=m*2^k:=Nat.mul_le_mul_right _ hp
   rw[<-Nat.pow_add,show L-1+k=52 by omega]at h3
   have h4:2^52=4503599627370496:=qD
   omega
def j7 (r k:Nat) (more:Bool):Int:=if cF r (2^(k-1))=0/\more=true then 1 else cF r (2^(k-1))
theorem GU {m:Nat} {e:Int} {more:Bool} {X:Rat} (hm:m≠0) (hk:e<lk m e) (h1:(m:Rat)*p2 e<=X) (h2:X<((m:Rat)+1)*p2 e) (hmore:more=decide (X≠(m:Rat)*p2 e)) {k:Nat} (hk':k=(lk m e-e).toNat):
  ∃v t:Nat,v=m/2^k/\lk m e=(t:Int)-1074/\v<9007199254740992/\(4503599627370496<=v\/t=0)/\
  Cut X (v+t*4503599627370496) (decide (m%2^k≠0)||more) (j7 (m%2^k) k more)/\((bitLen m:Int)-1+e< -1022↔v+t*4503599627370496<4503599627370496):=by
 obtain⟨L,hL⟩:∃L,L=bitLen m:=⟨_,rfl⟩
 have hl:=cN m
 have hp:=kY hm
 have hL0:L≠0:=by rw[hL];exact mt cK.1 hm
 rw[<-hL]at hl hp
 obtain⟨A,hA⟩:∃A,A=lk m e:=⟨_,rfl⟩
 have hA':=hA
 rw[lk,<-hL]at hA'
 rw[<-hA]at hk hk'⊢
 rw[<-hL]
 have hk0:0<k:=qO
 obtain⟨v,hv0⟩:∃v,v=m/2^k:=⟨_,rfl⟩
 obtain⟨r,hr0⟩:∃r,r=m%2^k:=⟨_,rfl⟩
 have hdm:m=2^k*v+r:=by rw[hv0,hr0];exact(Nat.div_add_mod m (2^k)).symm
 have hr:r<2^k:=by rw[hr0];exact Nat.mod_lt _ (Nat.two_pow_pos k)
 have hv:v<9007199254740992:=by
  rw[hv0,Nat.div_lt_iff_lt_mul (Nat.two_pow_pos k)]
  have h2:2^L<=2^(53+k):=Nat.pow_le_pow_right qO qO
  rw[Nat.pow_add]at h2
  have h3:2^53=9007199254740992:=qD
  rw[h3]at h2
  omega
 have hv2:4503599627370496<=v\/A= -1074:=by
  by_cases h:A= -1074
  ·exact .inr h
  ·left
   rw[hv0,Nat.le_div_iff_mul_le (Nat.two_pow_pos k)]
   have h2:2^(52+k)<=2^(L-1):=Nat.pow_le_pow_right qO qO
   rw[Nat.pow_add]at h2
   have h3:2^52=4503599627370496:=qD
   rw[h3]at h2
   omega
 have ht:A=((A+1074).toNat:Int)-1074:=qO
 obtain⟨t,ht'⟩:∃t,t=(A+1074).toNat:=⟨_,rfl⟩
 rw[<-ht']at ht
 have hpe:=lN e
 have hpA:p2 A=p2 e*((2^k:Nat):Rat):=by rw[hk'];exact tC qO
 have hmq:(m:Rat)=((2^k:Nat):Rat)*(v:Rat)+(r:Rat):=by rw[<-Rat.natCast_mul,<-Rat.natCast_add,<-hdm]
 have hrq:(r:Rat)+1<=((2^k:Nat):Rat):=by
  have:r+1<=2^k:=hr
  exact_mod_cast this
 have hr1:(0:Rat)<=(r:Rat):=by exact_mod_cast Nat.zero_le r
 have hv1:(0:Rat)<=(v:Rat):=by exact_mod_cast Nat.zero_le v
 have lo:(v:Rat)*p2 A<=X:=by
  have:=Rat.mul_nonneg hr1 (show 0<=p2 e by grind)
  rw[hpA];rw[hmq]at h1;grind
 have hi:X<((v:Rat)+1)*p2 A:=by
  have:=lV hrq hpe
  rw[hpA];rw[hmq]at h2;grind
 have hc:=CV (v:=v) (t:=t) (X:=X) hv qO (by rw[<-ht];exact lo) (by rw[<-ht];exact hi)
 rw[<-ht]at hc
 have hsm:decide ((v:Rat)*p2 A≠X)=(decide (r≠0)||more):=by
  rw[hmore]
  by_cases hr00:r=0
  ·subst hr00
   rw[decide_eq_false (show ¬((0:Nat)≠0) by omega),Bool.false_or]
   have:(m:Rat)*p2 e=(v:Rat)*p2 A:=by rw[hpA,hmq];simp;grind
   rw[this]
   by_cases hx:X=(v:Rat)*p2 A
   ·rw[decide_eq_false (by simp[hx]),decide_eq_false (by simp[hx])]
   ·rw[decide_eq_true (show(v:Rat)*p2 A≠X from fun h=>hx h.symm),decide_eq_true (show X≠_ from hx)]
  ·rw[decide_eq_true (show r≠0 from hr00),Bool.true_or]
   have hr2:(0:Rat)<(r:Rat):=by
    have:0<r:=qO
    exact_mod_cast this
   have:=qN hr2 hpe
   exact decide_eq_true (by rw[hpA];rw[hmq]at h1;grind)
 have hhf:rI (2*X) ((2*(v:Rat)+1)*p2 A)=j7 r k more:=by
  obtain⟨j,hj⟩:∃j,k=j+1:=⟨k-1,qO⟩
  rw[j7,hj,show j+1-1=j by omega]
  have hk2:((2^k:Nat):Rat)=2*((2^j:Nat):Rat):=by rw[hj,Nat.pow_succ,Nat.mul_comm];simp
  rw[hk2]at hpA hmq
  obtain⟨H,hH⟩:∃H,H=2^j:=⟨_,rfl⟩
  rw[<-hH]at hpA hmq⊢
  rw[hpA]
  rcases Nat.lt_trichotomy r H with h|h|h
  ·have hq:(r:Rat)+1<=(H:Rat):=by
    have:r+1<=H:=h
    exact_mod_cast this
   have:=lV hq hpe
   have hz:cF r H= -1:=by rw[cF,if_pos h]
   rw[hz,if_neg qO,rI,if_pos (by rw[hmq]at h2;grind)]
  ·subst h
   have hz:cF r r=0:=by rw[cF,if_neg qO,if_pos rfl]
   rw[hz]
   by_cases hx:X=(m:Rat)*p2 e
   ·rw[hmore,decide_eq_false (by simp[hx]),if_neg qS,hx,hmq,rI,if_neg (by grind),if_neg (by grind)]
   ·rw[hmore,decide_eq_true (show X≠_ from hx),if_pos ⟨rfl,rfl⟩]
    have h3:(m:Rat)*p2 e<X:=by
     rcases Rat.le_iff_lt_or_eq.1 h1 with h|h
     ·exact h
     ·exact absurd h.symm hx
    rw[hmq]at h3
    rw[rI,if_neg (by grind),if_pos (by grind)]
  ·have hq:(H:Rat)+1<=(r:Rat):=by
    have:H+1<=r:=h
    exact_mod_cast this
   have:=lV hq hpe
   have hz:cF r H=1:=by rw[cF,if_neg qO,if_neg qO]
   rw[hz,if_neg qO,rI,if_neg (by rw[hmq]at h1;grind),if_pos (by rw[hmq]at h1;grind)]
 rw[hsm,hhf]at hc
 rw[<-hv0,<-hr0]
 refine⟨v,t,rfl,ht,hv,qO,hc,?_⟩
 constructor
 ·intro h1
  have h2:A= -1074:=qO
  have ht0:t=0:=qO
  subst ht0
  have:v<4503599627370496:=by
   rw[hv0,Nat.div_lt_iff_lt_mul (Nat.two_pow_pos k)]
   have h2:2^L<=2^(52+k):=Nat.pow_le_pow_right qO qO
   rw[Nat.pow_add]at h2
   have h3:2^52=4503599627370496:=qD
   rw[h3]at h2
   omega
  omega
 ·intro h1
  rcases Int.lt_or_le ((L:Int)-1+e) (-1022)with h2|h2
  ·exact h2
  ·exfalso
   have:4503599627370496<=v:=by
    rw[hv0,Nat.le_div_iff_mul_le (Nat.two_pow_pos k)]
    have h2:2^(52+k)<=2^(L-1):=Nat.pow_le_pow_right qO qO
    rw[Nat.pow_add]at h2
    have h3:2^52=4503599627370496:=qD
    rw[h3]at h2
    omega
   omega
end
theorem EW {x:Nat} (h:x<18446744073709551616):(BitVec.ofInt 64 (x:Int)).toNat=x:=by
 rw[BitVec.toNat_ofInt]
 show((x:Int)%(18446744073709551616:Int)).toNat=x
 omega
theorem ai.and {a b:Int} {K:Int->Prop} (x y z:Nat) (ha:a=x) (hb:b=y) (hx:x<18446744073709551616) (hy:y<18446744073709551616) (hz:x&&&y=z) (hk:K z):
  ai .u64 ((BitVec.ofInt (IntKind.bits .u64) a&&&BitVec.ofInt (IntKind.bits .u64) b).toNat:Int) K:=by
 subst ha hb
 have e:(BitVec.ofInt 64 (x:Int)&&&BitVec.ofInt 64 (y:Int)).toNat=z:=by rw[BitVec.toNat_and,EW hx,EW hy,hz]
 refine ai.ed z (congrArg Int.ofNat e) ?_ hk
 rw[<-hz];exact Nat.lt_of_le_of_lt Nat.and_le_left hx
theorem Ks {x y:Nat} (hx:x<18446744073709551616) (hy:y<18446744073709551616):x|||y<18446744073709551616:=Nat.or_lt_two_pow (n:=64) hx hy
theorem ai.or {a b:Int} {K:Int->Prop} (x y z:Nat) (ha:a=x) (hb:b=y) (hx:x<18446744073709551616) (hy:y<18446744073709551616) (hz:x|||y=z) (hk:K z):
  ai .u64 ((BitVec.ofInt (IntKind.bits .u64) a|||BitVec.ofInt (IntKind.bits .u64) b).toNat:Int) K:=by
 subst ha hb
 have e:(BitVec.ofInt 64 (x:Int)|||BitVec.ofInt 64 (y:Int)).toNat=z:=by rw[BitVec.toNat_or,EW hx,EW hy,hz]
 refine ai.ed z (congrArg Int.ofNat e) ?_ hk
 rw[<-hz];exact Ks hx hy
theorem ai.not {a b:Int} {K:Int->Prop} (x y z:Nat) (ha:a=x) (hb:b=y) (hx:x<18446744073709551616) (hy:y<18446744073709551616) (hz:x&&&(18446744073709551615-y)=z) (hk:K z):
  ai .u64 ((BitVec.ofInt (IntKind.bits .u64) a&&& ~~~BitVec.ofInt (IntKind.bits .u64) b).toNat:Int) K:=by
 subst ha hb
 have e:(BitVec.ofInt 64 (x:Int)&&& ~~~BitVec.ofInt 64 (y:Int)).toNat=z:=by
  rw[BitVec.toNat_and,BitVec.toNat_not,EW hx,EW hy,<-hz]
 refine ai.ed z (congrArg Int.ofNat e) ?_ hk
 rw[<-hz];exact Nat.lt_of_le_of_lt Nat.and_le_left hx
theorem r5 (x k:Nat):x&&&(2^k-1)=x%2^k:=Nat.and_two_pow_sub_one_eq_mod x k
theorem Pg (x:Nat):x&&&9223372036854775807=x%9223372036854775808:=r5 x 63
theorem O9 (x:Nat):x&&&4503599627370495=x%4503599627370496:=r5 x 52
theorem LU (x:Nat):x&&&2047=x%2048:=r5 x 11
theorem PJ (x:Nat):x&&&1=x%2:=r5 x 1
theorem Lu {a b k:Nat} (h:b<2^k):2^k*a|||b=2^k*a+b:=(Nat.two_pow_add_eq_or_of_lt h a).symm
theorem BC {x y a k:Nat} (h:y<2^k) (hx:x=2^k*a):x|||y=x+y:=by rw[hx];exact Lu h
theorem KE {x:Nat} (h:x<9223372036854775808):x|||9223372036854775808=x+9223372036854775808:=by
 rw[Nat.or_comm,BC (k:=63) (a:=1) h qD,Nat.add_comm]
theorem Kr {x:Nat} (h:x<4503599627370496):x|||4503599627370496=x+4503599627370496:=by
 rw[Nat.or_comm,BC (k:=52) (a:=1) h qD,Nat.add_comm]
theorem I7 {x:Nat} (hx:x<18446744073709551616):x&&&9223372036854775808=if 9223372036854775808<=x then 9223372036854775808 else 0:=by
 have ne:∀i,i≠63->Nat.testBit 9223372036854775808 i=false:=fun i hi=>by
  have:=Nat.testBit_two_pow_of_ne (n:=63) (m:=i) qO
  rwa[show(2:Nat)^63=9223372036854775808 by decide]at this
 apply Nat.eq_of_testBit_eq
 intro i
 rw[Nat.testBit_and]
 by_cases hi:i=63
 ·subst hi
  rw[Nat.testBit_eq_decide_div_mod_eq (x:=x),show(2:Nat)^63=9223372036854775808 by decide]
  split
  ·rw[decide_eq_true (show x/9223372036854775808%2=1 by omega),Bool.true_and]
  ·rw[decide_eq_false (show ¬x/9223372036854775808%2=1 by omega),Bool.false_and,Nat.zero_testBit]
 ·rw[ne i hi,Bool.and_false]
  split
  ·rw[ne i hi]
  ·rw[Nat.zero_testBit]
def flip (x:Nat):Nat:=if x<9223372036854775808 then x+9223372036854775808 else x-9223372036854775808
theorem ai.uc {a b:Int} {K:Int->Prop} (x:Nat) (ha:a=x) (hb:b=9223372036854775808) (hx:x<18446744073709551616) (hk:K ((x%9223372036854775808:Nat):Int)):
  ai .u64 ((BitVec.ofInt (IntKind.bits .u64) a&&& ~~~BitVec.ofInt (IntKind.bits .u64) b).toNat:Int) K:=.not x 9223372036854775808 _ ha hb hx qO (Pg x) hk
theorem ai.sign {a b:Int} {K:Int->Prop} (x:Nat) (ha:a=x) (hb:b=9223372036854775808) (hx:x<18446744073709551616) (hk:K ((if 9223372036854775808<=x then 9223372036854775808 else 0:Nat):Int)):
  ai .u64 ((BitVec.ofInt (IntKind.bits .u64) a&&&BitVec.ofInt (IntKind.bits .u64) b).toNat:Int) K:=.and x 9223372036854775808 _ ha hb hx qO (I7 hx) hk
theorem JQ {x:Nat} (h:x<18446744073709551616):flip x<18446744073709551616:=by unfold flip;split<;>omega
theorem GH {a:Nat} {K:Int->Prop} (hk:K ((a/4503599627370496:Nat):Int)):DH 52 (SZ ((a:Int).fdiv (2^(min (52:Int).toNat (IntKind.bits .u64)))) K):=
 .mk qD (.mk _ (by
  show Int.fdiv (a:Int) 4503599627370496=_
  rw[Int.fdiv_eq_ediv_of_nonneg _ qD];omega) hk)
def dQ (f:Nat):Nat:=f%9223372036854775808
def ik (f:Nat):Bool:=decide (9223372036854775808<=f)
def dC (f:Nat):Bool:=decide (9218868437227405312<f%9223372036854775808)
def isInf (f:Nat):Bool:=decide (f%9223372036854775808=9218868437227405312)
def m4 (f:Nat):Bool:=decide (f%9223372036854775808=0)
end Go.Proofs.YtiakeknbdclaoaaGreat
