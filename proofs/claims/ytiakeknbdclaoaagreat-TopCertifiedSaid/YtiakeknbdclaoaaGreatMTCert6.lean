/- FTCert: what its proof needs, part 6. -/
import Derived.Test.YtiakeknbdclaoaaGreatMTCert5
set_option linter.unusedVariables false
set_option linter.unusedSimpArgs false
namespace Go.Proofs.YtiakeknbdclaoaaGreat
open Go
set_option maxRecDepth 10000
section

def FQ (A:Nat->Nat->Rat) (j:Nat):Nat->Nat->Nat
 |0,p=>p
 |d+1,p=>if A p j=0 then FQ A j d (p+1)else p
def pv (A:Nat->Nat->Rat) (j n r:Nat):Nat:=FQ A j (n-r) r
theorem MH {A:Nat->Nat->Rat} {j:Nat}:∀(d r p:Nat),r<=p->p<=r+d->(∀i,r<=i->i<p->A i j=0)->(p=r+d\/A p j≠0)->FQ A j d r=p:=by
 intro d
 induction d with
 |zero=>intro r p h1 h2 _ _;simp only[FQ];omega
 |succ d ih=>
  intro r p h1 h2 h3 h4
  simp only[FQ]
  by_cases e:r=p
  ·subst e
   rcases h4 with h4|h4
   ·omega
   ·rw[if_neg h4]
  ·rw[if_pos (h3 r (Nat.le_refl _) qO)]
   exact ih (r+1) p qO qO (fun i hi=>h3 i qO) (h4.imp (fun h=>qO) id)
theorem vJ {A:Nat->Nat->Rat} {j n r p:Nat} (h1:r<=p) (h2:p<=n) (h3:∀i,r<=i->i<p->A i j=0) (h4:p=n\/A p j≠0):pv A j n r=p:=
 MH _ _ _ h1 qO h3 (h4.imp (fun h=>qO) id)
theorem Gz {A:Nat->Nat->Rat} {j:Nat}:∀(d r:Nat),r<=FQ A j d r/\FQ A j d r<=r+d/\(∀i,r<=i->i<FQ A j d r->A i j=0)/\(FQ A j d r=r+d\/A (FQ A j d r) j≠0):=by
 intro d
 induction d with
 |zero=>intro r;simp only[FQ];exact⟨Nat.le_refl _,Nat.le_refl _,fun i h1 h2=>qO,.inl rfl⟩
 |succ d ih=>
  intro r
  simp only[FQ]
  by_cases e:A r j=0
  ·rw[if_pos e]
   obtain⟨h1,h2,h3,h4⟩:=ih (r+1)
   refine⟨qO,qO,fun i hi hi2=>?_,h4.imp (fun h=>qO) id⟩
   by_cases ei:i=r
   ·subst ei;exact e
   ·exact h3 i qO hi2
  ·rw[if_neg e];exact⟨Nat.le_refl _,qO,fun i h1 h2=>qO,.inr e⟩
theorem dI {A:Nat->Nat->Rat} {j n r:Nat} (h:r<=n):r<=pv A j n r/\pv A j n r<=n/\(∀i,r<=i->i<pv A j n r->A i j=0)/\(pv A j n r=n\/A (pv A j n r) j≠0):=by
 obtain⟨h1,h2,h3,h4⟩:=Gz (A:=A) (j:=j) (n-r) r
 have e:r+(n-r)=n:=qO
 rw[e]at h2 h4
 exact⟨h1,h2,h3,h4⟩
def bO (A:Nat->Nat->Rat) (p r:Nat):Nat->Nat->Rat:=fun i=>A (if i=p then r else if i=r then p else i)
def fa (B:Nat->Nat->Rat) (r j:Nat):Nat->Nat->Rat:=fun i k=>if r<i/\j<=k then B i k-B i j/B r j*B r k else B i k
structure Pr where
 A:Nat->Nat->Rat
 gR:Rat
 r:Nat
def Ak (n j:Nat) (s:Pr):Pr:=
 if n<=pv s.A j n s.r then⟨s.A,0,s.r⟩else
  ⟨fa (bO s.A (pv s.A j n s.r) s.r) s.r j,(if pv s.A j n s.r=s.r then s.gR else-s.gR)*bO s.A (pv s.A j n s.r) s.r s.r j,s.r+1⟩
def elim (n:Nat) (A:Nat->Nat->Rat) (j:Nat):Pr:=iter (Ak n) j ⟨A,1,0⟩
theorem dA {n:Nat} {A:Nat->Nat->Rat} {j:Nat}:elim n A (j+1)=Ak n j (elim n A j):=rfl
theorem wx {n:Nat} {A:Nat->Nat->Rat}:∀j,(elim n A j).r<=j:=by
 intro j
 induction j with
 |zero=>exact Nat.le_refl _
 |succ j ih=>
  rw[dA];unfold Ak
  split
  ·show(elim n A j).r<=j+1;omega
  ·show(elim n A j).r+1<=j+1;omega
theorem dT {n:Nat} {A:Nat->Nat->Rat}:∀j,(elim n A j).r<=n:=by
 intro j
 induction j with
 |zero=>exact Nat.zero_le _
 |succ j ih=>
  rw[dA];unfold Ak
  split
  ·exact ih
  ·rename_i h
   have:=(dI (A:=(elim n A j).A) (j:=j) ih).1
   show(elim n A j).r+1<=n;omega
def bb (b:Nat):Nat->Nat
 |0=>b
 |k+1=>4*bb b k+1
def dR (R:Nat->Nat):Nat->Nat
 |0=>1
 |k+1=>dR R k+R k
theorem Gf {R:Nat->Nat} (h:∀k,R k<=R (k+1)) {i j:Nat} (hij:i<=j):R i<=R j:=by
 induction j with
 |zero=>rw[Nat.le_zero.1 hij];exact Nat.le_refl _
 |succ j ih=>
  by_cases e:i=j+1
  ·rw[e];exact Nat.le_refl _
  ·exact Nat.le_trans (ih qO) (h j)
theorem mV {R:Nat->Nat} {i j:Nat} (h:i<=j):dR R i<=dR R j:=Gf (fun k=>Nat.le_add_right _ _) h
theorem Hb {R:Nat->Nat} {k:Nat}:1<=dR R k:=mV (R:=R) (Nat.zero_le k)
theorem Pn {R:Nat->Nat} {k n:Nat} (h:k<n):R k+1<=dR R n:=by
 have h1:=mV (R:=R) (show k+1<=n from h)
 have h2:=Hb (R:=R) (k:=k)
 simp only[dR]at h1;omega
def rM (R:Nat->Nat) (n w:Nat) (A:Nat->Nat->Rat) (r:Nat):Prop:=∀i k,i<n->k<w->Bz (A i k) (R (min i r))
theorem rM.Mt {R:Nat->Nat} {n w:Nat} {A:Nat->Nat->Rat} {r p:Nat} (h:rM R n w A r) (hp:r<=p) (hpn:p<n):rM R n w (bO A p r) r:=by
 intro i k hi hk
 unfold bO
 by_cases e1:i=p
 ·rw[if_pos e1]
  have:=h r k qO hk
  rw[Nat.min_self]at this
  rw[Nat.min_eq_right qO];exact this
 ·rw[if_neg e1]
  by_cases e2:i=r
  ·rw[if_pos e2]
   have:=h p k hpn hk
   rw[Nat.min_eq_right hp]at this
   rw[e2,Nat.min_self];exact this
  ·rw[if_neg e2];exact h i k hi hk
theorem rM.quo {R:Nat->Nat} {n w:Nat} {B:Nat->Nat->Rat} {r:Nat} (h:rM R n w B r) {i j:Nat} (hi:i<n) (hr:r<i) (hj:j<w):Bz (B i j/B r j) (R r+R r):=by
 have h1:=h i j hi hj
 have h2:=h r j qO hj
 rw[Nat.min_eq_right qO]at h1
 rw[Nat.min_self]at h2
 exact h1.div h2
theorem rM.red {R:Nat->Nat} {n w:Nat} {B:Nat->Nat->Rat} {r j:Nat} (hR:4*R r+1<=R (r+1)) (hm:∀k,R k<=R (k+1)) (h:rM R n w B r) (hj:j<w):rM R n w (fa B r j) (r+1):=by
 intro i k hi hk
 unfold fa
 by_cases c:r<i/\j<=k
 ·rw[if_pos c]
  have h1:=h i k hi hk
  have h2:=h r k qO hk
  have h3:=h.quo hi c.1 hj
  rw[Nat.min_eq_right qO]at h1
  rw[Nat.min_self]at h2
  rw[Nat.min_eq_right qO]
  exact(h1.sub (h3.mul h2)).mono qO
 ·rw[if_neg c]
  exact(h i k hi hk).mono (Gf hm qO)
theorem nj {A:Nat->Nat->Rat} {r:Nat}:bO A r r=A:=by
 funext i
 unfold bO
 by_cases e:i=r
 ·rw[if_pos e,e]
 ·rw[if_neg e,if_neg e]
theorem iU {A:Nat->Nat->Rat} {p r:Nat}:bO A p r r=A p:=by
 unfold bO
 by_cases e:r=p
 ·rw[if_pos e,e]
 ·rw[if_neg e,if_pos rfl]
theorem fe {B:Nat->Nat->Rat} {r j i k:Nat} (h:i<=r\/k<j):fa B r j i k=B i k:=if_neg qO
theorem qa {B:Nat->Nat->Rat} {r j i k:Nat} (h:B i j=0):fa B r j i k=B i k:=by
 unfold fa
 split
 ·rw[h];grind
 ·rfl
theorem oF {B:Nat->Nat->Rat} {r j i k:Nat} (h1:r<i) (h2:j<=k):fa B r j i k=B i k-B i j/B r j*B r k:=if_pos ⟨h1,h2⟩
structure RB (R:Nat->Nat) (n w:Nat) (A:Nat->Nat->Rat):Prop where
 row:∀j,j<=n->rM R n w (elim n A j).A (elim n A j).r
 mono:∀k,R k<=R (k+1)
 xT:∀k,k+1<n->4*R k+1<=1048576
 O7:dR R n<=1048576
theorem RB.gR {R:Nat->Nat} {n w:Nat} {A:Nat->Nat->Rat} (h:RB R n w A) (hw:n<=w):∀j,j<=n->Bz (elim n A j).gR (dR R (elim n A j).r):=by
 intro j
 induction j with
 |zero=>exact fun _=>dv
 |succ j ih=>
  intro hj
  have h2:=ih qO
  have h1:=h.row j qO
  have hr:=dT (n:=n) (A:=A) j
  rw[dA]
  unfold Ak
  split
  ·exact cB.mono Hb
  ·rename_i hp
   obtain⟨p1,p2,_,_⟩:=dI (A:=(elim n A j).A) (j:=j) hr
   have h3:=h1.Mt p1 qO
   have h4:=h3 (elim n A j).r j qO qO
   rw[Nat.min_self]at h4
   have h5:Bz (if pv (elim n A j).A j n (elim n A j).r=(elim n A j).r then(elim n A j).gR else-(elim n A j).gR) (dR R (elim n A j).r):=by
    split
    ·exact h2
    ·exact h2.neg
   exact(h5.mul h4).mono (by simp only[dR];omega)
theorem NU {R:Nat->Nat} {n w:Nat} {A:Nat->Nat->Rat} (m:Nat) (hm:∀k,R k<=R (k+1)) (h4:∀k,m<=k->4*R k+1<=R (k+1)) (hw:n<=w)
  (h0:∀j,j<=m->j<=n->rM R n w (elim n A j).A (elim n A j).r) (hrm:m<=n->(elim n A m).r=m):∀j,j<=n->rM R n w (elim n A j).A (elim n A j).r/\(m<=j->m<=(elim n A j).r):=by
 intro j
 induction j with
 |zero=>intro hj;exact⟨h0 0 (Nat.zero_le _) hj,fun e=>qO⟩
 |succ j ih=>
  intro hj
  by_cases hjm:j+1<=m
  ·refine⟨h0 _ hjm hj,fun e=>?_⟩
   have e:m=j+1:=qO
   rw[<-e,hrm qO];exact Nat.le_refl _
  obtain⟨h1,h2⟩:=ih qO
  have h2:=h2 qO
  have hr:=dT (n:=n) (A:=A) j
  rw[dA]
  unfold Ak
  split
  ·exact⟨h1,fun _=>h2⟩
  ·rename_i hp
   obtain⟨p1,p2,_,_⟩:=dI (A:=(elim n A j).A) (j:=j) hr
   have h3:=h1.Mt p1 qO
   exact⟨h3.red (h4 _ h2) hm qO,fun _=>Nat.le_succ_of_le h2⟩
theorem wS {b:Nat} (k:Nat):bb b k<=bb b (k+1):=by simp only[bb];omega
theorem RB.P7 {n w b:Nat} {A:Nat->Nat->Rat} (hA:∀i k,i<n->k<w->Bz (A i k) b) (hw:n<=w) (hb:dR (bb b) n<=1048576):RB (bb b) n w A where
 row:=fun j hj=>(NU 0 wS (fun k _=>Nat.le_refl _) hw (fun j h0 _=>by
  rw[Nat.le_zero.1 h0]
  intro i k hi hk;show Bz (A i k) (bb b (min i 0));rw[Nat.min_zero];exact hA i k hi hk) (fun _=>rfl) j hj).1
 mono:=wS
 xT:=fun k hk=>by have:=Pn (R:=bb b) hk;simp only[bb]at this;omega
 O7:=hb
end
theorem uJ {m m':Bool} {n w:Nat} {A B:Nat->Nat->Rat} (h:∀i k,i<n->k<w->A i k=B i k):cn m m' n w A=cn m m' n w B:=
 congrArg (PV.sl m 1) (aU fun i hi=>by rw[d8 fun k hk=>h i k hi hk])
theorem Ke {s:Nat->Nat} {i p r:Nat} (g3:∀p q,p<i->q<i->s p=s q->p=q) (hp:p<i) (hr:r<i):
  ∀q t,q<i->t<i->a8 (a8 s (p+0) (s (r+0))) (r+0) (s (p+0)) q=a8 (a8 s (p+0) (s (r+0))) (r+0) (s (p+0)) t->q=t:=by
 intro q t hq ht e
 simp only[Nat.add_zero,a8]at e
 by_cases a1:q=r<;>by_cases a2:t=r
 ·omega
 ·rw[if_pos a1,if_neg a2]at e
  by_cases a3:t=p
  ·rw[if_pos a3]at e;have:=g3 _ _ hp hr e;omega
  ·rw[if_neg a3]at e;have:=g3 _ _ hp ht e;omega
 ·rw[if_neg a1,if_pos a2]at e
  by_cases a3:q=p
  ·rw[if_pos a3]at e;have:=g3 _ _ hr hp e;omega
  ·rw[if_neg a3]at e;have:=g3 _ _ hq hp e;omega
 ·rw[if_neg a1,if_neg a2]at e
  by_cases a3:q=p<;>by_cases a4:t=p
  ·omega
  ·rw[if_pos a3,if_neg a4]at e;have:=g3 _ _ hr ht e;omega
  ·rw[if_neg a3,if_pos a4]at e;have:=g3 _ _ hq hr e;omega
  ·rw[if_neg a3,if_neg a4]at e;exact g3 _ _ hq ht e
theorem LM {S:Nat->Nat} {G B:Nat->Nat->Rat} {i w r j:Nat} (h:∀t k,t<i->k<w->G (S t) k=B t k):∀t k,t<i->k<w->G (S t) k=if t<r+1 then fa B r j t k else B t k:=by
 intro t k ht hk
 rw[h t k ht hk]
 split
 ·exact(fe (.inl qO)).symm
 ·rfl
theorem LW {S:Nat->Nat} {G1 B:Nat->Nat->Rat} {i w q r j:Nat} (h:∀k,k<w->G1 (S q) k=B q k):∀t c,t<i->c<w->G1 (S t) c=if t=q then(if c<j then fa B r j q c else B q c)else G1 (S t) c:=by
 intro t c ht hc
 by_cases e:t=q
 ·rw[if_pos e,e,h c hc]
  split
  ·exact(fe (.inr (by assumption))).symm
  ·rfl
 ·rw[if_neg e]
theorem mX {S:Nat->Nat} {G2 G1:Nat->Nat->Rat} {f g:Nat->Rat} {i w q k:Nat} {v:Rat} (inj:∀p q,p<i->q<i->S p=S q->p=q) (hq:q<i) (hk:k<w)
  (h:∀t c,t<i->c<w->G2 (S t) c=if t=q then(if c<k then f c else g c)else G1 (S t) c) (hv:v=f k):
  ∀t c,t<i->c<w->a8 G2 (S (q+0)) (a8 (G2 (S (q+0))) (k+0) v) (S t) c=if t=q then(if c<k+1 then f c else g c)else G1 (S t) c:=by
 intro t c ht hc
 rw[Nat.add_zero,Nat.add_zero]
 by_cases e:t=q
 ·subst e
  rw[ah,if_pos rfl]
  by_cases ec:c=k
  ·subst ec;rw[ah,if_pos qO,hv]
  ·rw[aj _ _ ec,h t c ht hc,if_pos rfl]
   by_cases e2:c<k
   ·rw[if_pos e2,if_pos qO]
   ·rw[if_neg e2,if_neg qO]
 ·rw[aj _ _ (fun e'=>e (inj t q ht hq e')),h t c ht hc,if_neg e,if_neg e]
set_option maxHeartbeats 4000000 in
theorem oW (m m':Bool) (n w:Nat) (A0:Nat->Nat->Rat) {R:Nat->Nat} (hRB:RB R n w A0) (hw:n<=w) (hn:w<=1000):
  ae Tryz.prog 37 [cn m m' n w A0,.int .i64 n] (.bK [.p (cn false false n w (elim n A0 n).A),.p (aB (elim n A0 n).gR),.p (.int .i64 (elim n A0 n).r)]) []:=by
 refine aW Tryz.func37 ?_
 refine aJ.yu Nat (fun i=>([(0,.p (cn m m' n w A0)),(1,.p (.int .i64 n)),(5,.aC 0 0),(7,.vec 1 1 0 i),(8,.p (.int .i64 i))],[.box 31 [.p (.bool false),.p (.sl false 1 []),.p (.sl false 1 [])],.rows 24 (cO 2 w i id),.bu 31 3 (c9 i w A0)]))
  (fun i=>i<=n) (fun i=>n-i) 0 [0,1,2] _ _ (.rows 7 24 rfl (.bu 31 3 (.done _ _))) (Nat.zero_le _) (aY ⟨rfl,rfl,rfl,aN fun i hi=>absurd hi (Nat.not_lt_zero _),trivial⟩) ?_
 intro i (hi:i<=n)
 refine SZ.mk (n:Int) qS ?_
 by_cases hin:i<n
 ·refine bo ?_
  refine aF.mf i rfl hin ?_
  refine cG.mk (by simp[aH];omega) (by simp[aH];omega) ?_
  refine iq.mk qS ?_
  refine cG.mk (by simp;omega) (by simp;omega) ?_
  refine rR.mk _ rfl ?_
  refine pa.mk (i+1) qS ?_
  refine a5 (i+1) ?_
  refine⟨i+1,[0,5,4002],hin,cA,aY ⟨rfl,congrArg _ ((gb (p':=2) (q:=3) (c:=w) (k:=i) rfl qD (by simp[aD])).trans (by simp[aH])),⟨_,_,_,_,rfl,rfl,congrArg _ eW⟩,aN fun i hi=>by simpa[aD]using hi,trivial⟩⟩
 ·refine bd ?_
  obtain rfl:i=n:=qO
  refine aa.pure (eO 1 qD) ?_
  have one_eq:((1:Int):Rat)=1:=rfl
  rw[one_eq]
  refine aJ.mk (Nat×(Nat->Nat)×(Nat->Nat->Rat)×Pr) (fun(j,s,G,E)=>([(0,.p (cn m m' i w A0)),(1,.p (.int .i64 i)),(5,.aC 0 0),(7,.vec 1 1 0 i),(9,.aC 3 0),(10,.p (.int .i64 E.r)),(11,.p (.int .i64 j))],
    [.box 31 [.p (.bool false),.p (.sl false 1 []),.p (.sl false 1 [])],.rows 24 (cO 2 w i s),.bu 31 3 (c9 i w G),.box 31 (lr E.gR)]))
   (fun(j,s,G,E)=>j<=i/\E=elim i A0 j/\(∀q,q<i->s q<i)/\(∀p q,p<i->q<i->s p=s q->p=q)/\(∀p k,p<i->k<w->G (s p) k=E.A p k))
   (fun x=>i-x.1) (0,id,A0,⟨A0,1,0⟩) [0,1,2,3] ⟨Nat.zero_le _,rfl,fun q hq=>hq,fun p q _ _ e=>e,fun p k _ _=>rfl⟩
   (aY ⟨rfl,congrArg _ (aS 2 rfl qD),rfl,rfl,aN fun i hi=>by simpa[aD]using hi,trivial⟩) ?_
  intro⟨j,s,G,E⟩ ⟨g1,g0,g2,g3,g4⟩
  have g5:=hRB.row j g1
  have g6:=hRB.gR hw j g1
  rw[<-g0]at g5 g6
  have r6:dR R E.r<=dR R i:=mV (by rw[g0];exact dT j)
  have r7:=hRB.O7
  have hrj:=wx (n:=i) (A:=A0) j
  have hrn:=dT (n:=i) (A:=A0) j
  rw[<-g0]at hrj hrn
  have hE1:elim i A0 (j+1)=Ak i j E:=by rw[dA,g0]
  by_cases hji:j<i
  ·refine bo ?_
   refine aJ.mk Nat (fun p=>([(0,.p (cn m m' i w A0)),(1,.p (.int .i64 i)),(5,.aC 0 0),(7,.vec 1 1 0 i),(9,.aC 3 0),(10,.p (.int .i64 E.r)),(11,.p (.int .i64 j)),(12,.p (.int .i64 p))],
     [.box 31 [.p (.bool false),.p (.sl false 1 []),.p (.sl false 1 [])],.rows 24 (cO 2 w i s),.bu 31 3 (c9 i w G),.box 31 (lr E.gR)]))
    (fun p=>E.r<=p/\p<=i/\∀q,E.r<=q->q<p->E.A q j=0) (fun p=>i-p) E.r [0,1,2,3] ⟨Nat.le_refl _,hrn,fun q h1 h2=>absurd h2 qO⟩
    (aY ⟨rfl,congrArg _ (aS 2 rfl qD),rfl,rfl,aN fun q hq=>by simpa[aD]using g2 q hq,trivial⟩) ?_
   intro p ⟨h1,h2,h3⟩
   refine SZ.mk (i:Int) rfl ?_
   have found:(p=i\/E.A p j≠0)->pv E.A j i E.r=p:=fun h=>vJ h1 h2 h3 h
   by_cases hp:p<i
   ·refine bo ?_
    refine aK.mk p rfl hp ?_
    refine bJ.cO (p+0) rfl qO ?_
    refine aK.mk j rfl qO ?_
    refine eH.c9 (g2 _ qO) ?_
    refine aF.rv (j+0) (E.A p j) rfl qO (g4 p j hp qO) ?_
    refine aa.pure (il (E.A p j)) ?_
    by_cases hz:E.A p j=0
    ·rw[decide_eq_true hz]
     refine gv ?_
     refine a5 (p+1) ?_
     refine⟨p+1,[0,1,2,3],⟨qO,hp,fun q q1 q2=>?_⟩,cA,aY ⟨rfl,congrArg _ (aS 2 rfl qD),rfl,rfl,aN fun q hq=>by simpa[aD]using g2 q hq,trivial⟩⟩
     by_cases e:q=p
     ·rw[e];exact hz
     ·exact h3 q q1 qO
    ·rw[decide_eq_false hz]
     refine fI ?_
     refine SZ.mk (i:Int) rfl ?_
     refine bd ?_
     have hpv:=found (.inr hz)
     obtain⟨B,hB⟩:∃B,B=bO E.A p E.r:=⟨_,rfl⟩
     have hBr:B E.r=E.A p:=by rw[hB];exact iU
     have hBb:rM R i w B E.r:=by rw[hB];exact g5.Mt h1 hp
     have hB0:B E.r j≠0:=by rw[hBr];exact hz
     have bBr:Bz (B E.r j) (R E.r):=by have:=hBb E.r j qO qO;rw[Nat.min_self]at this;exact this
     have rlim:dR R E.r+R E.r<=1048576:=Nat.le_trans (mV (R:=R) (show E.r+1<=i by omega)) r7
     have hE2:elim i A0 (j+1)=⟨fa B E.r j,(if p=E.r then E.gR else-E.gR)*B E.r j,E.r+1⟩:=by
      rw[hE1];unfold Ak;rw[hpv,if_neg qO,<-hB]
     by_cases hpr:p=E.r
     ·refine ao.no (uQ (by rw[hpr])) ?_
      rw[if_pos hpr]at hE2
      have rD:Bz E.gR (dR R E.r):=g6
      have r2:=g2
      have r3:=g3
      have r4:∀q k,q<i->k<w->G (s q) k=B q k:=fun q k h1 h2=>by rw[hB,hpr,nj];exact g4 q k h1 h2
      refine cS ?_
      repeat refine aq ?_
      refine ag (aK.mk E.r rfl qO af) ?_
      refine ag (bJ.cO (E.r+0) rfl qO af) ?_
      repeat refine aq ?_
      refine ag (aK.mk j rfl qO af) ?_
      refine ag (eH.c9 (r2 _ qO)<|aF.rv (j+0) (B E.r j) rfl qO (r4 E.r j qO qO) af) ?_
      refine ag (aa.pure (iI (E.gR) (B E.r j) rD bBr rlim) af) ?_
      repeat refine aq ?_
      refine cX ?_
      refine a5 (E.r+1) ?_
      refine aJ.mk (Nat×(Nat->Nat->Rat)) (fun(q,G)=>([(0,.p (cn m m' i w A0)),(1,.p (.int .i64 i)),(5,.aC 0 0),(7,.vec 1 1 0 i),(9,.aC 3 0),(10,.p (.int .i64 E.r)),(11,.p (.int .i64 j)),(13,.p (.int .i64 q))],
        [.box 31 [.p (.bool false),.p (.sl false 1 []),.p (.sl false 1 [])],.rows 24 (cO 2 w i (s)),.bu 31 3 (c9 i w G),.box 31 (lr ((E.gR)*B E.r j))]))
       (fun(q,G)=>E.r<q/\q<=i/\∀t k,t<i->k<w->G ((s) t) k=if t<q then fa B E.r j t k else B t k) (fun x=>i-x.1) (E.r+1,G) [0,1,2,3] ⟨qO,qO,LM r4⟩
       (aY ⟨rfl,congrArg _ (aS 2 rfl qD),rfl,rfl,aN fun q hq=>by simpa[aD]using r2 q hq,trivial⟩) ?_
      intro⟨q,G1⟩ ⟨q1,q2,q3⟩
      refine SZ.mk (i:Int) rfl ?_
      by_cases hqi:q<i
      ·refine bo ?_
       have cq:∀k,k<w->G1 ((s) q) k=B q k:=fun k hk=>by rw[q3 q k hqi hk,if_neg qO]
       have cr:∀k,k<w->G1 ((s) E.r) k=B E.r k:=fun k hk=>by rw[q3 E.r k qO hk,if_pos qO,fe (.inl (Nat.le_refl _))]
       refine aK.mk q rfl hqi ?_
       refine bJ.cO (q+0) rfl qO ?_
       refine aK.mk j rfl qO ?_
       refine eH.c9 (r2 _ qO) ?_
       refine aF.rv (j+0) (B q j) rfl qO (cq j qO) ?_
       refine aa.pure (il (B q j)) ?_
       by_cases hz0:B q j=0
       ·rw[decide_eq_true hz0]
        refine gv ?_
        refine a5 (q+1) ?_
        refine⟨(q+1,G1),[0,1,2,3],⟨qO,hqi,fun t k ht hk=>?_⟩,cA,aY ⟨rfl,congrArg _ (aS 2 rfl qD),rfl,rfl,aN fun q hq=>by simpa[aD]using r2 q hq,trivial⟩⟩
        rw[q3 t k ht hk]
        by_cases e:t=q
        ·rw[e,if_neg qO,if_pos qO,qa hz0]
        ·by_cases e2:t<q
         ·rw[if_pos e2,if_pos qO]
         ·rw[if_neg e2,if_neg qO]
       ·rw[decide_eq_false hz0]
        refine fI ?_
        have bq:∀k,k<w->Bz (B q k) (R E.r):=fun k hk=>by have:=hBb q k hqi hk;rw[Nat.min_eq_right qO]at this;exact this
        have br:∀k,k<w->Bz (B E.r k) (R E.r):=fun k hk=>by have:=hBb E.r k qO hk;rw[Nat.min_self]at this;exact this
        have lim4:4*R E.r+1<=1048576:=hRB.xT E.r qO
        refine cS ?_
        repeat refine aq ?_
        refine ag (aK.mk q rfl hqi af) ?_
        refine ag (bJ.cO (q+0) rfl qO af) ?_
        repeat refine aq ?_
        refine ag (aK.mk j rfl qO af) ?_
        refine ag (eH.c9 (r2 _ qO)<|aF.rv (j+0) (B q j) rfl qO (cq j qO) af) ?_
        repeat refine aq ?_
        refine ag (aK.mk E.r rfl qO af) ?_
        refine ag (bJ.cO (E.r+0) rfl qO af) ?_
        repeat refine aq ?_
        refine ag (aK.mk j rfl qO af) ?_
        refine ag (eH.c9 (r2 _ qO)<|aF.rv (j+0) (B E.r j) rfl qO (cr j qO) af) ?_
        refine ag (aa.pure (oQ (B q j) (B E.r j) hB0 (bq j qO) (br j qO) qO) af) ?_
        repeat refine aq ?_
        refine cX ?_
        refine aJ.mk (Nat×(Nat->Nat->Rat)) (fun(k,G)=>([(0,.p (cn m m' i w A0)),(1,.p (.int .i64 i)),(5,.aC 0 0),(7,.vec 1 1 0 i),(9,.aC 3 0),(10,.p (.int .i64 E.r)),(11,.p (.int .i64 j)),(13,.p (.int .i64 q)),(14,.aC 4 0),(15,.p (.int .i64 k))],
          [.box 31 [.p (.bool false),.p (.sl false 1 []),.p (.sl false 1 [])],.rows 24 (cO 2 w i (s)),.bu 31 3 (c9 i w G),.box 31 (lr ((E.gR)*B E.r j)),.box 31 (lr (B q j/B E.r j))]))
         (fun(k,G)=>j<=k/\k<=w/\∀t c,t<i->c<w->G ((s) t) c=if t=q then(if c<k then fa B E.r j q c else B q c)else G1 ((s) t) c) (fun x=>w-x.1) (j,G1) [0,1,2,3,4]
         ⟨Nat.le_refl _,qO,LW cq⟩
         (aY ⟨rfl,congrArg _ (aS 2 rfl qD),rfl,rfl,rfl,aN fun q hq=>by simpa[aD]using r2 q hq,trivial⟩) ?_
        intro⟨k,G2⟩ ⟨k1,k2,k3⟩
        refine aK.mk q rfl hqi ?_
        refine bJ.cO (q+0) rfl qO ?_
        refine SZ.mk (w:Int) rfl ?_
        by_cases hkw:k<w
        ·refine bo ?_
         have dq:G2 ((s) q) k=B q k:=by rw[k3 q k hqi hkw,if_pos rfl,if_neg qO]
         have dr:G2 ((s) E.r) k=B E.r k:=by rw[k3 E.r k qO hkw,if_neg qO];exact cr k hkw
         have m1:=((bq j qO).div (br j qO)).mul (br k hkw)
         refine cS ?_
         repeat refine aq ?_
         refine ag (aK.mk q rfl hqi af) ?_
         refine ag (bJ.cO (q+0) rfl qO af) ?_
         repeat refine aq ?_
         refine ag (aK.mk q rfl hqi af) ?_
         refine ag (bJ.cO (q+0) rfl qO af) ?_
         repeat refine aq ?_
         refine ag (aK.mk k rfl hkw af) ?_
         refine ag (eH.c9 (r2 _ qO)<|aF.rv (k+0) (B q k) rfl qO dq af) ?_
         repeat refine aq ?_
         refine ag (aK.mk E.r rfl qO af) ?_
         refine ag (bJ.cO (E.r+0) rfl qO af) ?_
         repeat refine aq ?_
         refine ag (aK.mk k rfl hkw af) ?_
         refine ag (eH.c9 (r2 _ qO)<|aF.rv (k+0) (B E.r k) rfl qO dr af) ?_
         refine ag (aa.pure (iI _ _ ((bq j qO).div (br j qO)) (br k hkw) qO) af) ?_
         refine ag (aa.pure (pS _ _ (bq k hkw) m1 qO) af) ?_
         refine ag (aK.mk k rfl hkw af) ?_
         refine ag (eH.c9 (r2 _ qO)<|cm.rf (show k+0<w by omega)<|dp.rf af) ?_
         refine rE.c9 (r2 _ qO) ?_
         refine cX ?_
         refine a5 (k+1) ?_
         refine⟨(k+1,_),[0,1,2,3,4],⟨qO,hkw,?_⟩,cA,aY ⟨rfl,congrArg _ (aS 2 rfl qD),rfl,rfl,rfl,aN fun q hq=>by simpa[aD]using r2 q hq,trivial⟩ (ss:=⟨rfl,rfl,rfl,rfl,rfl,rfl,rfl,rfl,rfl,rfl,trivial⟩)⟩
         exact mX r3 hqi hkw k3 (oF q1 k1).symm
        ·refine bd ?_
         obtain rfl:k=w:=qO
         refine a5 (q+1) ?_
         refine⟨(q+1,G2),[0,1,2,3],⟨qO,hqi,fun t c ht hc=>?_⟩,cA,aY ⟨rfl,congrArg _ (aS 2 rfl qD),rfl,rfl,aN fun q hq=>by simpa[aD]using r2 q hq,trivial⟩⟩
         rw[k3 t c ht hc]
         by_cases e:t=q
         ·rw[if_pos e,if_pos hc,e,if_pos qO]
         ·rw[if_neg e,q3 t c ht hc]
          by_cases e2:t<q
          ·rw[if_pos e2,if_pos qO]
          ·rw[if_neg e2,if_neg qO]
      ·refine bd ?_
       obtain rfl:q=i:=qO
       refine a5 (E.r+1) ?_
       refine a5 (j+1) ?_
       refine⟨(j+1,(s),G1,⟨fa B E.r j,(E.gR)*B E.r j,E.r+1⟩),[0,1,2,3],⟨hji,hE2.symm,r2,r3,fun t c ht hc=>?_⟩,cA,aY ⟨rfl,congrArg _ (aS 2 rfl qD),rfl,rfl,aN fun q hq=>by simpa[aD]using r2 q hq,trivial⟩⟩
       rw[q3 t c ht hc,if_pos ht]
     ·refine ao.yes (BA qO) ?_
      rw[if_neg hpr]at hE2
      refine cS ?_
      repeat refine aq ?_
      refine ag (aK.mk E.r rfl qO af) ?_
      refine ag (bJ.cO (E.r+0) rfl qO af) ?_
      repeat refine aq ?_
      refine ag (aK.mk p rfl hp af) ?_
      refine ag (bJ.cO (p+0) rfl qO af) ?_
      refine ag (aK.mk p rfl hp af) ?_
      refine ag (cm.cO qO<|rR.cO af) ?_
      refine ag (aK.mk E.r rfl qO af) ?_
      refine ag (cm.cO qO<|rR.cO af) ?_
      refine cX ?_
      refine aa.pure (r9 E.gR (g6.nn qO) (g6.nd qO)) ?_
      have rD:Bz (-E.gR) (dR R E.r):=g6.neg
      have r2:∀q,q<i->a8 (a8 s (p+0) (s (E.r+0))) (E.r+0) (s (p+0)) q<i:=fun q hq=>by
       unfold a8
       split
       ·exact g2 _ qO
       ·split
        ·exact g2 _ qO
        ·exact g2 _ hq
      have r3:∀q t,q<i->t<i->a8 (a8 s (p+0) (s (E.r+0))) (E.r+0) (s (p+0)) q=a8 (a8 s (p+0) (s (E.r+0))) (E.r+0) (s (p+0)) t->q=t:=Ke g3 hp qO
      have r4:∀q k,q<i->k<w->G (a8 (a8 s (p+0) (s (E.r+0))) (E.r+0) (s (p+0)) q) k=B q k:=fun q k hq hk=>by
       rw[hB]
       unfold a8 bO
       by_cases e1:q=E.r
       ·subst e1
        rw[if_pos (Nat.add_zero _).symm,if_neg (Ne.symm hpr),if_pos rfl]
        exact g4 p k hp hk
       ·rw[if_neg qO]
        by_cases e2:q=p
        ·rw[if_pos qO,if_pos e2];exact g4 E.r k qO hk
        ·rw[if_neg qO,if_neg e2,if_neg e1];exact g4 q k hq hk
      refine cS ?_
      repeat refine aq ?_
      refine ag (aK.mk E.r rfl qO af) ?_
      refine ag (bJ.cO (E.r+0) rfl qO af) ?_
      repeat refine aq ?_
      refine ag (aK.mk j rfl qO af) ?_
      refine ag (eH.c9 (r2 _ qO)<|aF.rv (j+0) (B E.r j) rfl qO (r4 E.r j qO qO) af) ?_
      refine ag (aa.pure (iI ((-E.gR)) (B E.r j) rD bBr rlim) af) ?_
      repeat refine aq ?_
      refine cX ?_
      refine a5 (E.r+1) ?_
      refine aJ.mk (Nat×(Nat->Nat->Rat)) (fun(q,G)=>([(0,.p (cn m m' i w A0)),(1,.p (.int .i64 i)),(5,.aC 0 0),(7,.vec 1 1 0 i),(9,.aC 3 0),(10,.p (.int .i64 E.r)),(11,.p (.int .i64 j)),(13,.p (.int .i64 q))],
        [.box 31 [.p (.bool false),.p (.sl false 1 []),.p (.sl false 1 [])],.rows 24 (cO 2 w i (a8 (a8 s (p+0) (s (E.r+0))) (E.r+0) (s (p+0)))),.bu 31 3 (c9 i w G),.box 31 (lr (((-E.gR))*B E.r j))]))
       (fun(q,G)=>E.r<q/\q<=i/\∀t k,t<i->k<w->G ((a8 (a8 s (p+0) (s (E.r+0))) (E.r+0) (s (p+0))) t) k=if t<q then fa B E.r j t k else B t k) (fun x=>i-x.1) (E.r+1,G) [0,1,2,3] ⟨qO,qO,LM r4⟩
       (aY ⟨rfl,congrArg _ (aS 2 rfl qD),rfl,rfl,aN fun q hq=>by simpa[aD]using r2 q hq,trivial⟩) ?_
      intro⟨q,G1⟩ ⟨q1,q2,q3⟩
      refine SZ.mk (i:Int) rfl ?_
      by_cases hqi:q<i
      ·refine bo ?_
       have cq:∀k,k<w->G1 ((a8 (a8 s (p+0) (s (E.r+0))) (E.r+0) (s (p+0))) q) k=B q k:=fun k hk=>by rw[q3 q k hqi hk,if_neg qO]
       have cr:∀k,k<w->G1 ((a8 (a8 s (p+0) (s (E.r+0))) (E.r+0) (s (p+0))) E.r) k=B E.r k:=fun k hk=>by rw[q3 E.r k qO hk,if_pos qO,fe (.inl (Nat.le_refl _))]
       refine aK.mk q rfl hqi ?_
       refine bJ.cO (q+0) rfl qO ?_
       refine aK.mk j rfl qO ?_
       refine eH.c9 (r2 _ qO) ?_
       refine aF.rv (j+0) (B q j) rfl qO (cq j qO) ?_
       refine aa.pure (il (B q j)) ?_
       by_cases hz0:B q j=0
       ·rw[decide_eq_true hz0]
        refine gv ?_
        refine a5 (q+1) ?_
        refine⟨(q+1,G1),[0,1,2,3],⟨qO,hqi,fun t k ht hk=>?_⟩,cA,aY ⟨rfl,congrArg _ (aS 2 rfl qD),rfl,rfl,aN fun q hq=>by simpa[aD]using r2 q hq,trivial⟩⟩
        rw[q3 t k ht hk]
        by_cases e:t=q
        ·rw[e,if_neg qO,if_pos qO,qa hz0]
        ·by_cases e2:t<q
         ·rw[if_pos e2,if_pos qO]
         ·rw[if_neg e2,if_neg qO]
       ·rw[decide_eq_false hz0]
        refine fI ?_
        have bq:∀k,k<w->Bz (B q k) (R E.r):=fun k hk=>by have:=hBb q k hqi hk;rw[Nat.min_eq_right qO]at this;exact this
        have br:∀k,k<w->Bz (B E.r k) (R E.r):=fun k hk=>by have:=hBb E.r k qO hk;rw[Nat.min_self]at this;exact this
        have lim4:4*R E.r+1<=1048576:=hRB.xT E.r qO
        refine cS ?_
        repeat refine aq ?_
        refine ag (aK.mk q rfl hqi af) ?_
        refine ag (bJ.cO (q+0) rfl qO af) ?_
        repeat refine aq ?_
        refine ag (aK.mk j rfl qO af) ?_
        refine ag (eH.c9 (r2 _ qO)<|aF.rv (j+0) (B q j) rfl qO (cq j qO) af) ?_
        repeat refine aq ?_
        refine ag (aK.mk E.r rfl qO af) ?_
        refine ag (bJ.cO (E.r+0) rfl qO af) ?_
        repeat refine aq ?_
        refine ag (aK.mk j rfl qO af) ?_
        refine ag (eH.c9 (r2 _ qO)<|aF.rv (j+0) (B E.r j) rfl qO (cr j qO) af) ?_
        refine ag (aa.pure (oQ (B q j) (B E.r j) hB0 (bq j qO) (br j qO) qO) af) ?_
        repeat refine aq ?_
        refine cX ?_
        refine aJ.mk (Nat×(Nat->Nat->Rat)) (fun(k,G)=>([(0,.p (cn m m' i w A0)),(1,.p (.int .i64 i)),(5,.aC 0 0),(7,.vec 1 1 0 i),(9,.aC 3 0),(10,.p (.int .i64 E.r)),(11,.p (.int .i64 j)),(13,.p (.int .i64 q)),(14,.aC 4 0),(15,.p (.int .i64 k))],
          [.box 31 [.p (.bool false),.p (.sl false 1 []),.p (.sl false 1 [])],.rows 24 (cO 2 w i (a8 (a8 s (p+0) (s (E.r+0))) (E.r+0) (s (p+0)))),.bu 31 3 (c9 i w G),.box 31 (lr (((-E.gR))*B E.r j)),.box 31 (lr (B q j/B E.r j))]))
         (fun(k,G)=>j<=k/\k<=w/\∀t c,t<i->c<w->G ((a8 (a8 s (p+0) (s (E.r+0))) (E.r+0) (s (p+0))) t) c=if t=q then(if c<k then fa B E.r j q c else B q c)else G1 ((a8 (a8 s (p+0) (s (E.r+0))) (E.r+0) (s (p+0))) t) c) (fun x=>w-x.1) (j,G1) [0,1,2,3,4]
         ⟨Nat.le_refl _,qO,LW cq⟩
         (aY ⟨rfl,congrArg _ (aS 2 rfl qD),rfl,rfl,rfl,aN fun q hq=>by simpa[aD]using r2 q hq,trivial⟩) ?_
        intro⟨k,G2⟩ ⟨k1,k2,k3⟩
        refine aK.mk q rfl hqi ?_
        refine bJ.cO (q+0) rfl qO ?_
        refine SZ.mk (w:Int) rfl ?_
        by_cases hkw:k<w
        ·refine bo ?_
         have dq:G2 ((a8 (a8 s (p+0) (s (E.r+0))) (E.r+0) (s (p+0))) q) k=B q k:=by rw[k3 q k hqi hkw,if_pos rfl,if_neg qO]
         have dr:G2 ((a8 (a8 s (p+0) (s (E.r+0))) (E.r+0) (s (p+0))) E.r) k=B E.r k:=by rw[k3 E.r k qO hkw,if_neg qO];exact cr k hkw
         have m1:=((bq j qO).div (br j qO)).mul (br k hkw)
         refine cS ?_
         repeat refine aq ?_
         refine ag (aK.mk q rfl hqi af) ?_
         refine ag (bJ.cO (q+0) rfl qO af) ?_
         repeat refine aq ?_
         refine ag (aK.mk q rfl hqi af) ?_
         refine ag (bJ.cO (q+0) rfl qO af) ?_
         repeat refine aq ?_
         refine ag (aK.mk k rfl hkw af) ?_
         refine ag (eH.c9 (r2 _ qO)<|aF.rv (k+0) (B q k) rfl qO dq af) ?_
         repeat refine aq ?_
         refine ag (aK.mk E.r rfl qO af) ?_
         refine ag (bJ.cO (E.r+0) rfl qO af) ?_
         repeat refine aq ?_
         refine ag (aK.mk k rfl hkw af) ?_
         refine ag (eH.c9 (r2 _ qO)<|aF.rv (k+0) (B E.r k) rfl qO dr af) ?_
         refine ag (aa.pure (iI _ _ ((bq j qO).div (br j qO)) (br k hkw) qO) af) ?_
         refine ag (aa.pure (pS _ _ (bq k hkw) m1 qO) af) ?_
         refine ag (aK.mk k rfl hkw af) ?_
         refine ag (eH.c9 (r2 _ qO)<|cm.rf (show k+0<w by omega)<|dp.rf af) ?_
         refine rE.c9 (r2 _ qO) ?_
         refine cX ?_
         refine a5 (k+1) ?_
         refine⟨(k+1,_),[0,1,2,3,4],⟨qO,hkw,?_⟩,cA,aY ⟨rfl,congrArg _ (aS 2 rfl qD),rfl,rfl,rfl,aN fun q hq=>by simpa[aD]using r2 q hq,trivial⟩ (ss:=⟨rfl,rfl,rfl,rfl,rfl,rfl,rfl,rfl,rfl,rfl,trivial⟩)⟩
         exact mX r3 hqi hkw k3 (oF q1 k1).symm
        ·refine bd ?_
         obtain rfl:k=w:=qO
         refine a5 (q+1) ?_
         refine⟨(q+1,G2),[0,1,2,3],⟨qO,hqi,fun t c ht hc=>?_⟩,cA,aY ⟨rfl,congrArg _ (aS 2 rfl qD),rfl,rfl,aN fun q hq=>by simpa[aD]using r2 q hq,trivial⟩⟩
         rw[k3 t c ht hc]
         by_cases e:t=q
         ·rw[if_pos e,if_pos hc,e,if_pos qO]
         ·rw[if_neg e,q3 t c ht hc]
          by_cases e2:t<q
          ·rw[if_pos e2,if_pos qO]
          ·rw[if_neg e2,if_neg qO]
      ·refine bd ?_
       obtain rfl:q=i:=qO
       refine a5 (E.r+1) ?_
       refine a5 (j+1) ?_
       refine⟨(j+1,(a8 (a8 s (p+0) (s (E.r+0))) (E.r+0) (s (p+0))),G1,⟨fa B E.r j,((-E.gR))*B E.r j,E.r+1⟩),[0,1,2,3],⟨hji,hE2.symm,r2,r3,fun t c ht hc=>?_⟩,cA,aY ⟨rfl,congrArg _ (aS 2 rfl qD),rfl,rfl,aN fun q hq=>by simpa[aD]using r2 q hq,trivial⟩⟩
       rw[q3 t c ht hc,if_pos ht]
   ·refine bd ?_
    obtain rfl:p=i:=qO
    have hpv:=found (.inl rfl)
    have hE2:elim p A0 (j+1)=⟨E.A,0,E.r⟩:=by rw[hE1];unfold Ak;rw[hpv,if_pos (Nat.le_refl _)]
    refine SZ.mk (p:Int) rfl ?_
    refine bo ?_
    refine aa.pure (js) ?_
    refine a5 (j+1) ?_
    exact⟨(j+1,s,G,⟨E.A,0,E.r⟩),[0,1,2,3],⟨hji,hE2.symm,g2,g3,g4⟩,cA,aY ⟨rfl,congrArg _ (aS 2 rfl qD),rfl,rfl,aN fun q hq=>by simpa[aD]using g2 q hq,trivial⟩⟩
  ·refine bd ?_
   obtain rfl:j=i:=qO
   rw[<-g0]
   refine cS ?_
   repeat refine aq ?_
   refine cX ?_
   have e:cn false false j w E.A=cn false false j w fun q=>G (s q):=uJ fun q k hq hk=>(g4 q k hq hk).symm
   rw[e]
   refine ab.pure (.bK rfl fun a c d e1 e2=>?_)
   match a,e1,e2 with
   |0,e1,e2=>cases e1;cases e2;exact yR (h:=1) (p:=2) rfl rfl g2
   |1,e1,e2=>cases e1;cases e2;exact .p _ (aG _ _ _)
   |2,e1,e2=>cases e1;cases e2;exact .p _ (.int _ _)
def sb (a x:Nat->Rat) (s0:Rat) (from':Nat):Nat->Rat
 |0=>s0
 |d+1=>sb a x s0 from' d-a (from'+d)*x (from'+d)
def bk (A:Nat->Nat->Rat) (n:Nat):Nat->Nat->Rat
 |0=>fun _=>0
 |t+1=>a8 (bk A n t) (n-1-t) (sb (A (n-1-t)) (bk A n t) (A (n-1-t) n) (n-t) t/A (n-1-t) (n-1-t))
theorem LB {A:Nat->Nat->Rat} {n t k:Nat} (h:n<=k+t) (ht:t<n):bk A n (t+1) k=bk A n t k:=by
 simp only[bk];exact aj _ _ qO
def eE (n:Nat) (A:Nat->Nat->Rat) (y:Nat->Rat):Nat->Nat->Rat:=fun i k=>if k<n then A i k else y i
theorem CO (n:Nat) (A:Nat->Nat->Rat) (y:Nat->Rat) (i:Nat):a7 (aH n (A i))++[aB (y i)]=a7 (aH (n+1) (eE n A y i)):=by
 rw[<-jR n (eE n A y i) (y i) (by unfold eE;rw[if_neg (Nat.lt_irrefl n)])]
 rw[d8 (g:=eE n A y i) (h:=A i) fun k hk=>by unfold eE;rw[if_pos hk]]
theorem aF.fl {n:Nat} {f:Nat->PV} {i:Int} {K:Nat->PV->Prop} (j:Nat) (v:PV) (hi:i=j) (hj:j<n) (hv:f j=v) (hk:K j v):aF (fl n f) i K:=by
 subst hv;exact .mk j _ hi (dM hj) hk
theorem bQ {α:Type} (n:Nat) (z:α):List.replicate n z=fl n fun _=>z:=by
 apply List.ext_getElem qS
 intro i h1 h2
 simp[Go.Proofs.YtiakeknbdclaoaaGreat.fl]
abbrev half (p c n k:Nat):List AV:=fl n fun i=>if i<k then .vec (.r p i) 3 0 c else .emp
abbrev qJ (p c n k q:Nat):List AV:=fl n fun i=>if i<k then .vec (.r p i) 3 0 c else if i=k then .vec (.t q) 3 0 c else .emp
theorem kq {p c n:Nat}:half p c n n=cO p c n id:=aU fun i hi=>if_pos hi
theorem tI {p c n k q:Nat}:(half p c n k).set k (.vec (.t q) 3 0 c)=qJ p c n k q:=by
 rw[gF]
 refine aU fun i _=>?_
 unfold a8
 by_cases e:i=k
 ·rw[if_pos e,if_neg qO,if_pos e]
 ·rw[if_neg e]
  show(if i<k then AV.vec (.r p i) 3 0 c else .emp)=_
  by_cases e2:i<k
  ·rw[if_pos e2,if_pos e2]
  ·rw[if_neg e2,if_neg e2,if_neg e]
theorem kc {p c n k q:Nat} (h:k<n):(qJ p c n k q)[k]?=some (.vec (.t q) 3 0 c):=by
 rw[dM h,if_neg (Nat.lt_irrefl k),if_pos rfl]
theorem kf {hs:List Nat} {P:Hp} {p c n k q:Nat} (p' q':Nat) (hp:hs.getD p 0=p') (hp':p'<1000) (hq:hs.getD q 0=q') (hq':q'<1000):AV.de (dy hs P) (qJ p c n k q)=qJ p' c n k q':=by
 rw[fU]
 refine aU fun i hi=>?_
 have eb:Nat.blt p' 1000=true:=cD.2 hp'
 have ec:Nat.blt q' 1000=true:=cD.2 hq'
 by_cases e:i<k
 ·rw[if_pos e,if_pos e];simp only[AV.dm,dy,hp,eb,cond_true]
 ·rw[if_neg e,if_neg e]
  by_cases e2:i=k
  ·rw[if_pos e2,if_pos e2];simp only[AV.dm,dy,hq,ec,cond_true];rw[show vp q'=q' from Nat.mod_eq_of_lt hq']
  ·rw[if_neg e2,if_neg e2];simp only[AV.dm]
theorem iH {hs:List Nat} {P:Hp} {p p' q c n k:Nat} (hp:hs.getD p 0=p'+1000*(q+1)) (hp':p'<1000) (hl:aD P p=k+1):AV.de (dy hs P) (half p c n (k+1))=qJ p' c n k q:=by
 rw[fU]
 have eb:Nat.blt (hs.getD p 0) 1000=false:=by
  cases hb:Nat.blt (hs.getD p 0) 1000 with
  |false=>rfl
  |true=>have:=cD.1 hb;omega
 have e1:hs.getD p 0%1000=p':=qO
 have e2:hs.getD p 0/1000-1=q:=qO
 refine aU fun i hi=>?_
 by_cases h1:i<k
 ·have e4:Nat.blt (i+1) (k+1)=true:=cD.2 qO
  rw[if_pos qO,if_pos h1]
  simp only[AV.dm,dy,eb,hl,e4,cond_false,cond_true,e1]
 ·by_cases h2:i=k
  ·have e4:Nat.blt (i+1) (k+1)=false:=by
    cases hb:Nat.blt (i+1) (k+1)with
    |false=>rfl
    |true=>have:=cD.1 hb;omega
   rw[if_pos qO,if_neg h1,if_pos h2]
   simp only[AV.dm,dy,eb,hl,e4,cond_false,e2]
  ·rw[if_neg qO,if_neg h1,if_neg h2];simp only[AV.dm]
theorem fW {P:Hp} {p c n k:Nat} (h:∀i,i<k->i<aD P p):∀x∈half p c n k,∀h,x.aT h->look P h≠ .free:=by
 intro x hx g hg
 obtain⟨i,hi,rfl⟩:=dX hx
 by_cases e:i<k
 ·rw[if_pos e]at hg
  simp only[AV.aT]at hg
  subst hg
  exact kI (h i e)
 ·rw[if_neg e]at hg;exact hg.elim
theorem mZ {P:Hp} {p c n k q:Nat} (h:∀i,i<k->i<aD P p) (hq:look P (.t q)≠ .free):∀x∈qJ p c n k q,∀h,x.aT h->look P h≠ .free:=by
 intro x hx g hg
 obtain⟨i,hi,rfl⟩:=dX hx
 by_cases e:i<k
 ·rw[if_pos e]at hg
  simp only[AV.aT]at hg
  subst hg
  exact kI (h i e)
 ·rw[if_neg e]at hg
  by_cases e2:i=k
  ·rw[if_pos e2]at hg
   simp only[AV.aT]at hg
   subst hg;exact hq
  ·rw[if_neg e2]at hg;exact hg.elim
theorem ke {ρ:Hd->Hd} {p c n:Nat}:AV.de ρ (half p c n 0)=List.replicate n .emp:=by
 rw[fU,bQ]
 refine aU fun i _=>?_
 rw[if_neg (Nat.not_lt_zero i)];simp only[AV.dm]
theorem eQ {n j:Nat} {f:Nat->Rat} (h:j<n):(fl n fun k=>if k<j then aB (f k)else cU).set (j+0) (aB (f j))=fl n fun k=>if k<j+1 then aB (f k)else cU:=by
 rw[gF]
 refine aU fun k hk=>?_
 simp only[a8,Nat.add_zero]
 by_cases e:k=j
 ·rw[if_pos e,if_pos qO,e]
 ·rw[if_neg e]
  by_cases e2:k<j
  ·rw[if_pos e2,if_pos qO]
  ·rw[if_neg e2,if_neg qO]
theorem ks {n:Nat} {f:Nat->Rat}:a7 (aH n f)=fl n fun k=>if k<n then aB (f k)else cU:=by
 rw[a7,Cs,wO];exact aU fun k hk=>(if_pos hk).symm
theorem eI (m:Nat->Bool) (g:GV) {b c:Nat} (h:Wf g b c):ae Tryz.prog 12 [dP m g] (.p (cn false false g.n g.n (aQ g))) []:=by
 have h6:=h.n6
 have n1:=h.n1
 refine aW Tryz.func12 ?_
 refine aa.pure (jj m g h) ?_
 refine cJ ?_
 refine SZ.mk (g.n:Int) rfl ?_
 refine cm.mk qS ?_
 refine cy.mk g.n rfl (by simp;omega) qO ?_
 refine Ou.rows ?_
 refine SZ.mk (g.n:Int) rfl ?_
 refine aJ.yu Nat (fun i=>([(1,.aC 0 0),(3,.vec 1 1 0 g.n),(13,.p (.int .i64 g.n)),(14,.p (.int .i64 i))],[.box 26 (jF m g),.rows 24 (half 2 g.n g.n i),.bu 31 3 (c9 i g.n (aQ g))]))
  (fun i=>i<=g.n) (fun i=>g.n-i) 0 [0,1,2] _ _ (.bu 31 3 (.done _ _)) (Nat.zero_le _) (aY ⟨rfl,congrArg _ ke,rfl,fW fun i hi=>absurd hi (Nat.not_lt_zero _),trivial⟩) ?_
 intro i (hi:i<=g.n)
 by_cases hin:i<g.n
 ·refine bo ?_
  refine SZ.mk (g.n:Int) rfl ?_
  refine cm.mk qS ?_
  refine cy.rat g.n rfl qO ?_
  refine aK.mk i rfl hin ?_
  refine cm.mk (by simp;omega) ?_
  refine rR.mk (qJ 2 g.n g.n i 3) tI ?_
  refine aK.mk i rfl hin ?_
  refine bJ.mk i _ rfl (kc hin) ?_
  refine SZ.mk (g.n:Int) rfl ?_
  refine aJ.mk (Nat×(Nat->Rat)) (fun(j,F)=>([(1,.aC 0 0),(3,.vec 1 1 0 g.n),(4,.p (.int .i64 i)),(13,.p (.int .i64 g.n)),(14,.p (.int .i64 i)),(27,.p (.int .i64 g.n)),(28,.p (.int .i64 j))],[.box 26 (jF m g),.rows 24 (qJ 2 g.n g.n i 3),.bu 31 3 (c9 i g.n (aQ g)),.vec 31 3 (fl g.n fun k=>if k<j then aB (aQ g i k)else cU)]))
   (fun(j,F)=>j<=g.n) (fun x=>g.n-x.1) (0,aQ g i) [0,1,2,3] (Nat.zero_le _) (aY ⟨rfl,congrArg _ (kf 2 3 rfl qD rfl qD),rfl,congrArg _ ((aU fun k hk=>if_neg qO).trans (bQ g.n cU).symm),mZ (fun i hi=>by simpa[aD]using hi) (fun e=>by cases e),trivial⟩) ?_
  intro⟨j,F⟩ hj
  have hj:j<=g.n:=hj
  by_cases hjn:j<g.n
  ·refine bo ?_
   refine cS ?_
   repeat refine aq ?_
   refine ag (aK.mk i rfl hin af) ?_
   refine ag (bJ.mk i _ rfl (kc hin) af) ?_
   repeat refine aq ?_
   refine ag (aa.pure (wo m g h i j hin hjn) af) ?_
   refine ag (aK.mk j rfl hjn af) ?_
   refine ag (cm.mk (by simp;omega)<|dp.mk _ (eQ hjn) af) ?_
   repeat refine aq ?_
   refine cX ?_
   refine a5 (j+1) ?_
   exact⟨(j+1,F),[0,1,2,3],hjn,cA,aY ⟨rfl,congrArg _ (kf 2 3 rfl qD rfl qD),rfl,rfl,mZ (fun i hi=>by simpa[aD]using hi) (fun e=>by cases e),trivial⟩⟩
  ·refine bd ?_
   obtain rfl:j=g.n:=qO
   refine a5 (i+1) ?_
   exact⟨i+1,[0,1,4002],hin,cA,aY ⟨rfl,congrArg _ (iH rfl qD (by simp[aD])),⟨_,_,_,_,rfl,rfl,congrArg _ (eW.trans (congrArg (fun r=>c9 i g.n (aQ g)++[some r]) ks))⟩,fW fun i hi=>by simpa[aD]using hi,trivial⟩⟩
 ·refine bd ?_
  obtain rfl:i=g.n:=qO
  exact ab.pure (yR (H:=[_,_,_]) (h:=1) (p:=2) (congrArg (aA.rows _) kq) rfl fun i hi=>hi)
def uE (w:Nat) (A:Nat->Nat->Rat) (y:Nat->Rat) (i:Nat):Rat:=sm w fun k=>A i k*y k
theorem xx {w:Nat} {A:Nat->Nat->Rat} {y:Nat->Rat} {a b i:Nat} (hA:∀k,k<w->Bz (A i k) a) (hy:∀k,k<w->Bz (y k) b):∀k,k<=w->Bz (sm k fun k=>A i k*y k) (k*(a+b+1)+1):=by
 intro k
 induction k with
 |zero=>exact fun _=>cB.mono qO
 |succ k ih=>
  intro hk
  exact((ih qO).add ((hA k qO).mul (hy k qO))).mono (by rw[Nat.succ_mul];omega)
theorem Gu:ae Tryz.prog 137 [] (.p (aB 0)) []:=by
 refine aW Tryz.func137 ?_
 refine ab.pure ?_
 rw[e8]
 exact iY ⟨rfl,rfl,rfl⟩ (.p _ (.bool _)) (.p _ (.sl _ _ (fun e he=>by simp at he))) (ka rfl)
theorem p8 (m:Bool) (n:Nat) (f:Nat->Rat) {k:Nat} (hf:∀i,i<n->Bz (f i) k) (hk:k<=1048576) (hn:n<=1000000):ae Tryz.prog 101 [ar m (aH n f)] (.p (.bool true)) []:=by
 refine aW Tryz.func101 ?_
 refine SZ.mk (n:Int) (by simp[aH]) ?_
 refine aJ.mk Nat (fun i=>([(5,.p (ar m (aH n f))),(6,.p (.int .i64 n)),(7,.p (.int .i64 i))],[])) (fun i=>i<=n) (fun i=>n-i) 0 [] (Nat.zero_le _) aY ?_
 intro i (h1:i<=n)
 by_cases hi:i<n
 ·refine bo ?_
  refine aF.rf i rfl hi ?_
  refine aa.pure (gj (f i) (hf i hi).sz qO) ?_
  refine cJ ?_
  refine a5 (i+1) ?_
  exact⟨i+1,[],hi,cA,aY⟩
 ·refine bd ?_
  exact ab.pure (.tf _)
theorem tM (m m':Bool) (n:Nat) (A:Nat->Nat->Rat) {k:Nat} (hA:∀i j,i<n->j<n->Bz (A i j) k) (hk:k<=1048576) (h0:0<n) (hn:n<=1000000):ae Tryz.prog 100 [cn m m' n n A] (.p (.bool true)) []:=by
 refine aW Tryz.func100 ?_
 refine SZ.mk (n:Int) qS ?_
 refine SZ.mk (n:Int) qS ?_
 refine aJ.mk Nat (fun i=>([(3,.p (.int .i64 n)),(8,.p (cn m m' n n A)),(9,.p (.int .i64 n)),(10,.p (.int .i64 i))],[])) (fun i=>i<=n) (fun i=>n-i) 0 [] (Nat.zero_le _) aY ?_
 intro i (h1:i<=n)
 by_cases hi:i<n
 ·refine bo ?_
  refine aF.mf i rfl hi ?_
  refine SZ.mk (n:Int) (by simp[aH]) ?_
  refine ao.no qS ?_
  refine aa.pure (p8 m' n (A i) (fun j hj=>hA i j hi hj) hk hn) ?_
  refine cJ ?_
  refine a5 (i+1) ?_
  exact⟨i+1,[],hi,cA,aY⟩
 ·refine bd ?_
  refine bo ?_
  exact ab.pure (.tf _)
theorem Lb (m m':Bool) (n:Nat) (f g:Nat->Rat) {a b:Nat} (hf:∀k,k<n->Bz (f k) a) (hg:∀k,k<n->Bz (g k) b) (hb:n*(a+b+1)+1+(a+b)+1<=1048576) (hn:n<=1000000):ae Tryz.prog 102 [ar m (aH n f),ar m' (aH n g)] (.p (aB (sm n fun k=>f k*g k))) []:=by
 refine aW Tryz.func102 ?_
 refine aa.pure (Gu) ?_
 refine SZ.mk (n:Int) (by simp[aH]) ?_
 refine SZ.mk (n:Int) (by simp[aH]) ?_
 refine SZ.mk (n:Int) qS ?_
 refine aJ.mk (Nat×Rat) (fun(j,s)=>([(0,.p (ar m (aH n f))),(1,.p (ar m' (aH n g))),(4,.aC 0 0),(5,.aC 1 0),(12,.p (.int .i64 n)),(13,.p (.int .i64 j))],[.box 31 [.p (.bool false),.p (.sl false 1 []),.p (.sl false 1 [])],.box 31 (lr s)]))
  (fun(j,s)=>j<=n/\s=sm j fun k=>f k*g k) (fun x=>n-x.1) (0,0) [0,1] ⟨Nat.zero_le _,rfl⟩ aY ?_
 intro⟨j,s⟩ ⟨hj,hs⟩
 have zs:Bz s (j*(a+b+1)+1):=by rw[hs];exact xx (A:=fun _=>f) (i:=0) hf hg j hj
 have hjw:j*(a+b+1)<=n*(a+b+1):=Nat.mul_le_mul_right _ hj
 by_cases hjn:j<n
 ·refine bo ?_
  have z1:=(hf j hjn).mul (hg j hjn)
  refine cS ?_
  repeat refine aq ?_
  refine ag (aF.rf j rfl hjn af) ?_
  repeat refine aq ?_
  refine ag (aF.rf j rfl hjn af) ?_
  repeat refine aq ?_
  refine ag (aa.pure (cE _ _ (hf j hjn).sz (hg j hjn).sz qO) af) ?_
  refine ag (aa.pure (eh _ _ zs.sz z1.sz qO) af) ?_
  repeat refine aq ?_
  refine cX ?_
  refine a5 (j+1) ?_
  exact⟨(j+1,_),[0,1],⟨hjn,by rw[hs];rfl⟩,cA,aY ⟨rfl,rfl,trivial⟩ (ss:=⟨rfl,rfl,rfl,rfl,rfl,rfl,trivial⟩)⟩
 ·refine bd ?_
  obtain rfl:j=n:=qO
  subst hs
  exact ab.pure (.p _ (aG _ _ _))
theorem Ey (m m' m'':Bool) (n:Nat) (A:Nat->Nat->Rat) (y:Nat->Rat) {a b:Nat} (hA:∀i k,i<n->k<n->Bz (A i k) a) (hy:∀k,k<n->Bz (y k) b) (h0:0<n) (hn:n<=1000) (hb:n*(a+b+1)+1+(a+b)+1<=1048576):
  ae Tryz.prog 42 [cn m m' n n A,ar m'' (aH n y)] (.vec 0 3 0 n) [.vec 31 3 (a7 (aH n (uE n A y)))]:=by
 refine aW Tryz.func42 ?_
 refine aa.pure (tM m m' n A hA qO h0 qO) ?_
 refine cJ ?_
 refine SZ.mk (n:Int) (by simp[aH]) ?_
 refine SZ.mk (n:Int) qS ?_
 refine ao.no qS ?_
 refine aa.pure (p8 m'' n y hy qO qO) ?_
 refine cJ ?_
 refine SZ.mk (n:Int) qS ?_
 refine SZ.mk (n:Int) rfl ?_
 refine cm.mk qS ?_
 refine cy.rat n rfl qO ?_
 refine SZ.mk (n:Int) qS ?_
 refine aJ.mk Nat (fun i=>([(1,.p (ar m'' (aH n y))),(5,.vec 0 3 0 n),(26,.p (cn m m' n n A)),(27,.p (.int .i64 n)),(28,.p (.int .i64 i))],[.vec 31 3 (fl n fun k=>if k<i then aB (uE n A y k)else cU)]))
  (fun i=>i<=n) (fun i=>n-i) 0 [0] (Nat.zero_le _) (aY ⟨congrArg _ ((aU fun k hk=>if_neg qO).trans (bQ n cU).symm),trivial⟩) ?_
 intro i (h1:i<=n)
 by_cases hi:i<n
 ·refine bo ?_
  refine aF.mf i rfl hi ?_
  refine aa.pure (Lb m' m'' n (A i) y (fun k hk=>hA i k hi hk) hy hb qO) ?_
  refine aK.mk i rfl hi ?_
  refine cm.mk (by simp;omega) ?_
  refine dp.mk _ (eQ (f:=uE n A y) hi) ?_
  refine a5 (i+1) ?_
  exact⟨i+1,[0],hi,cA,aY⟩
 ·refine bd ?_
  obtain rfl:i=n:=qO
  exact ab.new 0 rfl (by rw[ks];rfl) (au _)
abbrev cI (i k:Nat):PV:=.agg [.int .i64 (i:Int),.int .i64 (k:Int)]
abbrev ff (n:Nat) (f:Nat->Nat->Rat) (c:Nat):List (PV×PV):=fl c fun t=>(cI (t/n) (t%n),aB (f (t/n) (t%n)))
theorem dc (a b c d:Nat):PV.iZ (cI a b) (cI c d)=decide (a=c/\b=d):=by
 show(decide (IntKind.i64=IntKind.i64)&&(((a:Int)==(c:Int))&&(decide (IntKind.i64=IntKind.i64)&&(((b:Int)==(d:Int))&&true))))=_
 have hd:decide (IntKind.i64=IntKind.i64)=true:=rfl
 rw[hd,Bool.true_and,Bool.true_and,Bool.and_true]
 by_cases e1:a=c
 ·by_cases e2:b=d
  ·rw[decide_eq_true (show a=c/\b=d from⟨e1,e2⟩),e1,e2];simp
  ·rw[decide_eq_false (show ¬(a=c/\b=d)from fun h=>e2 h.2),beq_eq_false_iff_ne.2 (show(b:Int)≠d by omega),Bool.and_false]
 ·rw[decide_eq_false (show ¬(a=c/\b=d)from fun h=>e1 h.1),beq_eq_false_iff_ne.2 (show(a:Int)≠c by omega),Bool.false_and]
theorem sL {i k n:Nat} (hk:k<n):(i*n+k)/n=i:=by
 rw[Nat.add_comm,Nat.add_mul_div_right _ _ qO,Nat.div_eq_of_lt hk,Nat.zero_add]
theorem tW {i k n:Nat} (hk:k<n):(i*n+k)%n=k:=by
 rw[Nat.add_comm,Nat.add_mul_mod_self_right,Nat.mod_eq_of_lt hk]
theorem Dw {t n i k:Nat} (hk:k<n) (h1:t/n=i) (h2:t%n=k):t=i*n+k:=by
 rw[<-h1,<-h2]
 have:=Nat.div_add_mod t n
 rw[Nat.mul_comm];exact this.symm
theorem ph {n:Nat} {f:Nat->Nat->Rat} {c:Nat} {e:PV×PV} (h:e∈ff n f c):∃t,t<c/\e=(cI (t/n) (t%n),aB (f (t/n) (t%n))):=by
 obtain⟨t,ht,e⟩:=dX h
 exact⟨t,ht,e.symm⟩
theorem bn.nW {b:PV->Bool} {n:Nat} {f:Nat->Nat->Rat} {c:Nat} {K:Prop} (hb:∀i k:Nat,b (cI i k)=true) (hk:K):bn b (ff n f c) K:=
 .mk (fun e he=>by obtain⟨t,_,rfl⟩:=ph he;exact hb _ _) hk
theorem E4 {n i k:Nat} {f:Nat->Nat->Rat} (hk:k<n):ff n f (i*n+k+1)=ff n f (i*n+k)++[(cI i k,aB (f i k))]:=by
 rw[ff,oH,sL hk,tW hk]
theorem dZ.nW {n i k:Nat} {f:Nat->Nat->Rat} {v:PV} {K:List (PV×PV)->Prop} (hk:k<n) (hv:v=aB (f i k)) (hK:K (ff n f (i*n+k+1))):dZ (ff n f (i*n+k)) (cI i k) v K:=by
 subst hv
 refine .new _ (fun e he=>?_) (E4 hk).symm hK
 obtain⟨t,ht,rfl⟩:=ph he
 rw[dc]
 exact decide_eq_false fun⟨h1,h2⟩=>by have:=Dw hk h1.symm h2.symm;omega
theorem GO {i k m n:Nat} (hi:i<m) (hk:k<n):i*n+k<m*n:=by
 have:(i+1)*n<=m*n:=Nat.mul_le_mul_right _ hi
 rw[Nat.succ_mul]at this;omega
theorem eo.nW {n m i k:Nat} {f:Nat->Nat->Rat} {K:Option PV->Prop} (hi:i<m) (hk:k<n) (hK:K (some (aB (f i k)))):eo (ff n f (m*n)) (cI i k) K:=by
 refine .yes (i*n+k) (cI i k,aB (f i k)) ?_ ?_ (fun j e' hj hj'=>?_) hK
 ·rw[ff,dM (GO hi hk),sL hk,tW hk]
 ·rw[dc];exact decide_eq_true ⟨rfl,rfl⟩
 ·obtain⟨hjc,rfl⟩:=cu.1 hj'
  rw[dc]
  exact decide_eq_false fun⟨h1,h2⟩=>hj (Dw hk h1.symm h2.symm)
theorem dZ.No {n m i k:Nat} {f:Nat->Nat->Rat} {q:Rat} {K:List (PV×PV)->Prop} (hi:i<m) (hk:k<n) (hK:K (ff n (fun a b=>if a=i/\b=k then q else f a b) (m*n))):dZ (ff n f (m*n)) (cI i k) (aB q) K:=by
 refine .iN (i*n+k) (cI i k,aB (f i k)) _ ?_ ?_ (fun j e' hj hj'=>?_) ?_ hK
 ·rw[ff,dM (GO hi hk),sL hk,tW hk]
 ·rw[dc];exact decide_eq_true ⟨rfl,rfl⟩
 ·obtain⟨hjc,rfl⟩:=cu.1 hj'
  rw[dc]
  exact decide_eq_false fun⟨h1,h2⟩=>by have:=Dw hk h1.symm h2.symm;omega
 ·rw[ff,gF]
  refine aU fun t ht=>?_
  unfold a8
  by_cases e:t=i*n+k
  ·rw[if_pos e];subst e
   show _=(cI ((i*n+k)/n) ((i*n+k)%n),aB (if(i*n+k)/n=i/\(i*n+k)%n=k then q else _))
   rw[sL hk,tW hk,if_pos ⟨rfl,rfl⟩]
  ·rw[if_neg e]
   show _=(cI (t/n) (t%n),aB (if t/n=i/\t%n=k then q else _))
   rw[if_neg fun⟨h1,h2⟩=>e (Dw hk h1 h2)]
theorem qb (i k:Nat):ct (cI i k):=.agg _ fun x hx=>by
 simp only[List.mem_cons,List.not_mem_nil,or_false]at hx;rcases hx with rfl|rfl<;>exact .int _ _
theorem kj {n:Nat} {f:Nat->Nat->Rat} {c:Nat}:∀e∈ff n f c,ct e.1/\ct e.2:=fun e he=>by
 obtain⟨t,_,rfl⟩:=ph he
 exact⟨qb _ _,aG _ _ _⟩
def j6 (s:List Nat):Nat->Nat
 |0=>0
 |n+1=>j6 s n+if n∈s then 0 else 1
theorem ED {s:List Nat} {i:Nat}:∀n,j6 (s++[i]) n<=j6 s n:=by
 intro n
 induction n with
 |zero=>exact Nat.le_refl _
 |succ n ih=>
  simp only[j6]
  by_cases e:n∈s
  ·rw[if_pos e,if_pos (List.mem_append_left _ e)];omega
  ·rw[if_neg e];split<;>omega
theorem Fq {s:List Nat} {i:Nat} (hi:i∉s):∀{n},i<n->j6 (s++[i]) n<j6 s n:=by
 intro n
 induction n with
 |zero=>intro h;exact absurd h (Nat.not_lt_zero _)
 |succ n ih=>
  intro h
  simp only[j6]
  by_cases e:i=n
  ·subst e
   rw[if_neg hi,if_pos (List.mem_append_right _ (List.mem_singleton.2 rfl))]
   have:=ED (s:=s) (i:=i) i;omega
  ·have:=ih qO
   by_cases e2:n∈s
   ·rw[if_pos e2,if_pos (List.mem_append_left _ e2)];omega
   ·rw[if_neg e2,if_neg (fun h=>by rcases List.mem_append.1 h with h|h;exact e2 h;exact e (List.mem_singleton.1 h).symm)];omega
theorem aa.news {P:Program} {wr:Bool} {f:FuncId} {L:Hd->aA} {base:Nat} {K:AV->List (Hd×aA)->Prop} {pvs:List PV} {r:AV} {nb:List aA} (hc:ae P f pvs r nb) (hf:∀B∈nb,B≠ .free)
  (hk:K (r.dm (bz [] base)) (nb.zipIdx.map fun x=>(.t (fk [] base x.2),x.1.dm (bz [] base)))) {raw:List AV}:aa P wr f raw (pvs.map .p) L base K:=
 .mk [] (pvs.map .p) r [] nb (fun _=>rfl) .nil (fun _ h=>by simp at h) (by rw[AV.bP,List.map_map];exact List.map_congr_left fun _ _=>rfl) rfl (fun i h B e=>by simp at e) (fun _ h=>by simp at h) (fun _ h=>by simp at h) (Nat.zero_le _) hf
  (fun a ha k hk=>by obtain⟨v,_,rfl⟩:=List.mem_map.1 ha;simp only[AV.aT]at hk) hc hk
theorem aa.three {P:Program} {f:FuncId} {L:Hd->aA} {base:Nat} {K:AV->List (Hd×aA)->Prop} {args args':List AV} {r:AV} {B0 B1 B2 C0 C1 C2:aA} (h0 h1 h2:Nat) (hc:df P f args' [B0,B1,B2] r [C0,C1,C2])
  (hn:[h0,h1,h2].Nodup) (hb0:h0<base) (hb1:h1<base) (hb2:h2<base) (ha:AV.de (bz [h0,h1,h2] base) args'=args)
  (e0:L (.t h0)=(B0.dm (bz [h0,h1,h2] base)).top/\∀k,L (.r h0 k)=B0.row k) (e1:L (.t h1)=(B1.dm (bz [h0,h1,h2] base)).top/\∀k,L (.r h1 k)=B1.row k) (e2:L (.t h2)=(B2.dm (bz [h0,h1,h2] base)).top/\∀k,L (.r h2 k)=B2.row k)
  (hl:∀B∈[B0,B1,B2],B≠ .free/\B≠ .dead) (hm:∀B∈[B0,B1,B2],∀k,B.aT k->k.key<3) (hf:∀B∈[C0,C1,C2],B≠ .free) (hargs:∀a∈args',∀k,a.aT k->k.key<3)
  (hk:K (r.dm (bz [h0,h1,h2] base)) [(.t h0,C0.dm (bz [h0,h1,h2] base)),(.t h1,C1.dm (bz [h0,h1,h2] base)),(.t h2,C2.dm (bz [h0,h1,h2] base))]) {raw:List AV}:aa P true f raw args L base K:=
 .mk [h0,h1,h2] args' r [B0,B1,B2] [C0,C1,C2] (fun e=>by cases e) hn (fun h hh=>by simp at hh;rcases hh with rfl|rfl|rfl<;>assumption) ha rfl (fun i h B g1 g2=>by
  match i,g1,g2 with
  |0,g1,g2=>cases g1;cases g2;exact e0
  |1,g1,g2=>cases g1;cases g2;exact e1
  |2,g1,g2=>cases g1;cases g2;exact e2) hl hm (Nat.le_refl _) hf hargs hc hk
theorem ab.p9 {nin:Hp} {av:AV} {H:Hp} {r:AV} {Hout:Hp} (hl:Hout.length=nin.length) (hp:∀B∈nin,∀k,B.row k= .free) (hlv:∀i,i<nin.length->(H.getD i .free).top.live)
  (hb:∀(i:Nat) B,Hout[i]?=some B->jO (List.range nin.length) H (H.getD i .free) B) (hv:Conv (List.range nin.length) H av r):ab nin av H r Hout:=by
 have key:∀h:Hd,look nin h≠ .free->∃i,h= .t i/\i<nin.length:=fun h hh=>by
  have hk:=d7 hh
  cases h with
  |t i=>exact⟨i,rfl,hk⟩
  |r i k=>
   exfalso
   have hk:i<nin.length:=hk
   refine hh ?_
   simp only[look]
   have:nin.getD i .free=nin[i]:=by simp[List.getD,List.getElem?_eq_getElem hk]
   rw[this];exact hp _ (List.getElem_mem hk) k
 have lv:∀h:Hd,look nin h≠ .free->(look H h).live:=fun h hh=>by
  obtain⟨i,rfl,hi⟩:=key h hh
  exact hlv i hi
 refine .mk (List.range nin.length) qS List.nodup_range (by simp[hl]) qS (fun h hh=>lv h (aA.ck hh)) (fun h hh=>aA.ck (lv h hh)) (fun i h B e1 e2=>?_) hv
 have hi:i<nin.length:=by have:=(List.getElem?_eq_some_iff.1 e1).1;simpa using this
 rw[List.getElem?_range hi]at e1
 cases e1
 exact hb i B e2
def MM (f:Nat):Bool:=decide (0<f/4503599627370496%2048/\f/4503599627370496%2048<2047)
theorem Fz (f:Nat) (hf:f<18446744073709551616):ae Tryz.prog 79 [.int .u64 f] (.p (.bool (MM f))) []:=by
 refine aW Tryz.func79 ?_
 refine GH ?_
 refine ai.and (f/4503599627370496) 2047 _ rfl rfl qO qO (LU _) ?_
 unfold MM
 by_cases h1:0<f/4503599627370496%2048
 ·refine bo ?_
  by_cases h2:f/4503599627370496%2048<2047
  ·refine bo ?_
   rw[decide_eq_true (And.intro h1 h2)]
   exact ab.pure (.tf _)
  ·refine bd ?_
   rw[decide_eq_false (fun h=>h2 h.2)]
   exact ab.pure (.tf _)
 ·refine bd ?_
  rw[decide_eq_false (fun h=>h1 h.1)]
  exact ab.pure (.tf _)
def AL (l:List Rat):Nat->Nat
 |0=>0
 |i+1=>if(l.getD (AL l i) 0).abs<(l.getD i 0).abs then i else AL l i
theorem A2 (l:List Rat):∀i,0<i->AL l i<i:=by
 intro i
 induction i with
 |zero=>intro h;omega
 |succ i ih=>
  intro _
  unfold AL
  split
  ·omega
  ·rcases Nat.eq_zero_or_pos i with h|h
   ·subst h;exact Nat.zero_lt_one
   ·exact Nat.lt_succ_of_lt (ih h)
theorem MF (l:List Rat) (i:Nat) (h:i<l.length):AL l i<l.length:=by
 rcases Nat.eq_zero_or_pos i with e|e
 ·subst e;exact Nat.lt_of_le_of_lt (Nat.zero_le _) h
 ·have:=A2 l i e;omega
noncomputable def fB (q:Rat):Nat:=(Bv q 0).1
noncomputable def y9 (l:List Rat):List PV:=l.map fun q=>.int .u64 ((fB q:Nat):Int)
theorem HC (l:List Rat) {i:Nat} (h:i<l.length):y9 (l.take (i+1))=y9 (l.take i)++[.int .u64 ((fB (l.getD i 0):Nat):Int)]:=by rw[qQ l h,y9,y9,List.map_append];rfl
theorem Kd {l:List Rat} {i:Nat} (h:i<l.length):(y9 l)[i]?=some (.int .u64 ((fB (l.getD i 0):Nat):Int)):=by
 simp[y9,List.getD,List.getElem?_eq_getElem h]
theorem Jp (l:List Rat):∀e∈y9 l,∀c∈e.cells,ct c:=fun e he c hc=>by
 obtain⟨q,_,rfl⟩:=List.mem_map.1 he
 simp[PV.cells]at hc;subst hc
 exact .int _ _
noncomputable def uV (l:List Rat):Bool:=decide (0<l.length)&&(!decide (l.getD (AL l l.length) 0=0)&& !MM (fB (l.getD (AL l l.length) 0)))
noncomputable def ou (l:List Rat):AV:=match uV l with
 |true=>.bK [.p (.sl false 1 []),.p (.int .i64 10)]
 |false=>.bK [.p (.sl false 1 (y9 l)),.p (.int .i64 0)]
theorem BN {l:List Rat} (h:uV l=true):ou l= .bK [.p (.sl false 1 []),.p (.int .i64 10)]:=by unfold ou;rw[h]
theorem rh {l:List Rat} (h:uV l=false):ou l= .bK [.p (.sl false 1 (y9 l)),.p (.int .i64 0)]:=by unfold ou;rw[h]
theorem ab.bad {H:Hp} {l:List Rat} (h:uV l=true):ab [] (.bK [.emp,.p (.int .i64 10)]) H (ou l) []:=by
 rw[BN h]
 exact eT (.emp _) (.p _ (.int _ _))
theorem ab.MS {H:Hp} {T:TypeId} {l:List Rat} {n:Nat} (h:uV l=false) (hn:n=l.length) (h0:look H 0= .vec T 1 (y9 l)):ab [] (.bK [.vec 0 1 0 n,.p (.int .i64 0)]) H (ou l) []:=by
 rw[rh h]
 subst hn
 exact eT (.JE h0 qS (by simp[y9]) (Jp l) (by rw[List.drop_zero];exact List.take_of_length_le (by simp[y9]))) (.p _ (.int _ _))
theorem FX (q:Rat):fB q<18446744073709551616:=(OX q 0).1
theorem cy.u64 {n:Int} {K:Nat->Prop} (j:Nat) (hi:n=j) (h:j<=1099511627776) (hk:K j):cy n 8 K:=.mk j hi qO qO hk
theorem FL (m:Bool) (l:List Rat) {k:Nat} (hl:Bl l k) (hk:k<=60000) (hn:l.length<=1000000):ae Tryz.prog 35 [ar m l] (ou l) []:=by
 refine aW Tryz.func35 ?_
 refine SZ.mk (l.length:Int) qS ?_
 refine SZ.mk (l.length:Int) rfl ?_
 refine cm.mk qS ?_
 refine cy.u64 l.length rfl qO ?_
 refine SZ.mk (l.length:Int) qS ?_
 refine aJ.mk Nat (fun i=>([(0,.p (ar m l)),(4,.vec 0 1 0 l.length),(5,.p (.int .i64 (AL l i))),(11,.p (ar m l)),(12,.p (.int .i64 l.length)),(13,.p (.int .i64 i))],[.vec 47 1 (y9 (l.take i)++List.replicate (l.length-i) (PV.int .u64 0))]))
  (fun i=>i<=l.length) (fun i=>l.length-i) 0 [0] (Nat.zero_le _) aY ?_
 intro i (h1:i<=l.length)
 by_cases hi:i<l.length
 ·refine bo ?_
  have bq:=hl i hi
  have e:=HC l hi
  have ha:=MF l i hi
  have bp:=hl _ ha
  have ea:AL l (i+1)=if(l.getD (AL l i) 0).abs<(l.getD i 0).abs then i else AL l i:=rfl
  obtain⟨q,hq⟩:∃q,q=l.getD i 0:=⟨_,rfl⟩
  have hv:(a7 l)[i]?=some (aB q):=by rw[List.getElem?_map,List.getElem?_eq_getElem hi,hq];simp[List.getD,List.getElem?_eq_getElem hi]
  rw[<-hq]at e bq ea
  obtain⟨at',hat⟩:∃a,a=AL l i:=⟨_,rfl⟩
  rw[<-hat]at ha bp ea⊢
  obtain⟨p,hp⟩:∃p,p=l.getD at' 0:=⟨_,rfl⟩
  have hv2:(a7 l)[at']?=some (aB p):=by rw[List.getElem?_map,List.getElem?_eq_getElem ha,hp];simp[List.getD,List.getElem?_eq_getElem ha]
  rw[<-hp]at bp ea
  refine aF.mk i (aB q) rfl hv ?_
  refine aa.aO (xP q 0 bq qO) (fun _=>rfl) ?_
  refine aK.mk i rfl hi ?_
  refine cm.mk (by simp[y9];omega) ?_
  refine dp.mk _ (y8 _ _ _ hi (by simp[y9];omega)) ?_
  refine gx ?_
  repeat refine aq ?_
  refine ag (aa.pure (gP q bq qO) af) ?_
  repeat refine aq ?_
  refine ag (aF.mk at' (aB p) rfl hv2 af) ?_
  repeat refine aq ?_
  refine ag (aa.pure (gP p bp qO) af) ?_
  repeat refine aq ?_
  refine ag (aa.pure (fJ q.abs p.abs bq.abs.sz bp.abs.sz qO) af) ?_
  repeat refine aq ?_
  by_cases hc:p.abs<q.abs
  ·refine ag (ao.yes (decide_eq_true (fj.2 hc)) af) ?_
   rw[if_pos hc]at ea
   refine a5 (i+1) ?_
   exact⟨i+1,[0],hi,cA,aY ⟨by rw[e];rfl,trivial⟩ (ss:=⟨rfl,rfl,by rw[ea];rfl,rfl,rfl,rfl,trivial⟩)⟩
  ·refine ag (ao.no (decide_eq_false fun h=>hc (fj.1 h)) af) ?_
   rw[if_neg hc]at ea
   refine a5 (i+1) ?_
   exact⟨i+1,[0],hi,cA,aY ⟨by rw[e];rfl,trivial⟩ (ss:=⟨rfl,rfl,by rw[ea];rfl,rfl,rfl,rfl,trivial⟩)⟩
 ·refine bd ?_
  have:i=l.length:=qO
  subst this
  rw[List.take_length,Nat.sub_self,List.replicate_zero,List.append_nil]
  refine SZ.mk (l.length:Int) qS ?_
  by_cases h0:0<l.length
  ·refine bo ?_
   have ha:=A2 l l.length h0
   have hb:uV l=(!decide (l.getD (AL l l.length) 0=0)&& !MM (fB (l.getD (AL l l.length) 0))):=by unfold uV;rw[decide_eq_true h0];rfl
   have hf:=Kd ha
   obtain⟨at',hat⟩:∃a,a=AL l l.length:=⟨_,rfl⟩
   rw[<-hat]at ha hb hf⊢
   obtain⟨p,hp⟩:∃p,p=l.getD at' 0:=⟨_,rfl⟩
   have hv2:(a7 l)[at']?=some (aB p):=by rw[List.getElem?_map,List.getElem?_eq_getElem ha,hp];simp[List.getD,List.getElem?_eq_getElem ha]
   rw[<-hp]at hb hf
   refine aF.mk at' (aB p) rfl hv2 ?_
   refine SZ.mk (az p.num.natAbs:Int) qS ?_
   by_cases hp0:p=0
   ·rw[hp0]at hb⊢
    refine ao.no (decide_eq_false (by rw[show(0:Rat).num.natAbs=0 from rfl,aw.2 rfl];omega)) ?_
    exact ab.MS hb rfl rfl
   ·have hnz:az p.num.natAbs≠0:=fun h=>hp0 (by have:=aw.1 h;exact Rat.num_eq_zero.1 qO)
    refine bo ?_
    refine aK.mk at' rfl ha ?_
    refine aF.mk at' _ rfl hf ?_
    refine aa.pure (Fz (fB p) (FX p)) ?_
    rw[decide_eq_false hp0]at hb
    cases hc:MM (fB p)with
    |true=>
     rw[hc]at hb
     refine cJ ?_
     exact ab.MS hb rfl rfl
    |false=>
     rw[hc]at hb
     refine ir ?_
     exact ab.bad hb
  ·refine bd ?_
   exact ab.MS (by unfold uV;rw[decide_eq_false h0];rfl) rfl rfl
theorem sI:ae Tryz.prog 104 [] (.p (aB 0)) []:=by
 refine aW Tryz.func104 ?_
 refine ab.pure ?_
 rw[e8]
 exact iY ⟨rfl,rfl,rfl⟩ (.p _ (.bool _)) (.p _ (.sl _ _ (fun e he=>by simp at he))) (ka rfl)
theorem aa.two {P:Program} {f:FuncId} {L:Hd->aA} {base:Nat} {K:AV->List (Hd×aA)->Prop} {args args':List AV} {r:AV} {B0 B1 C0 C1:aA} (h0 h1:Nat) (hc:df P f args' [B0,B1] r [C0,C1])
  (hn:[h0,h1].Nodup) (hb0:h0<base) (hb1:h1<base) (ha:AV.de (bz [h0,h1] base) args'=args)
  (e0:L (.t h0)=(B0.dm (bz [h0,h1] base)).top/\∀k,L (.r h0 k)=B0.row k) (e1:L (.t h1)=(B1.dm (bz [h0,h1] base)).top/\∀k,L (.r h1 k)=B1.row k)
  (hl:∀B∈[B0,B1],B≠ .free/\B≠ .dead) (hm:∀B∈[B0,B1],∀k,B.aT k->k.key<2) (hf:∀B∈[C0,C1],B≠ .free) (hargs:∀a∈args',∀k,a.aT k->k.key<2)
  (hk:K (r.dm (bz [h0,h1] base)) [(.t h0,C0.dm (bz [h0,h1] base)),(.t h1,C1.dm (bz [h0,h1] base))]) {raw:List AV}:aa P true f raw args L base K:=
 .mk [h0,h1] args' r [B0,B1] [C0,C1] (fun e=>by cases e) hn (fun h hh=>by simp at hh;rcases hh with rfl|rfl<;>assumption) ha rfl (fun i h B g1 g2=>by
  match i,g1,g2 with
  |0,g1,g2=>cases g1;cases g2;exact e0
  |1,g1,g2=>cases g1;cases g2;exact e1) hl hm (Nat.le_refl _) hf hargs hc hk
abbrev rU (q:Rat):aA:=.box 124 (lr q)
theorem ab.Pz {H:Hp} {q x:Rat} {B0 B1:aA} (h0:H.getD 0 .free=rU q) (h1:H.getD 1 .free= .vec 31 3 [aB x]) (f0:∀k,B0.row k= .free) (f1:∀k,B1.row k= .free):
  ab [B0,B1] (.bK []) H (.bK []) [rU q,.vec 31 3 [aB x]]:=by
 refine ab.p9 rfl (by intro B hB k;simp at hB;rcases hB with rfl|rfl;exact f0 k;exact f1 k) (fun i hi=>?_) (fun i B e=>?_) (.bK rfl fun i c d e1 e2=>by simp at e1)
 ·match i,hi with
  |0,_=>rw[h0];trivial
  |1,_=>rw[h1];trivial
 ·match i,e with
  |0,e=>
   cases e;rw[h0]
   refine .box (by intro c hc;simp at hc;rcases hc with rfl|rfl|rfl<;>rfl) rfl fun i c d e1 e2=>?_
   match i,e1,e2 with
   |0,e1,e2=>cases e1;cases e2;exact .p _ (.bool _)
   |1,e1,e2=>cases e1;cases e2;exact .p _ (.sl _ _ (aL _))
   |2,e1,e2=>cases e1;cases e2;exact .p _ (.sl _ _ (aL _))
  |1,e=>cases e;rw[h1];exact .vec (au [x])
theorem C6 (a x:Rat) {j k:Nat} (ha:Bz a j) (hx:Bz x k) (h:j+k<=1048576):
  df Tryz.prog 105 [.aC 0 0,.vec 1 3 0 1] [rU a,.vec 31 3 [aB x]] (.bK []) [rU (if a<x then x else a),.vec 31 3 [aB x]]:=by
 refine aW Tryz.func105 ?_ (h5:=by intro B hB;simp at hB;rcases hB with rfl|rfl<;>exact fun e=>by(cases e))
 refine SZ.mk 1 rfl ?_
 refine aJ.mk Nat (fun i=>([(0,.aC 0 0),(6,.vec 1 3 0 1),(7,.p (.int .i64 1)),(8,.p (.int .i64 i))],[rU (if i=0 then a else if a<x then x else a),.vec 31 3 [aB x]])) (fun i=>i<=1) (fun i=>1-i) 0 [0,1]
  (Nat.zero_le _) aY ?_
 intro i (h1:i<=1)
 by_cases hi:i=0
 ·subst hi
  rw[if_pos rfl]
  refine bo ?_
  refine aK.mk 0 rfl qO ?_
  refine aF.mk 0 (aB x) rfl rfl ?_
  refine gx ?_
  repeat refine aq ?_
  refine ag (aa.pure (fJ x a hx.sz ha.sz qO) af) ?_
  repeat refine aq ?_
  by_cases hc:a<x
  ·refine ag (ao.yes (decide_eq_true (fj.2 hc)) af) ?_
   refine ai.bD 1 rfl qO ?_
   exact⟨1,[0,1],Nat.le_refl _,qD,aY ⟨by rw[if_neg qO,if_pos hc];rfl,rfl,trivial⟩⟩
  ·refine ag (ao.no (decide_eq_false fun h=>hc (fj.1 h)) af) ?_
   refine ai.bD 1 rfl qO ?_
   exact⟨1,[0,1],Nat.le_refl _,qD,aY ⟨by rw[if_neg qO,if_neg hc];rfl,rfl,trivial⟩⟩
 ·rw[if_neg hi]
  refine bd ?_
  exact ab.Pz rfl rfl (fun _=>rfl) fun _=>rfl
theorem aa.Pz {P:Program} {L:Hd->aA} {base h1 h2:Nat} {K:AV->List (Hd×aA)->Prop} {f:FuncId} {a b x:Rat} (hn:h1≠h2) (hb1:h1<base) (hb2:h2<base) (e1:L (.t h1)=rU a/\∀k,L (.r h1 k)= .free) (e2:L (.t h2)= .vec 31 3 [aB x]/\∀k,L (.r h2 k)= .free)
  (hc:df P f [.aC 0 0,.vec 1 3 0 1] [rU a,.vec 31 3 [aB x]] (.bK []) [rU b,.vec 31 3 [aB x]]) (hk:K (.bK []) [(.t h1,rU b),(.t h2,.vec 31 3 [aB x])]) {raw:List AV}:aa P true f raw [.aC h1 0,.vec h2 3 0 1] L base K:=
 aa.two (args':=[.aC 0 0,.vec 1 3 0 1]) h1 h2 hc (by simp[hn]) hb1 hb2 rfl e1 e2 (by intro B hB;simp at hB;rcases hB with rfl|rfl<;>exact⟨fun e=>by(cases e),fun e=>by(cases e)⟩)
  (by
   intro B hB k hk;simp at hB
   rcases hB with rfl|rfl
   ·simp[aA.aT,AV.bm,AV.aT]at hk
   ·exact hk.elim) (by intro B hB;simp at hB;rcases hB with rfl|rfl<;>exact fun e=>by(cases e)) (by
   intro a ha k hk;simp at ha
   rcases ha with rfl|rfl
   ·have:0=k:=hk;subst this;decide
   ·have:1=k:=hk;subst this;decide) hk
def H9 (f:Nat->Rat):Nat->Rat
 |0=>0
 |k+1=>if H9 f k<f k then f k else H9 f k
theorem jy {f:Nat->Rat} {b n:Nat} (h:∀i,i<n->Bz (f i) b) (hb:1<=b):∀k,k<=n->Bz (H9 f k) b
 |0,_=>cB.mono hb
 |k+1,hk=>by
  unfold H9;split
  ·exact h k qO
  ·exact jy h hb k qO
theorem jq {f:Nat->Rat}:∀k,0<=H9 f k/\∀j,j<k->f j<=H9 f k
 |0=>⟨Rat.le_refl,fun j h=>absurd h (Nat.not_lt_zero _)⟩
 |k+1=>by
  obtain⟨h1,h2⟩:=jq (f:=f) k
  unfold H9;split
  ·rename_i h
   refine⟨by grind,fun j hj=>?_⟩
   by_cases e:j=k
   ·rw[e];exact Rat.le_refl
   ·have:=h2 j qO;grind
  ·rename_i h
   refine⟨h1,fun j hj=>?_⟩
   by_cases e:j=k
   ·rw[e];grind
   ·exact h2 j qO
theorem AS {f:Nat->Rat} {u:Rat} (hu:0<=u):∀k,(∀j,j<k->f j<=u)->H9 f k<=u
 |0,_=>hu
 |k+1,h=>by
  unfold H9;split
  ·exact h k qO
  ·exact AS hu k fun j hj=>h j qO
abbrev LL:FuncId->Bool:=fun f=>Nat.beq f 105
abbrev Ea:aA:=.box 31 [.p (.bool false),.p (.sl false 1 []),.p (.sl false 1 [])]
abbrev jY (v:Nat->Rat):Nat->Rat:=H9 fun i=>(v i).abs
theorem sS (m:Bool) (n:Nat) (v:Nat->Rat) {k:Nat} (hl:∀i,i<n->Bz (v i) k) (hk1:1<=k) (hk:k+k<=1048576) (hn:n<=1000000):ae Tryz.prog 44 [ar m (aH n v)] (.p (aB (jY v n))) []:=by
 refine Jy (wr:=LL) Tryz.func44 ?_
 refine aa.pure (sI) ?_
 refine SZ.mk (n:Int) (by simp[aH]) ?_
 refine aJ.mk Nat (fun i=>([(2,.aC 0 0),(3,.aC 1 0),(9,.p (ar m (aH n v))),(10,.p (.int .i64 n)),(11,.p (.int .i64 i))],[Ea,rU (jY v i)]))
  (fun i=>i<=n) (fun i=>n-i) 0 [0,1] (Nat.zero_le _) aY ?_
 intro i (h1:i<=n)
 by_cases hi:i<n
 ·refine bo ?_
  have bq:=hl i hi
  refine aF.rf i rfl hi ?_
  refine aa.pure (gP (v i) bq qO) ?_
  refine aa.Pz (h1:=1) (h2:=3) qD qD qD ⟨rfl,fun _=>rfl⟩ ⟨rfl,fun _=>rfl⟩ (C6 (jY v i) (v i).abs (jy (fun i hi=>(hl i hi).abs) hk1 i h1) bq.abs hk) ?_
  refine a5 (i+1) ?_
  exact⟨i+1,[0,1],hi,cA,aY⟩
 ·refine bd ?_
  obtain rfl:i=n:=qO
  exact ab.pure (.p _ (aG _ _ _))
abbrev yr (A:Nat->Nat->Rat) (n i:Nat):Rat:=sm n fun j=>(A i j).abs
abbrev qC (A:Nat->Nat->Rat) (n:Nat):Nat->Rat:=H9 (yr A n)
theorem HV (m m':Bool) (n:Nat) (A:Nat->Nat->Rat) {k:Nat} (hA:∀i j,i<n->j<n->Bz (A i j) k) (hk:2*(n*(k+1)+1)+k<=1000000) (hn:n<=1000):ae Tryz.prog 48 [cn m m' n n A] (.p (aB (qC A n n))) []:=by
 have bS:∀i,i<n->∀j,j<=n->Bz (sm j fun j=>(A i j).abs) (n*(k+1)+1):=fun i hi j hj=>(gB (fun j hj=>(hA i j hi hj).abs) j hj).mono (Nat.add_le_add_right (Nat.mul_le_mul_right _ hj) 1)
 refine Jy (wr:=LL) Tryz.func48 ?_
 refine aa.pure (sI) ?_
 refine SZ.mk (n:Int) qS ?_
 refine aJ.mk Nat (fun i=>([(2,.aC 0 0),(3,.aC 1 0),(4,.fn 105 [.aC 1 0] []),(15,.p (cn m m' n n A)),(16,.p (.int .i64 n)),(17,.p (.int .i64 i))],[Ea,rU (qC A n i)]))
  (fun i=>i<=n) (fun i=>n-i) 0 [0,1] (Nat.zero_le _) aY ?_
 intro i (h1:i<=n)
 by_cases hi:i<n
 ·refine bo ?_
  refine aF.mf i rfl hi ?_
  refine aa.pure (sI) ?_
  refine SZ.mk (n:Int) (by simp[aH]) ?_
  refine aJ.mk Nat (fun j=>([(2,.aC 0 0),(3,.aC 1 0),(4,.fn 105 [.aC 1 0] []),(15,.p (cn m m' n n A)),(16,.p (.int .i64 n)),(17,.p (.int .i64 i)),(7,.aC 2 0),(22,.p (ar m' (aH n (A i)))),(23,.p (.int .i64 n)),(24,.p (.int .i64 j))],
    [Ea,rU (qC A n i),.box 31 (lr (sm j fun j=>(A i j).abs))]))
   (fun j=>j<=n) (fun j=>n-j) 0 [0,1,2] (Nat.zero_le _) aY ?_
  intro j (g1:j<=n)
  have bt:=bS i hi j g1
  by_cases hj:j<n
  ·refine bo ?_
   have bq:=hA i j hi hj
   refine aF.rf j rfl hj ?_
   refine cS ?_
   repeat refine aq ?_
   refine ag (aa.pure (gP (A i j) bq qO) af) ?_
   refine ag (aa.pure (eh _ (A i j).abs bt.sz bq.abs.sz qO) af) ?_
   repeat refine aq ?_
   refine cX ?_
   refine a5 (j+1) ?_
   exact⟨j+1,[0,1,2],hj,cA,aY⟩
  ·refine bd ?_
   obtain rfl:j=n:=qO
   refine aa.Pz (h1:=1) (h2:=3) qD qD qD ⟨rfl,fun _=>rfl⟩ ⟨rfl,fun _=>rfl⟩ (C6 (qC A j i) (yr A j i) (jy (fun i hi=>bS i hi j (Nat.le_refl _)) qO i h1) bt qO) ?_
   refine a5 (i+1) ?_
   exact⟨i+1,[0,1],hi,cA,aY⟩
 ·refine bd ?_
  obtain rfl:i=n:=qO
  exact ab.pure (.p _ (aG _ _ _))
section

theorem Nz {A:Nat->Nat->Rat} {p r n:Nat} (hp:r<=p) (hpn:p<n) {P:(Nat->Rat)->Prop} (h:∀i,i<n->r<=i->P (A i)) {i:Nat} (hi:i<n) (hr:r<=i):P (bO A p r i):=by
 unfold bO
 split
 ·exact h r qO (Nat.le_refl _)
 ·split
  ·exact h p hpn hp
  ·exact h i hi hr
theorem lT {n:Nat} {A:Nat->Nat->Rat}:∀j i k,i<n->(elim n A j).r<=i->k<j->(elim n A j).A i k=0:=by
 intro j
 induction j with
 |zero=>intro i k _ _ h;exact absurd h (Nat.not_lt_zero _)
 |succ j ih=>
  have hr:=dT (n:=n) (A:=A) j
  obtain⟨p1,p2,p3,p4⟩:=dI (A:=(elim n A j).A) (j:=j) hr
  intro i k hi
  rw[dA]
  unfold Ak
  split
  ·rename_i hp
   intro hri hk
   by_cases e:k=j
   ·subst e;exact p3 i hri qO
   ·exact ih i k hi hri qO
  ·rename_i hp
   intro hri hk
   have hri:(elim n A j).r+1<=i:=hri
   show fa _ _ _ i k=0
   by_cases e:k=j
   ·subst e
    rw[oF qO (Nat.le_refl _)]
    have h0:bO (elim n A k).A (pv (elim n A k).A k n (elim n A k).r) (elim n A k).r (elim n A k).r k≠0:=by
     rw[iU];exact p4.resolve_left qO
    grind
   ·rw[fe (.inr qO)]
    exact Nz (P:=fun f=>f k=0) p1 qO (fun q hq hrq=>ih q k hq hrq qO) hi qO
def su (n w:Nat) (A:Nat->Nat->Rat) (v:Nat->Rat):Prop:=∀i,i<n->sm w (fun k=>A i k*v k)=0
theorem su.Mt {n w p r:Nat} {A:Nat->Nat->Rat} {v:Nat->Rat} (hp:p<n) (hr:r<n):su n w (bO A p r) v↔su n w A v:=by
 constructor
 ·intro h i hi
  by_cases e1:i=p
  ·have:=h r hr
   unfold bO at this
   by_cases e2:r=p
   ·rw[if_pos e2]at this;rw[e1,<-e2];exact this
   ·rw[if_neg e2,if_pos rfl]at this;rw[e1];exact this
  ·by_cases e2:i=r
   ·have:=h p hp
    unfold bO at this
    rw[if_pos rfl]at this;rw[e2];exact this
   ·have:=h i hi
    unfold bO at this
    rw[if_neg e1,if_neg e2]at this;exact this
 ·intro h i hi
  unfold bO
  split
  ·exact h r hr
  ·split
   ·exact h p hp
   ·exact h i hi
theorem DB {B:Nat->Nat->Rat} {r j i:Nat} (hz:∀k,k<j->B r k=0) (hi:r<i) (k:Nat):fa B r j i k=B i k-B i j/B r j*B r k:=by
 by_cases e:j<=k
 ·exact oF hi e
 ·rw[fe (.inr qO),hz k qO];grind
theorem su.red {n w r j:Nat} {B:Nat->Nat->Rat} {v:Nat->Rat} (hz:∀k,k<j->B r k=0) (hr:r<n):su n w (fa B r j) v↔su n w B v:=by
 have row:∀i,r<i->sm w (fun k=>fa B r j i k*v k)=sm w (fun k=>B i k*v k)-B i j/B r j*sm w (fun k=>B r k*v k):=by
  intro i hi
  rw[<-c8,<-nX]
  refine aX fun k _=>?_
  rw[DB hz hi];grind
 have low:∀i,¬r<i->(fun k=>fa B r j i k*v k)=fun k=>B i k*v k:=by
  intro i hi
  funext k
  rw[fe (.inl qO)]
 constructor
 ·intro h i hi
  have h0:sm w (fun k=>B r k*v k)=0:=by have:=h r hr;rw[low r (Nat.lt_irrefl r)]at this;exact this
  have:=h i hi
  by_cases e:r<i
  ·rw[row i e,h0]at this;grind
  ·rw[low i e]at this;exact this
 ·intro h i hi
  by_cases e:r<i
  ·rw[row i e,h i hi,h r hr];grind
  ·rw[low i e];exact h i hi
theorem uh {n w:Nat} {A:Nat->Nat->Rat} {v:Nat->Rat}:∀j,su n w (elim n A j).A v↔su n w A v:=by
 intro j
 induction j with
 |zero=>exact Iff.rfl
 |succ j ih=>
  have hr:=dT (n:=n) (A:=A) j
  obtain⟨p1,p2,p3,p4⟩:=dI (A:=(elim n A j).A) (j:=j) hr
  rw[dA]
  unfold Ak
  split
  ·exact ih
  ·rename_i hp
   have hpn:pv (elim n A j).A j n (elim n A j).r<n:=qO
   refine(su.red (fun k hk=>?_) qO).trans ((su.Mt hpn qO).trans ih)
   rw[iU];exact lT j _ k hpn p1 hk
theorem jh {n:Nat} {A:Nat->Nat->Rat} {j:Nat} (h:(elim n A (j+1)).r=j+1):(elim n A j).r=j/\pv (elim n A j).A j n j<n:=by
 have hr:=wx (n:=n) (A:=A) j
 rw[dA]at h
 unfold Ak at h
 split at h
 ·have:(elim n A j).r=j+1:=h;omega
 ·rename_i hp
  have:(elim n A j).r+1=j+1:=h
  have e:(elim n A j).r=j:=qO
  rw[e]at hp
  exact⟨e,qO⟩
theorem gY {n:Nat} {A:Nat->Nat->Rat} {j:Nat} (h:(elim n A j).r=j) (hp:pv (elim n A j).A j n j<n):
  elim n A (j+1)=⟨fa (bO (elim n A j).A (pv (elim n A j).A j n j) j) j j,(if pv (elim n A j).A j n j=j then(elim n A j).gR else-(elim n A j).gR)*(elim n A j).A (pv (elim n A j).A j n j) j,j+1⟩:=by
 rw[dA];unfold Ak;rw[h,if_neg qO,iU]
theorem mM {n:Nat} {A:Nat->Nat->Rat}:∀j,(elim n A j).r=j->∀i,i<j->(elim n A j).A i i≠0:=by
 intro j
 induction j with
 |zero=>intro _ i hi;exact absurd hi (Nat.not_lt_zero _)
 |succ j ih=>
  intro h i hi
  obtain⟨h1,h2⟩:=jh h
  have hr:=dT (n:=n) (A:=A) j
  rw[h1]at hr
  obtain⟨p1,p2,p3,p4⟩:=dI (A:=(elim n A j).A) (j:=j) hr
  rw[gY h1 h2]
  show fa _ j j i i≠0
  rw[fe (.inl qO)]
  by_cases e:i=j
  ·subst e;rw[iU];exact p4.resolve_left qO
  ·unfold bO;rw[if_neg qO,if_neg e];exact ih h1 i qO
theorem kh {n:Nat} {A:Nat->Nat->Rat}:∀j,j<=n->((elim n A j).gR≠0↔(elim n A j).r=j):=by
 intro j
 induction j with
 |zero=>intro _;exact⟨fun _=>rfl,fun _=>by show(1:Rat)≠0;decide⟩
 |succ j ih=>
  intro hj
  have ih:=ih qO
  have hr:=dT (n:=n) (A:=A) j
  obtain⟨p1,p2,p3,p4⟩:=dI (A:=(elim n A j).A) (j:=j) hr
  constructor
  ·intro h
   rw[dA]at h⊢
   unfold Ak at h⊢
   split at h
   ·exact absurd rfl h
   ·rename_i hp
    rw[if_neg hp]
    show(elim n A j).r+1=j+1
    have:(elim n A j).gR≠0:=fun e=>h (by
     show(if _ then(elim n A j).gR else-(elim n A j).gR)*_=0
     rw[e];split<;>grind)
    rw[ih.1 this]
  ·intro h
   obtain⟨h1,h2⟩:=jh h
   rw[h1]at p4
   rw[gY h1 h2]
   have d:=ih.2 h1
   have e:=p4.resolve_left qO
   show(if _ then(elim n A j).gR else-(elim n A j).gR)*_≠0
   intro e0
   rcases Rat.mul_eq_zero.1 e0 with e0|e0
   ·split at e0
    ·exact d e0
    ·exact d (by grind)
   ·exact e e0
theorem EE {n:Nat} {A:Nat->Nat->Rat}:∀m,m<=n->(elim n A m).r≠m->∃j,j<m/\(elim n A j).r=j/\pv (elim n A j).A j n j=n:=by
 intro m
 induction m with
 |zero=>intro _ h;exact absurd rfl h
 |succ m ih=>
  intro hm h
  by_cases e:(elim n A m).r=m
  ·refine⟨m,Nat.lt_succ_self _,e,?_⟩
   have hr:=dT (n:=n) (A:=A) m
   rw[e]at hr
   obtain⟨p1,p2,p3,p4⟩:=dI (A:=(elim n A m).A) (j:=m) hr
   rcases Nat.lt_or_ge (pv (elim n A m).A m n m) n with c|c
   ·exact absurd (by rw[gY e c]) h
   ·omega
  ·obtain⟨j,h1,h2⟩:=ih qO e
   exact⟨j,qO,h2⟩
theorem kk (f:Nat->Rat) (m:Nat):∀d,sm (m+d) f=sm m f+sm d (fun e=>f (m+e)):=by
 intro d
 induction d with
 |zero=>show sm m f=sm m f+0;grind
 |succ d ih=>show sm (m+d) f+f (m+d)=sm m f+(sm d (fun e=>f (m+e))+f (m+d));rw[ih];grind
theorem Pq (a x:Nat->Rat) (s0:Rat) (m:Nat):∀d,sb a x s0 m d=s0-sm d (fun e=>a (m+e)*x (m+e)):=by
 intro d
 induction d with
 |zero=>show s0=s0-0;grind
 |succ d ih=>show sb a x s0 m d-_=s0-(sm d (fun e=>a (m+e)*x (m+e))+_);rw[ih];grind
theorem G4 {A:Nat->Nat->Rat} {n:Nat} (up:∀i k,i<n->k<i->A i k=0) (dg:∀i,i<n->A i i≠0):
  ∀t,t<=n->∀i,n<=i+t->i<n->sm n (fun k=>A i k*bk A n t k)=A i n:=by
 intro t
 induction t with
 |zero=>intro _ i h1 h2;omega
 |succ t ih=>
  intro ht i h1 h2
  by_cases e:i=n-1-t
  ·have hv:bk A n (t+1) i=sb (A i) (bk A n t) (A i n) (n-t) t/A i i:=by simp only[bk];rw[<-e];exact ah _ _ _
   have en:n=i+1+t:=qO
   have hs:sm n (fun k=>A i k*bk A n (t+1) k)=0+A i i*bk A n (t+1) i+sm t (fun e=>A i (i+1+e)*bk A n t (i+1+e)):=by
    conv=>lhs;rw[en]
    rw[kk]
    congr 1
    ·show sm i _+_=_
     rw[fF fun k hk=>by rw[up i k h2 hk];exact Rat.zero_mul _,<-en]
    ·refine aX fun k hk=>?_
     rw[<-en,LB qO qO]
   rw[hs,hv,Pq,show n-t=i+1 by omega]
   have:=dg i h2
   grind
  ·rw[<-ih qO i qO h2]
   refine aX fun k hk=>?_
   by_cases ek:k=n-1-t
   ·rw[up i k h2 qO];grind
   ·have:bk A n (t+1) k=bk A n t k:=by simp only[bk];exact aj _ _ ek
    rw[this]
theorem sf {n:Nat} {A:Nat->Nat->Rat}:∀j,j<=n->(elim n A j).r=j->∀i k,i<n->k<i->k<j->(elim n A j).A i k=0:=by
 intro j
 induction j with
 |zero=>intro _ _ i k _ _ h;exact absurd h (Nat.not_lt_zero _)
 |succ j ih=>
  intro hj h i k hi hki hkj
  by_cases e:j+1<=i
  ·exact lT (j+1) i k hi (by rw[h];exact e) hkj
  ·obtain⟨h1,h2⟩:=jh h
   rw[gY h1 h2]
   show fa _ j j i k=0
   rw[fe (.inl qO)]
   have hrn:=dT (n:=n) (A:=A) j
   rw[h1]at hrn
   have hp:=(dI (A:=(elim n A j).A) (j:=j) hrn).1
   by_cases e2:i=j
   ·subst e2;rw[iU]
    exact lT i _ k h2 (by rw[h1];exact hp) hki
   ·unfold bO;rw[if_neg qO,if_neg e2]
    exact ih qO h1 i k hi hki qO
theorem O6 {n:Nat} {A:Nat->Nat->Rat} {v:Nat->Rat} (hd:(elim n A n).gR≠0) (h:su n n A v):∀k,k<n->v k=0:=by
 have hr:=(kh n (Nat.le_refl _)).1 hd
 have hk:=(uh n).2 h
 have up:∀i k,i<n->k<i->(elim n A n).A i k=0:=fun i k hi hk=>sf n (Nat.le_refl _) hr i k hi hk qO
 have dg:=mM n hr
 have:∀t,t<=n->∀i,n<=i+t->i<n->v i=0:=by
  intro t
  induction t with
  |zero=>intro _ i h1 h2;omega
  |succ t ih=>
   intro ht i h1 h2
   by_cases e:n<=i+t
   ·exact ih qO i e h2
   ·have en:n=i+1+t:=qO
    have h0:=hk i h2
    have hs:sm n (fun k=>(elim n A n).A i k*v k)=0+(elim n A n).A i i*v i+0:=by
     conv=>lhs;arg 1;rw[en]
     rw[kk]
     congr 1
     ·show sm i _+_=_
      rw[fF fun k hk=>by rw[up i k h2 hk];exact Rat.zero_mul _]
     ·exact fF fun k hk=>by rw[ih qO (i+1+k) qO qO];exact Rat.mul_zero _
    rw[hs]at h0
    have:=dg i h2
    rcases Rat.mul_eq_zero.1 (show(elim n A n).A i i*v i=0 by grind)with c|c
    ·exact absurd c this
    ·exact c
 exact fun k hk=>this n (Nat.le_refl _) k qO hk
theorem O3 {n:Nat} {A:Nat->Nat->Rat} (hd:(elim n A n).gR=0):∃v:Nat->Rat,(∃k,k<n/\v k≠0)/\su n n A v:=by
 obtain⟨j,hj,h1,h2⟩:=EE (A:=A) n (Nat.le_refl n) fun e=>(kh n (Nat.le_refl _)).2 e hd
 have hrn:=dT (n:=n) (A:=A) j
 rw[h1]at hrn
 obtain⟨p1,p2,p3,p4⟩:=dI (A:=(elim n A j).A) (j:=j) hrn
 let A':Nat->Nat->Rat:=fun i k=>if k=j then-(elim n A j).A i j else(elim n A j).A i k
 have hb:=G4 (A:=A') (n:=j) (fun i k hi hk=>by
   show(if k=j then _ else _)=(0:Rat)
   rw[if_neg qO];exact sf j qO h1 i k qO hk qO)
  (fun i hi=>by
   show(if i=j then _ else _)≠(0:Rat)
   rw[if_neg qO];exact mM j h1 i hi) j (Nat.le_refl _)
 refine⟨fun k=>if k<j then bk A' j j k else if k=j then 1 else 0,⟨j,hj,qS⟩,(uh j).1 fun i hi=>?_⟩
 have en:n=j+1+(n-j-1):=qO
 rw[en,kk]
 have z:sm (n-j-1) (fun e=>(elim n A j).A i (j+1+e)*(fun k=>if k<j then bk A' j j k else if k=j then 1 else 0) (j+1+e))=0:=
  fF fun e he=>by show _*(if j+1+e<j then _ else if j+1+e=j then _ else _)=(0:Rat);rw[if_neg qO,if_neg qO];exact Rat.mul_zero _
 rw[<-en,z]
 show sm j _+(elim n A j).A i j*(if j<j then _ else if j=j then 1 else 0)+0=0
 rw[if_neg (Nat.lt_irrefl j),if_pos rfl]
 by_cases e:i<j
 ·have:=hb i qO e
  have e2:sm j (fun k=>(elim n A j).A i k*(if k<j then bk A' j j k else if k=j then 1 else 0))=sm j (fun k=>A' i k*bk A' j j k):=
   aX fun k hk=>by
    show _=(if k=j then _ else(elim n A j).A i k)*_
    rw[if_pos hk,if_neg qO]
  have e3:A' i j= -(elim n A j).A i j:=if_pos rfl
  rw[e2,this,e3];grind
 ·rw[fF fun k hk=>by rw[lT j i k hi qO hk];exact Rat.zero_mul _,p3 i qO qO];grind
theorem F9 {n j r:Nat} {A B:Nat->Nat->Rat} (h:∀i,i<n->A i j=B i j) (hr:r<=n):pv A j n r=pv B j n r:=by
 obtain⟨p1,p2,p3,p4⟩:=dI (A:=B) (j:=j) hr
 refine vJ p1 p2 (fun i h1 h2=>by rw[h i qO];exact p3 i h1 h2) ?_
 by_cases e:pv B j n r=n
 ·exact .inl e
 ·exact .inr (by rw[h _ qO];exact p4.resolve_left e)
theorem Bp {n:Nat} {A B:Nat->Nat->Rat} (h:∀i k,i<n->k<n->A i k=B i k):∀j,j<=n->
  (elim n A j).gR=(elim n B j).gR/\(elim n A j).r=(elim n B j).r/\∀i k,i<n->k<n->(elim n A j).A i k=(elim n B j).A i k:=by
 intro j
 induction j with
 |zero=>exact fun _=>⟨rfl,rfl,h⟩
 |succ j ih=>
  intro hj
  obtain⟨h1,h2,h3⟩:=ih qO
  have hr:=dT (n:=n) (A:=B) j
  have hp:=F9 (r:=(elim n B j).r) (fun i hi=>h3 i j hi qO) hr
  rw[dA,dA]
  unfold Ak
  rw[h2,hp,h1]
  obtain⟨p1,p2,p3,p4⟩:=dI (A:=(elim n B j).A) (j:=j) hr
  split
  ·exact⟨rfl,rfl,h3⟩
  ·rename_i c
   have hs:∀i k,i<n->k<n->bO (elim n A j).A (pv (elim n B j).A j n (elim n B j).r) (elim n B j).r i k=bO (elim n B j).A (pv (elim n B j).A j n (elim n B j).r) (elim n B j).r i k:=by
    intro i k hi hk
    unfold bO
    split
    ·exact h3 _ k qO hk
    ·split
     ·exact h3 _ k qO hk
     ·exact h3 _ k hi hk
   refine⟨?_,rfl,fun i k hi hk=>?_⟩
   ·show _*_=_*_;rw[hs _ j qO qO]
   ·show fa _ _ _ i k=fa _ _ _ i k
    unfold fa
    rw[hs i k hi hk,hs i j hi qO,hs _ j qO qO,hs _ k qO hk]
theorem Da {n:Nat} {A:Nat->Nat->Rat} {y:Nat->Rat}:(elim n (eE n A y) n).gR=(elim n A n).gR:=
 (Bp (fun i k _ hk=>if_pos hk) n (Nat.le_refl _)).1
theorem IT {n:Nat} {A:Nat->Nat->Rat} {y:Nat->Rat} (hd:(elim n A n).gR≠0):∀i,i<n->sm n (fun k=>A i k*bk (elim n (eE n A y) n).A n n k)=y i:=by
 have hd':(elim n (eE n A y) n).gR≠0:=by rw[Da];exact hd
 have hr:=(kh n (Nat.le_refl _)).1 hd'
 have hb:=G4 (A:=(elim n (eE n A y) n).A) (n:=n) (fun i k hi hk=>sf n (Nat.le_refl _) hr i k hi hk qO) (mM n hr) n (Nat.le_refl _)
 have hk:su n (n+1) (elim n (eE n A y) n).A fun k=>if k<n then bk (elim n (eE n A y) n).A n n k else-1:=fun i hi=>by
  show sm n _+_*(if n<n then _ else(-1:Rat))=0
  rw[if_neg (Nat.lt_irrefl n),aX (g:=fun k=>(elim n (eE n A y) n).A i k*bk (elim n (eE n A y) n).A n n k) fun k hk=>by show _*(if k<n then _ else _)=_;rw[if_pos hk],hb i qO hi]
  grind
 intro i hi
 have:=(uh n).1 hk i hi
 have h2:sm n (fun k=>A i k*bk (elim n (eE n A y) n).A n n k)+eE n A y i n*(if n<n then bk (elim n (eE n A y) n).A n n n else-1)=0:=by
  rw[<-this]
  show _=sm n _+_
  congr 1
  exact aX fun k hk=>by show _=eE n A y i k*_;rw[if_pos hk];unfold eE;rw[if_pos hk]
 rw[if_neg (Nat.lt_irrefl n),show eE n A y i n=y i from if_neg (Nat.lt_irrefl n)]at h2
 grind
end
def Po (w:Nat) (A:Nat->Nat->Rat) (y:Nat->Rat) (i:Nat):Rat:=sm w fun k=>A i k*y k
def mulM (n:Nat) (A B:Nat->Nat->Rat) (i j:Nat):Rat:=sm n fun k=>B k j*A i k
theorem xa {F:Nat->Nat->Rat} {m:Nat}:∀n,sm n (fun i=>sm m fun j=>F i j)=sm m fun j=>sm n fun i=>F i j:=by
 intro n
 induction n with
 |zero=>show(0:Rat)=sm m fun _=>0;exact(fF fun _ _=>rfl).symm
 |succ n ih=>
  show sm n _+sm m _=sm m fun j=>sm n (fun i=>F i j)+F n j
  rw[ih,FV (fun j=>sm n fun i=>F i j) (fun j=>F n j)]
section

def pm:Nat->(Nat->Rat)->Rat
 |0,_=>1
 |n+1,f=>pm n f*f n
def fo (n k:Nat) (f:Nat->Rat):Rat:=pm n fun t=>if t=k then 1 else f t
theorem kg {f g:Nat->Rat}:∀{n:Nat},(∀i,i<n->f i=g i)->pm n f=pm n g:=by
 intro n
 induction n with
 |zero=>exact fun _=>rfl
 |succ n ih=>intro h;simp only[pm];rw[ih fun i hi=>h i qO,h n qO]
theorem zY {f:Nat->Rat}:∀{n:Nat},(∀i,i<n->f i≠0)->pm n f≠0:=by
 intro n
 induction n with
 |zero=>intro _;simp only[pm];decide
 |succ n ih=>
  intro h e
  rcases Rat.mul_eq_zero.1 e with e|e
  ·exact ih (fun i hi=>h i qO) e
  ·exact h n qO e
theorem Km {f:Nat->Rat} {k:Nat}:∀{n:Nat},k<n->f k=0->pm n f=0:=by
 intro n
 induction n with
 |zero=>intro h;exact absurd h (Nat.not_lt_zero _)
 |succ n ih=>
  intro h e
  simp only[pm]
  by_cases c:k=n
  ·rw[<-c,e];exact Rat.mul_zero _
  ·rw[ih qO e];exact Rat.zero_mul _
theorem uz {f:Nat->Rat} {n k:Nat} (h:∀i,i<n->i≠k->f i≠0):fo n k f≠0:=
 zY fun i hi=>by
  by_cases e:i=k
  ·rw[if_pos e];decide
  ·rw[if_neg e];exact h i hi e
theorem zZ {f:Nat->Rat} {n k l:Nat} (hl:l<n) (hk:l≠k) (h:f l=0):fo n k f=0:=Km hl (by rw[if_neg hk];exact h)
theorem xG {f:Nat->Rat} {n k:Nat} (h:n<=k):fo n k f=pm n f:=kg fun i hi=>if_neg qO
theorem lZ {f:Nat->Rat} {n k:Nat} (h:n≠k):fo (n+1) k f=fo n k f*f n:=by
 show pm n _*(if n=k then 1 else f n)=_
 rw[if_neg h];rfl
theorem kx {f:Nat->Rat} {n:Nat}:fo (n+1) n f=pm n f:=by
 show pm n _*(if n=n then 1 else f n)=_
 rw[if_pos rfl,Rat.mul_one];exact xG (Nat.le_refl n)
theorem pG {f:Nat->Rat} {k:Nat}:∀{n:Nat},k<n->pm n f=f k*fo n k f:=by
 intro n
 induction n with
 |zero=>intro h;exact absurd h (Nat.not_lt_zero _)
 |succ n ih=>
  intro h
  by_cases c:k=n
  ·subst c;rw[kx];simp only[pm];exact Rat.mul_comm _ _
  ·rw[lZ qO];simp only[pm];rw[ih qO];grind
theorem Hq {f:Nat->Rat}:∀n,pm n (fun t=> -(f t))=pm n (fun _=> -1)*pm n f:=by
 intro n
 induction n with
 |zero=>simp only[pm];grind
 |succ n ih=>simp only[pm];rw[ih];grind
theorem MJ:∀n,pm n (fun _=> -1)*pm n (fun _=> -1)=1:=by
 intro n
 induction n with
 |zero=>simp only[pm];grind
 |succ n ih=>simp only[pm];grind
theorem KW {f:Nat->Rat} {n k:Nat} (h:k<n):fo n k (fun t=> -(f t))= -(pm n (fun _=> -1))*fo n k f:=by
 have e:fo n k (fun t=> -(f t))=pm n (fun t=> -(if t=k then-1 else f t)):=by
  refine kg fun i _=>?_
  by_cases c:i=k
  ·rw[if_pos c,if_pos c];decide
  ·rw[if_neg c,if_neg c]
 rw[e,Hq]
 have e2:pm n (fun t=>if t=k then-1 else f t)= -(fo n k f):=by
  rw[pG h,if_pos rfl]
  have:fo n k (fun t=>if t=k then-1 else f t)=fo n k f:=kg fun i _=>by
   by_cases c:i=k
   ·rw[if_pos c,if_pos c]
   ·rw[if_neg c,if_neg c];exact if_neg c
  rw[this];grind
 rw[e2];grind
def gu (k:Nat) (g:Rat->Rat):Prop:=∃c:Nat->Rat,∀X,fN k c X=g X
theorem gu.zero (k:Nat):gu k fun _=>0:=⟨fun i=>0*(0:Rat),fun X=>by rw[uB k 0 (fun _=>0) X];exact Rat.zero_mul _⟩
theorem gu.add {k:Nat} {g h:Rat->Rat} (hg:gu k g) (hh:gu k h):gu k fun X=>g X+h X:=by
 obtain⟨c,hc⟩:=hg
 obtain⟨d,hd⟩:=hh
 exact⟨fun i=>c i+d i,fun X=>by rw[Dc,hc,hd]⟩
theorem gu.smul {k:Nat} {g:Rat->Rat} (b:Rat) (hg:gu k g):gu k fun X=>b*g X:=by
 obtain⟨c,hc⟩:=hg
 exact⟨fun i=>b*c i,fun X=>by rw[uB,hc]⟩
theorem gu.Jm {k:Nat} {g:Rat->Rat} (hg:gu k g) (r:Rat):gu (k+1) fun X=>g X*(r-X):=by
 obtain⟨c,hc⟩:=hg
 obtain⟨d,_,hd⟩:=(sF.Jm (g:=g) ⟨c,rfl,hc⟩ r).smul (-1)
 exact⟨d,fun X=>by rw[hd];grind⟩
theorem gu.pm (a:Nat->Rat):∀n,gu n fun X=>pm n fun t=>a t-X:=by
 intro n
 induction n with
 |zero=>exact⟨fun _=>1,fun X=>rfl⟩
 |succ n ih=>exact ih.Jm (a n)
theorem gu.fo (a:Nat->Rat) (j:Nat):∀n,j<n+1->gu n fun X=>fo (n+1) j fun t=>a t-X:=by
 intro n
 induction n with
 |zero=>
  intro h
  obtain rfl:j=0:=qO
  have:(fun X:Rat=>Go.Proofs.YtiakeknbdclaoaaGreat.fo (0+1) 0 fun t=>a t-X)=fun X=>Go.Proofs.YtiakeknbdclaoaaGreat.pm 0 fun t=>a t-X:=by funext X;exact kx
  rw[this];exact gu.pm a 0
 |succ n ih=>
  intro h
  by_cases e:j=n+1
  ·subst e
   have:(fun X:Rat=>Go.Proofs.YtiakeknbdclaoaaGreat.fo (n+1+1) (n+1) fun t=>a t-X)=fun X=>Go.Proofs.YtiakeknbdclaoaaGreat.pm (n+1) fun t=>a t-X:=by funext X;exact kx
   rw[this];exact gu.pm a (n+1)
  ·have:(fun X:Rat=>Go.Proofs.YtiakeknbdclaoaaGreat.fo (n+1+1) j fun t=>a t-X)=fun X=>(Go.Proofs.YtiakeknbdclaoaaGreat.fo (n+1) j fun t=>a t-X)*(a (n+1)-X):=by funext X;exact lZ qO
   rw[this];exact(ih qO).Jm _
theorem gu.sum {k:Nat} {G:Nat->Rat->Rat}:∀m,(∀t,t<m->gu k (G t))->gu k fun X=>sm m fun t=>G t X:=by
 intro m
 induction m with
 |zero=>exact fun _=>gu.zero k
 |succ m ih=>intro h;exact(ih fun t ht=>h t qO).add (h m qO)
theorem gu.eq {k:Nat} {g h:Rat->Rat} {r:Nat->Rat} (hg:gu k g) (hh:gu k h) (hi:j9 r (k+1)) (he:∀l,l<k+1->g (r l)=h (r l)) (X:Rat):g X=h X:=by
 obtain⟨c,hc⟩:=hg
 obtain⟨d,hd⟩:=hh
 rw[<-hc,<-hd]
 exact g8 k X (Nx hi fun l hl=>by rw[hc,hd];exact he l hl)
def vn (a b:Nat->Rat) (i k:Nat):Nat->Rat
 |0=>1/(a k-b i)
 |m+1=>if m=i then(if m=k then vn a b i k m*((a k-b m)*(a m-b i))else vn a b i k m*((a k-b m)*(a m-b i))/(a k-a m))
  else(if m=k then vn a b i k m*((a k-b m)*(a m-b i))else vn a b i k m*((a k-b m)*(a m-b i))/(a k-a m))/(b m-b i)
structure uR (n:Nat) (a b:Nat->Rat):Prop where
 ia:j9 a n
 ib:j9 b n
 ne:∀i k,i<n->k<n->a i≠b k
theorem mC {a b:Rat} (h:a≠b):a-b≠0:=fun e=>h (by grind)
theorem uR.da {n:Nat} {a b:Nat->Rat} (h:uR n a b) {i k:Nat} (hi:i<n) (hk:k<n) (e:i≠k):a i-a k≠0:=mC fun c=>e (h.ia i k hi hk c)
theorem uR.dx {n:Nat} {a b:Nat->Rat} (h:uR n a b) {i k:Nat} (hi:i<n) (hk:k<n):a i-b k≠0:=mC (h.ne i k hi hk)
theorem uR.db {n:Nat} {a b:Nat->Rat} (h:uR n a b) {i k:Nat} (hi:i<n) (hk:k<n) (e:i≠k):b i-b k≠0:=mC fun c=>e (h.ib i k hi hk c)
theorem jL {a b:Rat} (ha:a≠0) (hb:b≠0):a*b≠0:=fun e=>(Rat.mul_eq_zero.1 e).elim ha hb
theorem OH (x u u' q q' s t z w:Rat) (hq:q≠0) (hq':q'≠0) (hz:z≠0) (hw:w≠0):x*(u*u'/(q*q'))*(s*t)/z/w=x*(u*s*(u'*t)/(q*z*(q'*w))):=by
 have h1:=jL hq hq'
 have h2:=jL (jL hq hz) (jL hq' hw)
 have h3:=jL hz hw
 have e1:x*(u*u'/(q*q'))*(s*t)/z/w=x*(u*u')*(s*t)/(q*q'*(z*w)):=by
  have:=jL h1 h3
  grind
 have e2:x*(u*s*(u'*t)/(q*z*(q'*w)))=x*(u*u')*(s*t)/(q*z*(q'*w)):=by grind
 rw[e1,e2]
 congr 1
 grind
theorem N1 {n:Nat} {a b:Nat->Rat} (h:uR n a b) {i k:Nat} (hi:i<n) (hk:k<n):∀m,m<=n->
  vn a b i k m=1/(a k-b i)*(pm m (fun t=>a k-b t)*pm m (fun t=>a t-b i)/(fo m k (fun t=>a k-a t)*fo m i (fun t=>b t-b i))):=by
 intro m
 induction m with
 |zero=>intro _;simp only[vn,pm,fo];grind
 |succ m ih=>
  intro hm
  have ih:=ih qO
  have x0:=h.dx hk hi
  have q1:fo m k (fun t=>a k-a t)≠0:=uz fun t ht e=>h.da hk qO (Ne.symm e)
  have q2:fo m i (fun t=>b t-b i)≠0:=uz fun t ht e=>h.db qO hi e
  simp only[vn]
  by_cases e1:m=i
  ·rw[if_pos e1]
   have s2:fo (m+1) i (fun t=>b t-b i)=fo m i (fun t=>b t-b i):=by subst e1;rw[kx,xG (Nat.le_refl _)]
   rw[s2]
   by_cases e2:m=k
   ·have s1:fo (m+1) k (fun t=>a k-a t)=fo m k (fun t=>a k-a t):=by subst e2;rw[kx,xG (Nat.le_refl _)]
    rw[if_pos e2,s1,ih];simp only[pm]
    generalize fo m k (fun t=>a k-a t)=q at q1
    generalize fo m i (fun t=>b t-b i)=q' at q2
    grind
   ·have z:=h.da hk (show m<n by omega) (Ne.symm e2)
    rw[if_neg e2,lZ (n:=m) (k:=k) e2,ih];simp only[pm]
    generalize fo m k (fun t=>a k-a t)=q at q1
    generalize fo m i (fun t=>b t-b i)=q' at q2
    generalize pm m (fun t=>a k-b t)=u
    generalize pm m (fun t=>a t-b i)=u'
    generalize a k-a m=z' at z
    generalize 1/(a k-b i)=x0
    grind
  ·have w:=h.db (show m<n by omega) hi e1
   rw[if_neg e1,lZ (n:=m) (k:=i) e1]
   by_cases e2:m=k
   ·have s1:fo (m+1) k (fun t=>a k-a t)=fo m k (fun t=>a k-a t):=by subst e2;rw[kx,xG (Nat.le_refl _)]
    rw[if_pos e2,s1,ih];simp only[pm]
    generalize fo m k (fun t=>a k-a t)=q at q1
    generalize fo m i (fun t=>b t-b i)=q' at q2
    grind
   ·have z:=h.da hk (show m<n by omega) (Ne.symm e2)
    rw[if_neg e2,lZ (n:=m) (k:=k) e2,ih];simp only[pm]
    generalize fo m k (fun t=>a k-a t)=q at q1
    generalize fo m i (fun t=>b t-b i)=q' at q2
    generalize pm m (fun t=>a k-b t)=u
    generalize pm m (fun t=>a t-b i)=u'
    exact OH _ _ _ _ _ _ _ _ _ q1 q2 z w
theorem parts {n:Nat} {b:Nat->Rat} (hb:j9 b n) {g:Rat->Rat} (hn:1<=n) (hg:gu (n-1) g) {x:Rat} (hx:∀k,k<n->x≠b k):
  sm n (fun k=>1/(x-b k)*(g (b k)/fo n k fun t=>b t-b k))= -(g x/pm n fun t=>b t-x):=by
 obtain⟨m,rfl⟩:∃m,n=m+1:=⟨n-1,qO⟩
 have hnz:∀k,k<m+1->(fo (m+1) k fun t=>b t-b k)≠0:=fun k hk=>uz fun t ht e=>mC fun c=>e (hb t k ht hk c)
 have key:=gu.eq (g:=fun X=>sm (m+1) fun k=>g (b k)/(fo (m+1) k fun t=>b t-b k)*fo (m+1) k fun t=>b t-X) (gu.sum (m+1) fun k hk=>(gu.fo b k m hk).smul _) hg hb (fun l hl=>by
  show(sm (m+1) fun k=>g (b k)/(fo (m+1) k fun t=>b t-b k)*fo (m+1) k fun t=>b t-b l)=g (b l)
  have:(sm (m+1) fun k=>g (b k)/(fo (m+1) k fun t=>b t-b k)*fo (m+1) k fun t=>b t-b l)=sm (m+1) fun k=>g (b k)*(if k=l then 1 else 0):=aX fun k hk=>by
   by_cases e:k=l
   ·subst e;rw[if_pos rfl];have:=hnz k hk;grind
   ·rw[if_neg e,zZ (f:=fun t=>b t-b l) (l:=l) hl (Ne.symm e) (by grind)];grind
  rw[this];exact qU hl _) x
 have hp:pm (m+1) (fun t=>b t-x)≠0:=zY fun t ht=>mC fun c=>hx t ht c.symm
 have key:(sm (m+1) fun k=>g (b k)/(fo (m+1) k fun t=>b t-b k)*fo (m+1) k fun t=>b t-x)=g x:=key
 rw[<-key]
 have:(sm (m+1) fun k=>g (b k)/(fo (m+1) k fun t=>b t-b k)*fo (m+1) k fun t=>b t-x)= -(pm (m+1) fun t=>b t-x)*sm (m+1) (fun k=>1/(x-b k)*(g (b k)/fo (m+1) k fun t=>b t-b k)):=by
  rw[<-c8]
  refine aX fun k hk=>?_
  rw[pG hk]
  have h1:=hnz k hk
  have h2:x-b k≠0:=mC (hx k hk)
  generalize(fo (m+1) k fun t=>b t-x)=u
  generalize(fo (m+1) k fun t=>b t-b k)=v at h1
  generalize g (b k)=y
  generalize b k=z at h2
  grind
 rw[this]
 generalize(sm (m+1) fun k=>1/(x-b k)*(g (b k)/fo (m+1) k fun t=>b t-b k))=S
 generalize pm (m+1) (fun t=>b t-x)=p at hp
 grind
theorem I1 {n:Nat} {a b:Nat->Rat} (h:uR n a b) {i j:Nat} (hi:i<n) (hj:j<n):sm n (fun k=>1/(a i-b k)*vn a b k j n)=if i=j then 1 else 0:=by
 have d1:fo n j (fun t=>a j-a t)≠0:=uz fun t ht e=>h.da hj ht (Ne.symm e)
 have q:=parts h.ib (show 1<=n by omega) (g:=fun X=>fo n j fun t=>a t-X) (by
  obtain⟨m,rfl⟩:∃m,n=m+1:=⟨n-1,qO⟩
  exact gu.fo a j m hj) (x:=a i) fun k hk=>h.ne i k hi hk
 have e:sm n (fun k=>1/(a i-b k)*vn a b k j n)=(pm n (fun t=>a j-b t)/fo n j fun t=>a j-a t)*sm n (fun k=>1/(a i-b k)*((fo n j fun t=>a t-b k)/fo n k fun t=>b t-b k)):=by
  rw[<-c8]
  refine aX fun k hk=>?_
  rw[N1 h hk hj n (Nat.le_refl _),pG (f:=fun t=>a t-b k) hj]
  have d2:fo n k (fun t=>b t-b k)≠0:=uz fun t ht e=>h.db ht hk e
  have x1:=h.dx hj hk
  have x2:=h.dx hi hk
  generalize fo n k (fun t=>b t-b k)=u at d2
  generalize fo n j (fun t=>a j-a t)=v at d1
  generalize fo n j (fun t=>a t-b k)=w
  generalize pm n (fun t=>a j-b t)=p
  generalize a j-b k=s at x1
  generalize a i-b k=r at x2
  grind
 rw[e,q]
 by_cases c:i=j
 ·subst c
  rw[if_pos rfl]
  have hp:pm n (fun t=>a i-b t)≠0:=zY fun t ht=>h.dx hi ht
  have n1:pm n (fun t=>b t-a i)=pm n (fun _=> -1)*pm n (fun t=>a i-b t):=by rw[<-Hq];exact kg fun t _=>by grind
  have n2:(fo n i fun t=>a t-a i)= -(pm n (fun _=> -1))*fo n i (fun t=>a i-a t):=by
   rw[<-KW hi];exact kg fun t _=>by
    by_cases c:t=i
    ·rw[if_pos c,if_pos c]
    ·rw[if_neg c,if_neg c];grind
  show _* -((fo n i fun t=>a t-a i)/_)=_
  rw[n1,n2]
  have s:=MJ n
  generalize pm n (fun _=> -1)=s0 at s
  generalize pm n (fun t=>a i-b t)=p at hp
  generalize fo n i (fun t=>a i-a t)=v at d1
  have:s0≠0:=fun e=>by rw[e]at s;grind
  grind
 ·rw[if_neg c]
  show _* -((fo n j fun t=>a t-a i)/_)=_
  rw[zZ (f:=fun t=>a t-a i) (l:=i) hi c (by grind)];grind
end
section

def gs (A:Nat->Nat->Rat):Nat->Nat->Nat->Rat
 |0=>A
 |k+1=>fa (gs A k) k k
def wi (A:Nat->Nat->Rat) (k:Nat):Rat:=gs A k k k
theorem DJ {A:Nat->Nat->Rat} {k i j:Nat} (h1:k<i) (h2:k<=j):gs A (k+1) i j=gs A k i j-gs A k i k/gs A k k k*gs A k k j:=oF h1 h2
theorem rF {A:Nat->Nat->Rat} {k i j:Nat} (h:i<=k\/j<k):gs A (k+1) i j=gs A k i j:=fe h
theorem M0 {A:Nat->Nat->Rat} {i j:Nat}:∀d,gs A (i+d) i j=gs A i i j:=by
 intro d
 induction d with
 |zero=>rfl
 |succ d ih=>rw[<-ih,<-Nat.add_assoc];exact rF (.inl qO)
theorem Kv {A:Nat->Nat->Rat} {i j k:Nat} (h:i<=k):gs A k i j=gs A i i j:=by
 obtain⟨d,rfl⟩:∃d,k=i+d:=⟨k-i,qO⟩
 exact M0 d
theorem CL {A:Nat->Nat->Rat} {K:Nat} (hp:∀t,t<K->wi A t≠0):∀k,k<=K->∀i t,t<k->t<i->gs A k i t=0:=by
 intro k
 induction k with
 |zero=>intro _ i t ht;exact absurd ht (Nat.not_lt_zero _)
 |succ k ih=>
  intro hk i t ht hti
  by_cases e:t=k
  ·subst e
   rw[DJ hti (Nat.le_refl _)]
   have:gs A t t t≠0:=hp t qO
   generalize gs A t i t=x
   generalize gs A t t t=y at this
   grind
  ·rw[rF (.inr qO)];exact ih qO i t qO hti
theorem MU {A:Nat->Nat->Rat} {K:Nat} (hp:∀t,t<K->wi A t≠0) {k i j:Nat} (hk:k<=K) (hi:k<i):gs A (k+1) i j=gs A k i j-gs A k i k/gs A k k k*gs A k k j:=by
 by_cases h:k<=j
 ·exact DJ hi h
 ·rw[rF (.inr qO),CL hp k hk k j qO qO];grind
def fT (A:Nat->Nat->Rat) (i j:Nat):Rat:=if i=j then 1 else if j<i then gs A j i j/gs A j j j else 0
def iJ (A:Nat->Nat->Rat) (i j:Nat):Rat:=if j<i then 0 else gs A i i j
theorem CC {A:Nat->Nat->Rat} {K i:Nat} (hp:∀t,t<K->wi A t≠0) (hi:i<=K) (j:Nat):iJ A i j=gs A i i j:=by
 unfold iJ
 by_cases h:j<i
 ·rw[if_pos h,CL hp i hi i j h h]
 ·rw[if_neg h]
theorem G6 {A:Nat->Nat->Rat} (i:Nat):iJ A i i=wi A i:=by unfold iJ;rw[if_neg (Nat.lt_irrefl i)];rfl
theorem J0 {A:Nat->Nat->Rat} {n:Nat} (hp:∀t,t<n->wi A t≠0) {i j:Nat} (hi:i<n):∀k,k<=i->sm k (fun t=>iJ A t j*fT A i t)=A i j-gs A k i j:=by
 intro k
 induction k with
 |zero=>intro _;show(0:Rat)=A i j-A i j;grind
 |succ k ih=>
  intro hk
  show sm k _+iJ A k j*fT A i k=_
  rw[ih qO,MU hp (show k<=n by omega) (show k<i by omega),CC hp (show k<=n by omega)]
  have:fT A i k=gs A k i k/gs A k k k:=by unfold fT;rw[if_neg qO,if_pos qO]
  rw[this];grind
theorem Ni {A:Nat->Nat->Rat} {n:Nat} (hp:∀t,t<n->wi A t≠0) {i j:Nat} (hi:i<n) (hj:j<n):mulM n (fT A) (iJ A) i j=A i j:=by
 show sm n (fun t=>iJ A t j*fT A i t)=A i j
 obtain⟨d,hd⟩:∃d,n=(i+1)+d:=⟨n-(i+1),qO⟩
 rw[hd,kk]
 have z:sm d (fun e=>iJ A (i+1+e) j*fT A i (i+1+e))=0:=fF fun e _=>by
  have:fT A i (i+1+e)=0:=by unfold fT;rw[if_neg qO,if_neg qO]
  rw[this];exact Rat.mul_zero _
 rw[z]
 show sm i _+iJ A i j*fT A i i+0=_
 rw[J0 hp hi i (Nat.le_refl _),CC hp (show i<=n by omega)]
 have:fT A i i=1:=if_pos rfl
 rw[this];grind
theorem Py {A:Nat->Nat->Rat} {m:Nat}:∀j,j<=m->(∀t,t<j->wi A t≠0)->elim m A j=⟨gs A j,pm j (wi A),j⟩:=by
 intro j
 induction j with
 |zero=>intro _ _;rfl
 |succ j ih=>
  intro hj hp
  have e:=ih qO fun t ht=>hp t qO
  have h1:(elim m A j).r=j:=by rw[e]
  have hA:(elim m A j).A=gs A j:=by rw[e]
  have hpv:pv (elim m A j).A j m j=j:=vJ (Nat.le_refl _) qO (fun i h1 h2=>qO) (.inr (by rw[hA];exact hp j qO))
  rw[gY h1 (by rw[hpv];omega),hpv,if_pos rfl,nj,hA]
  have hd:(elim m A j).gR=pm j (wi A):=by rw[e]
  rw[hd];rfl
def Ls (A:Nat->Nat->Rat) (n:Nat):Nat->Nat
 |0=>n
 |d+1=>if wi A (n-(d+1))=0 then n-(d+1)else Ls A n d
def zX (A:Nat->Nat->Rat) (n:Nat):Nat:=Ls A n n
theorem Jb {A:Nat->Nat->Rat} {n:Nat}:∀d,d<=n->n-d<=Ls A n d/\Ls A n d<=n/\(∀t,n-d<=t->t<Ls A n d->wi A t≠0)/\(Ls A n d<n->wi A (Ls A n d)=0):=by
 intro d
 induction d with
 |zero=>intro _;simp only[Ls];exact⟨qO,Nat.le_refl _,fun t h1 h2=>qO,fun h=>absurd h (Nat.lt_irrefl _)⟩
 |succ d ih=>
  intro hd
  obtain⟨h1,h2,h3,h4⟩:=ih qO
  simp only[Ls]
  by_cases e:wi A (n-(d+1))=0
  ·rw[if_pos e];exact⟨Nat.le_refl _,qO,fun t h1 h2=>qO,fun _=>e⟩
  ·rw[if_neg e]
   refine⟨qO,h2,fun t h5 h6=>?_,h4⟩
   by_cases et:t=n-(d+1)
   ·rw[et];exact e
   ·exact h3 t qO h6
theorem vU (A:Nat->Nat->Rat) (n:Nat):zX A n<=n/\(∀t,t<zX A n->wi A t≠0)/\(zX A n<n->wi A (zX A n)=0):=by
 obtain⟨h1,h2,h3,h4⟩:=Jb (A:=A) (n:=n) n (Nat.le_refl _)
 exact⟨h2,fun t ht=>h3 t qO ht,h4⟩
end
theorem pb:ae Tryz.prog 218 [] (.p (aB 0)) []:=by
 refine aW Tryz.func218 ?_
 refine ab.pure ?_
 rw[e8]
 exact iY ⟨rfl,rfl,rfl⟩ (.p _ (.bool _)) (.p _ (.sl _ _ (fun e he=>by simp at he))) (ka rfl)
theorem JJ:ae Tryz.prog 233 [] (.p (aB 1)) []:=by
 refine aW Tryz.func233 ?_
 refine ab.pure ?_
 rw[jd]
 exact iY ⟨rfl,rfl,rfl⟩ (.p _ (.bool _)) (ka rfl) (ka rfl)
theorem FO (i k:Nat):ae Tryz.prog 232 [cI i k] (.p (.bool (decide (i=k)))) []:=by
 refine aW Tryz.func232 ?_
 refine aK.mk 0 rfl qD ?_
 refine aK.mk 0 rfl qD ?_
 refine ao.sym ?_
 have:(((i:Int)==(i:Int))&&(((k:Int)==(i:Int))&&true))=decide (i=k):=by
  by_cases e:i=k
  ·subst e;simp
  ·rw[decide_eq_false e,beq_eq_false_iff_ne.2 (show(k:Int)≠i by omega)];simp
 rw[this]
 exact ab.pure (.p _ (.bool _))
def Nk (A:Nat->Nat->Rat) (i j:Nat):Rat:=gs A j i j/gs A j j j
abbrev L9 (A:Nat->Nat->Rat) (k d:Nat):PV×PV:=(cI (k+1+d) k,aB (Nk A (k+1+d) k))
def oA (A:Nat->Nat->Rat) (n:Nat):Nat->List (PV×PV)
 |0=>[]
 |k+1=>oA A n k++fl (n-1-k) (L9 A k)
theorem qo {A:Nat->Nat->Rat} {n:Nat}:∀k,k<=n->∀e∈oA A n k,∃i j,e=(cI i j,aB (Nk A i j))/\j<k/\j<i/\i<n:=by
 intro k
 induction k with
 |zero=>intro _ e he;simp[oA]at he
 |succ k ih=>
  intro hk e he
  rcases List.mem_append.1 he with he|he
  ·obtain⟨i,j,h1,h2,h3,h4⟩:=ih qO e he
   exact⟨i,j,h1,qO,h3,h4⟩
  ·obtain⟨d,hd,rfl⟩:=dX he
   exact⟨k+1+d,k,rfl,qO,qO,qO⟩
theorem MN {A:Nat->Nat->Rat} {n i j:Nat} (hji:j<i) (hin:i<n):∀k,k<=n->j<k->∃a:Nat,(oA A n k)[a]?=some (cI i j,aB (Nk A i j))/\∀(b:Nat) e',b≠a->(oA A n k)[b]?=some e'->PV.iZ (cI i j) e'.1=false:=by
 intro k
 induction k with
 |zero=>intro _ h;exact absurd h (Nat.not_lt_zero _)
 |succ k ih=>
  intro hk hj
  simp only[oA]
  by_cases e:j=k
  ·subst e
   refine⟨(oA A n j).length+(i-(j+1)),?_,fun b e' hb he=>?_⟩
   ·rw[List.getElem?_append_right qO,show(oA A n j).length+(i-(j+1))-(oA A n j).length=i-(j+1) by omega,dM qO]
    simp only[L9]
    rw[show j+1+(i-(j+1))=i by omega]
   ·by_cases hl:b<(oA A n j).length
    ·rw[List.getElem?_append_left hl]at he
     obtain⟨i',j',rfl,h2,_,_⟩:=qo j qO e' (List.mem_of_getElem? he)
     rw[dc];exact decide_eq_false fun h=>qO
    ·rw[List.getElem?_append_right qO]at he
     obtain⟨hd,rfl⟩:=cu.1 he
     rw[dc];exact decide_eq_false fun h=>qO
  ·obtain⟨a,h1,h2⟩:=ih qO qO
   have hl:=(List.getElem?_eq_some_iff.1 h1).1
   refine⟨a,by rw[List.getElem?_append_left hl];exact h1,fun b e' hb he=>?_⟩
   by_cases hl:b<(oA A n k).length
   ·rw[List.getElem?_append_left hl]at he;exact h2 b e' hb he
   ·rw[List.getElem?_append_right qO]at he
    obtain⟨hd,rfl⟩:=cu.1 he
    rw[dc];exact decide_eq_false fun h=>qO
theorem bn.tk {b:PV->Bool} {A:Nat->Nat->Rat} {n k d:Nat} {K:Prop} (hk:k<=n) (hb:∀i k:Nat,b (cI i k)=true) (hK:K):bn b (oA A n k++fl d (L9 A k)) K:=
 .mk (fun e he=>by
  rcases List.mem_append.1 he with he|he
  ·obtain⟨i,j,rfl,_⟩:=qo k hk e he;exact hb _ _
  ·obtain⟨d,hd,rfl⟩:=dX he;exact hb _ _) hK
theorem dZ.tk {A:Nat->Nat->Rat} {n k d:Nat} {v:PV} {K:List (PV×PV)->Prop} (hk:k<=n) (hv:v=aB (Nk A (k+1+d) k)) (hK:K (oA A n k++fl (d+1) (L9 A k))):dZ (oA A n k++fl d (L9 A k)) (cI (k+1+d) k) v K:=by
 subst hv
 refine .new _ (fun e he=>?_) (by rw[List.append_assoc,oH]) hK
 rcases List.mem_append.1 he with he|he
 ·obtain⟨i,j,rfl,h2,_,_⟩:=qo k hk e he
  rw[dc];exact decide_eq_false fun h=>qO
 ·obtain⟨d',hd,rfl⟩:=dX he
  rw[dc];exact decide_eq_false fun h=>qO
theorem C8 {A:Nat->Nat->Rat} {n k:Nat} (hk:k<=n):∀e∈oA A n k,ct e.1/\ct e.2:=fun e he=>by
 obtain⟨i,j,rfl,_⟩:=qo k hk e he
 exact⟨qb _ _,aG _ _ _⟩
theorem BZ {n:Nat} {f g:Nat->Nat->Rat} (h:∀i k,i<n->k<n->f i k=g i k):ff n f (n*n)=ff n g (n*n):=aU fun t ht=>by
 have n0:0<n:=by rcases Nat.eq_zero_or_pos n with h|h;rw[h]at ht;simp at ht;exact h
 rw[h _ _ (Nat.div_lt_of_lt_mul ht) (Nat.mod_lt _ n0)]
abbrev He (n:Nat) (l t:Nat):List AV:=[.p (.int .i64 (n:Int)),.map (.t l),.map (.t t)]
abbrev HL (n:Nat) (left took:List (PV×PV)):List aA:=[.box 222 (He n 1 2),.map left,.map took]
theorem HP (m m':Bool) (n:Nat) (A:Nat->Nat->Rat) (hn:n<=1000):ae Tryz.prog 212 [cn m m' n n A] (.aC 0 0) (HL n (ff n A (n*n)) []):=by
 refine aW Tryz.func212 ?_
 refine SZ.mk (n:Int) qS ?_
 refine SZ.mk (n:Int) qS ?_
 refine aJ.mk Nat (fun i=>([(3,.aC 2 0),(14,.p (cn m m' n n A)),(15,.p (.int .i64 n)),(16,.p (.int .i64 i))],[.map (ff n A (i*n)),.map [],.box 222 (He n 0 1)]))
  (fun i=>i<=n) (fun i=>n-i) 0 [0,1,2] (Nat.zero_le _) (aY ⟨by rw[Nat.zero_mul];rfl,rfl,rfl,trivial⟩) ?_
 intro i (hi:i<=n)
 by_cases hin:i<n
 ·refine bo ?_
  refine aF.mf i rfl hin ?_
  refine SZ.mk (n:Int) (by simp[aH]) ?_
  refine aJ.mk Nat (fun k=>([(3,.aC 2 0),(4,.p (.int .i64 i)),(14,.p (cn m m' n n A)),(15,.p (.int .i64 n)),(16,.p (.int .i64 i)),(21,.p (ar m' (aH n (A i)))),(22,.p (.int .i64 n)),(23,.p (.int .i64 k))],[.map (ff n A (i*n+k)),.map [],.box 222 (He n 0 1)]))
   (fun k=>k<=n) (fun k=>n-k) 0 [0,1,2] (Nat.zero_le _) aY ?_
  intro k (hk:k<=n)
  by_cases hkn:k<n
  ·refine bo ?_
   refine aF.rf k rfl hkn ?_
   refine cS ?_
   repeat refine aq ?_
   refine ag (bn.nW (fun _ _=>rfl)<|dZ.nW hkn rfl af) ?_
   refine cX ?_
   refine a5 (k+1) ?_
   exact⟨k+1,[0,1,2],hkn,cA,aY⟩
  ·refine bd ?_
   obtain rfl:k=n:=qO
   refine a5 (i+1) ?_
   exact⟨i+1,[0,1,2],hin,cA,aY ⟨congrArg (fun q=>aA.map (ff k A q)) (Nat.succ_mul i k),rfl,rfl,trivial⟩⟩
 ·refine bd ?_
  obtain rfl:i=n:=qO
  refine ab.mk [2,0,1] rfl qD rfl (Nat.zero_le _) (fun h hl=>by rw[bI]at hl;exact hl.elim) (fun h hl=>absurd (bI h) hl) (fun a h B e1 e2=>?_) (.aC rfl)
  match a,e1,e2 with
  |0,e1,e2=>
   cases e1;cases e2
   refine .box (cs:=He i 0 1) (fun d hd=>by simp only[He,List.mem_cons,List.not_mem_nil,or_false]at hd;rcases hd with rfl|rfl|rfl<;>rfl) rfl fun b c d e1 e2=>?_
   match b,e1,e2 with
   |0,e1,e2=>cases e1;cases e2;exact .p _ (.int _ _)
   |1,e1,e2=>cases e1;cases e2;exact .map rfl
   |2,e1,e2=>cases e1;cases e2;exact .map rfl
  |1,e1,e2=>cases e1;cases e2;exact .map kj
  |2,e1,e2=>cases e1;cases e2;exact .map (fun e he=>by simp at he)
theorem xQ (p:Rat) {j:Nat} (hp:Sz p j) (h:j<=137438953472):ae Tryz.prog 45 [aB p,aB 0] (.bK [.p cU,.p (.int .i64 5)]) []:=by
 have h1:=hp.n
 have h2:=hp.d
 have z0:=(cB.mono (show 1<=1 by decide)).sz
 have z1:=z0.n
 have z2:=z0.d
 have hl:=GX (decide (p.num<0) !=decide ((0:Rat).num<0)) false false (p.num.natAbs*(0:Rat).den)
 refine aW Tryz.func45 ?_
 refine gx ?_
 repeat refine aq ?_
 refine ag (ao.sym af) ?_
 repeat refine aq ?_
 refine ag (aa.pure (f8 false false p.num.natAbs (0:Rat).den qO qO) af) ?_
 repeat refine aq ?_
 refine ag (aa.pure (f8 false false p.den (0:Rat).num.natAbs qO qO) af) ?_
 refine ag (aa.aO hl (fun _=>rfl) af) ?_
 repeat refine aq ?_
 exact eT (.p _ (by have:=aG false 0 0;rw[gX]at this;exact this)) (.p _ (.int _ _))
theorem DE {a x:Nat->Rat} {s:Rat} {lo bs ba bx:Nat} {d:Nat} (hs:Bz s bs) (ha:∀j,lo<=j->j<lo+d->Bz (a j) ba) (hx:∀j,lo<=j->j<lo+d->Bz (x j) bx):Bz (sb a x s lo d) (bs+d*(ba+bx+1)):=by
 induction d with
 |zero=>exact hs.mono qO
 |succ d ih=>
  have ih:=ih (fun j h1 h2=>ha j h1 qO) fun j h1 h2=>hx j h1 qO
  exact(ih.sub ((ha (lo+d) qO qO).mul (hx (lo+d) qO qO))).mono (by rw[Nat.succ_mul];omega)
theorem C9 (m:Bool) (mx:Bool) (s:Rat) (n:Nat) (a x:Nat->Rat) (g:Nat->PV) (lo hi:Nat) {bs ba bx:Nat} (hn:n<=1000) (hlh:lo<=hi) (hhn:hi<=n) (hg:∀j,lo<=j->j<hi->g j=aB (x j))
  (hs:Bz s bs) (ha:∀j,lo<=j->j<hi->Bz (a j) ba) (hx:∀j,lo<=j->j<hi->Bz (x j) bx) (hb:bs+n*(ba+bx+1)+ba+bx<=100000000000):
  ae Tryz.prog 199 [aB s,ar m (aH n a),.sl mx 3 (fl n g),.int .i64 lo,.int .i64 hi] (.p (aB (sb a x s lo (hi-lo)))) []:=by
 have h0:s+0=s:=by grind
 refine aW Tryz.func199 ?_
 refine cS ?_
 repeat refine aq ?_
 refine ag (aa.pure (pb) af) ?_
 refine ag (aa.pure (eh s 0 hs.sz (cB.mono (show 1<=1 by decide)).sz qO) af) ?_
 repeat refine aq ?_
 refine cX ?_
 rw[h0]
 refine aJ.mk Nat (fun d=>([(1,.p (ar m (aH n a))),(2,.p (.sl mx 3 (fl n g))),(4,.p (.int .i64 hi)),(5,.aC 0 0),(10,.aC 1 0),(11,.p (.int .i64 ((lo+d:Nat):Int)))],[.box 31 (lr (sb a x s lo d)),.box 31 [.p (.bool false),.p (.sl false 1 []),.p (.sl false 1 [])]]))
  (fun d=>lo+d<=hi) (fun d=>hi-d) 0 [0,1] qO aY ?_
 intro d (hd:lo+d<=hi)
 by_cases hdh:lo+d<hi
 ·refine bo ?_
  have z1:=DE (d:=d) hs (fun j h1 h2=>ha j h1 qO) fun j h1 h2=>hx j h1 qO
  have z2:=(ha (lo+d) qO hdh).mul (hx (lo+d) qO hdh)
  have zd:d*(ba+bx+1)<=n*(ba+bx+1):=Nat.mul_le_mul_right _ qO
  refine cS ?_
  repeat refine aq ?_
  refine ag (aF.rf (lo+d) rfl qO af) ?_
  repeat refine aq ?_
  refine ag (aF.fl (lo+d) (aB (x (lo+d))) rfl qO (hg (lo+d) qO hdh) af) ?_
  repeat refine aq ?_
  refine ag (aa.pure (cE _ _ (ha (lo+d) qO hdh).sz (hx (lo+d) qO hdh).sz qO) af) ?_
  refine ag (aa.pure (dh _ _ z1.sz z2.sz qO) af) ?_
  repeat refine aq ?_
  refine cX ?_
  refine a5 (lo+(d+1)) ?_
  exact⟨d+1,[0,1],hdh,cA,aY⟩
 ·refine bd ?_
  obtain rfl:d=hi-lo:=qO
  exact ab.pure (.p _ (aG _ _ _))
def yN (A:Nat->Nat->Rat) (y:Nat->Rat):Nat->Nat->Rat
 |0=>y
 |i+1=>A i
def Di (m q:Bool) (n:Nat) (A:Nat->Nat->Rat) (y:Nat->Rat) (i:Nat):PV:=ar (if i=0 then q else m) (aH n (yN A y i))
theorem Hk {m q:Bool} {n k:Nat} {A:Nat->Nat->Rat} {y:Nat->Rat}:[ar q (aH n y)]++(fl k fun i=>ar m (aH n (A i)))=fl (k+1) (Di m q n A y):=by
 apply List.ext_getElem?
 intro i
 match i with
 |0=>rw[dM qO];rfl
 |i+1=>
  rw[List.getElem?_append_right qS]
  show(fl k _)[i+1-1]?=_
  rw[Nat.add_sub_cancel]
  by_cases h:i<k
  ·rw[dM h,dM qO];rfl
  ·rw[List.getElem?_eq_none (by simp;omega),List.getElem?_eq_none (by simp;omega)]
theorem vR (m m' q:Bool) (n:Nat) (A:Nat->Nat->Rat) (y:Nat->Rat) {b:Nat} (hn:n<=900) (hA:∀i j,i<n->j<n->Bz (A i j) b) (hy:∀i,i<n->Bz (y i) b) (hb:b<=100000000000):
  ae Tryz.prog 198 [cn m m' n n A,ar q (aH n y)] (.p (.bool true)) []:=by
 have zR:∀i j,i<n+1->j<n->Bz (yN A y i j) b:=fun i j hi hj=>by
  match i with
  |0=>exact hy j hj
  |i+1=>exact hA i j qO hj
 refine aW Tryz.func198 ?_
 refine iq.mk qS ?_
 refine cG.mk (by simp;omega) (by simp;omega) ?_
 refine dp.mk (fl (n+1) (Di m' q n A y)) Hk ?_
 refine pa.mk (n+1) (by simp;omega) ?_
 refine SZ.mk ((n+1:Nat):Int) rfl ?_
 refine aJ.mk Nat (fun i=>([(0,.p (cn m m' n n A)),(14,.vec 0 1 0 (n+1)),(15,.p (.int .i64 ((n+1:Nat):Int))),(16,.p (.int .i64 i))],[.vec 24 1 (fl (n+1) (Di m' q n A y))]))
  (fun i=>i<=n+1) (fun i=>n+1-i) 0 [1] (Nat.zero_le _) aY ?_
 intro i (hi:i<=n+1)
 by_cases hin:i<n+1
 ·refine bo ?_
  refine aK.mk i rfl hin ?_
  refine aF.fl (i+0) (ar (if i=0 then q else m') (aH n (yN A y i))) rfl qO rfl ?_
  generalize(if i=0 then q else m')=f
  refine SZ.mk (n:Int) (by simp[aH]) ?_
  refine SZ.mk (n:Int) qS ?_
  refine ao.no (uQ rfl) ?_
  refine SZ.mk (n:Int) (by simp[aH]) ?_
  refine aJ.mk Nat (fun j=>([(0,.p (cn m m' n n A)),(14,.vec 0 1 0 (n+1)),(15,.p (.int .i64 ((n+1:Nat):Int))),(16,.p (.int .i64 i)),(25,.p (ar f (aH n (yN A y i)))),(26,.p (.int .i64 n)),(27,.p (.int .i64 j))],[.vec 24 1 (fl (n+1) (Di m' q n A y))]))
   (fun j=>j<=n) (fun j=>n-j) 0 [0] (Nat.zero_le _) aY ?_
  intro j (hj:j<=n)
  by_cases hjn:j<n
  ·refine bo ?_
   refine aF.rf j rfl hjn ?_
   refine aa.pure (gj (yN A y i j) (zR i j hin hjn).sz qO) ?_
   refine cJ ?_
   refine a5 (j+1) ?_
   exact⟨j+1,[0],hjn,cA,aY⟩
  ·refine bd ?_
   refine a5 (i+1) ?_
   exact⟨i+1,[0],hin,cA,aY⟩
 ·refine bd ?_
  exact ab.pure (.tf _)
def jB (L:Nat->Nat->Rat) (b:Nat->Rat):Nat->Nat->Rat
 |0=>fun _=>0
 |k+1=>a8 (jB L b k) k (sb (L k) (jB L b k) (b k) 0 k)
theorem pZ {n:Nat} {f:Nat->Rat}:a7 (aH n f)=fl n fun k=>if k<n then aB (f k)else cU:=by
 rw[a7,Cs,wO];exact aU fun k hk=>(if_pos hk).symm
theorem K5 {L:Nat->Nat->Rat} {b:Nat->Rat} {n i:Nat} (hi:i<n):
  (fl n fun k=>if k<i then aB (jB L b i k)else cU).set (i+0) (aB (sb (L i) (jB L b i) (b i) 0 (i-0)))=fl n fun k=>if k<i+1 then aB (jB L b (i+1) k)else cU:=by
 rw[gF]
 refine aU fun k hk=>?_
 simp only[a8,jB,Nat.add_zero,Nat.sub_zero]
 by_cases e:k=i
 ·rw[if_pos e,if_pos qO,if_pos e]
 ·rw[if_neg e,if_neg e]
  by_cases e2:k<i
  ·rw[if_pos e2,if_pos qO]
  ·rw[if_neg e2,if_neg qO]
theorem t7 (m m' q:Bool) (n:Nat) (L:Nat->Nat->Rat) (b:Nat->Rat) {D X:Nat} (hn:n<=900) (hL:∀i j,i<n->j<n->Bz (L i j) D) (hb:∀i,i<n->Bz (b i) D) (hX:∀k,k<=n->∀i,i<k->Bz (jB L b k i) X) (hD:D+n*(D+X+1)+D+X<=100000000000):
  ae Tryz.prog 185 [cn m m' n n L,ar q (aH n b)] (.p (ar false (aH n (jB L b n)))) []:=by
 refine aW Tryz.func185 ?_
 refine aa.pure (vR m m' q n L b hn hL hb qO) ?_
 refine cJ ?_
 refine SZ.mk (n:Int) (by simp[aH]) ?_
 refine SZ.mk (n:Int) rfl ?_
 refine cm.mk qS ?_
 refine cy.rat n rfl qO ?_
 refine SZ.mk (n:Int) rfl ?_
 refine aJ.mk Nat (fun i=>([(0,.p (cn m m' n n L)),(1,.p (ar q (aH n b))),(5,.vec 0 3 0 n),(15,.p (.int .i64 n)),(16,.p (.int .i64 i))],[.vec 31 3 (fl n fun k=>if k<i then aB (jB L b i k)else cU)]))
  (fun i=>i<=n) (fun i=>n-i) 0 [0] (Nat.zero_le _) (aY ⟨congrArg _ ((aU fun k hk=>if_neg qO).trans (bQ n cU).symm),trivial⟩) ?_
 intro i (hi:i<=n)
 by_cases hin:i<n
 ·refine bo ?_
  have hl:=C9 m' true (b i) n (L i) (jB L b i) (fun k=>if k<i then aB (jB L b i k)else cU) 0 i qO (Nat.zero_le _) hi (fun j _ h=>if_pos h) (hb i hin) (fun j _ h=>hL i j hin qO) (fun j _ h=>hX i hi j h) hD
  refine cS ?_
  repeat refine aq ?_
  refine ag (aF.rf i rfl hin af) ?_
  repeat refine aq ?_
  refine ag (aF.mf i rfl hin af) ?_
  repeat refine aq ?_
  refine ag (bl.all qS<|aa.pure (pvs:=[aB (b i),ar m' (aH n (L i)),.sl true 3 (fl n fun k=>if k<i then aB (jB L b i k)else cU),.int .i64 0,.int .i64 i]) hl af) ?_
  refine ag (aK.mk i rfl hin af) ?_
  refine ag (cm.mk (by simp;omega)<|dp.mk _ (K5 hin) af) ?_
  repeat refine aq ?_
  refine cX ?_
  refine a5 (i+1) ?_
  exact⟨i+1,[0],hin,cA,aY⟩
 ·refine bd ?_
  obtain rfl:n=i:=qO
  exact ab.pure (EL (h:=0) (l:=aH n (jB L b n)) (congrArg (aA.vec 31 3) pZ.symm) (by simp[aH]))
def qq (U:Nat->Nat->Rat) (b:Nat->Rat) (n:Nat):Nat->Nat->Rat
 |0=>fun _=>0
 |t+1=>a8 (qq U b n t) (n-1-t) (sb (U (n-1-t)) (qq U b n t) (b (n-1-t)) (n-t) t/U (n-1-t) (n-1-t))
theorem JX {U:Nat->Nat->Rat} {b:Nat->Rat} {n t:Nat} (ht:t<n):
  (fl n fun k=>if n<=k+t then aB (qq U b n t k)else cU).set (n-1-t+0) (aB (sb (U (n-1-t)) (qq U b n t) (b (n-1-t)) (n-t) t/U (n-1-t) (n-1-t)))=fl n fun k=>if n<=k+(t+1)then aB (qq U b n (t+1) k)else cU:=by
 rw[gF]
 refine aU fun k hk=>?_
 simp only[a8,qq,Nat.add_zero]
 by_cases e:k=n-1-t
 ·rw[if_pos e,if_pos qO,if_pos e]
 ·rw[if_neg e,if_neg e]
  by_cases e2:n<=k+t
  ·rw[if_pos e2,if_pos qO]
  ·rw[if_neg e2,if_neg qO]
theorem Mj {A:Nat->Nat->Rat} {n b:Nat} (hA:∀i j,i<n->j<n->Bz (A i j) b):∀k,k<=n->∀i j,i<n->j<n->Bz (gs A k i j) (bb b k):=by
 intro k
 induction k with
 |zero=>intro _ i j hi hj;exact hA i j hi hj
 |succ k ih=>
  intro hk i j hi hj
  have ih:=ih qO
  by_cases c:k<i/\k<=j
  ·rw[DJ c.1 c.2]
   exact((ih i j hi hj).sub (((ih i k hi qO).div (ih k k qO qO)).mul (ih k j qO hj))).mono (by simp only[bb];omega)
  ·rw[rF qO];exact(ih i j hi hj).mono (by simp only[bb];omega)
theorem sk {b j k:Nat} (h:j<=k):bb b j<=bb b k:=Gf (fun k=>wS k) h
def NA (A:Nat->Nat->Rat) (n D:Nat):Prop:=∀k,k<=n->∀i j,i<n->j<n->Bz (gs A k i j) D
theorem Hw {q:Rat} (h:q=0):az q.num.natAbs=0:=by rw[h];exact aw.2 rfl
theorem I5 {q:Rat} (h:q≠0):az q.num.natAbs≠0:=fun e=>h (Rat.num_eq_zero.1 (by have:=aw.1 e;omega))
theorem IQ (A:Nat->Nat->Rat) (n k:Nat) (hk:k<n) (hn:n<=1000) (hp:wi A k=0):
  df Tryz.prog 213 [.aC 0 0,.p (.int .i64 k)] (HL n (ff n (gs A k) (n*n)) (oA A n k)) (.p (.bool false)) (HL n (ff n (gs A k) (n*n)) (oA A n k)):=by
 refine aW Tryz.func213 ?_
 refine bn.nW (fun _ _=>rfl)<|eo.nW hk hk ?_
 refine SZ.mk (az (gs A k k k).num.natAbs:Int) qS ?_
 refine ao.yes (jx (by rw[Hw (show gs A k k k=0 from hp)];rfl)) ?_
 refine ab.p9 rfl
  (fun B hB k=>by simp only[HL,List.mem_cons,List.not_mem_nil,or_false]at hB;rcases hB with rfl|rfl|rfl<;>rfl) (fun i hi=>by
   match i,hi with
   |0,_=>exact trivial
   |1,_=>exact trivial
   |2,_=>exact trivial)
  (fun a B e1=>by
   match a,e1 with
   |0,e1=>
    cases e1
    refine .box (cs:=He n 1 2) (fun d hd=>by simp only[He,List.mem_cons,List.not_mem_nil,or_false]at hd;rcases hd with rfl|rfl|rfl<;>rfl) rfl fun b c d e1 e2=>?_
    match b,e1,e2 with
    |0,e1,e2=>cases e1;cases e2;exact .p _ (.int _ _)
    |1,e1,e2=>cases e1;cases e2;exact .map rfl
    |2,e1,e2=>cases e1;cases e2;exact .map rfl
   |1,e1=>cases e1;exact .map kj
   |2,e1=>cases e1;exact .map (C8 qO)) (.tf _)
theorem DA (A:Nat->Nat->Rat) (n k:Nat) {D:Nat} (hk:k<n) (hn:n<=1000) (hp:wi A k≠0) (hB:NA A n D) (hD:4*D<=1048576):
  df Tryz.prog 213 [.aC 0 0,.p (.int .i64 k)] (HL n (ff n (gs A k) (n*n)) (oA A n k)) (.p (.bool true)) (HL n (ff n (gs A (k+1)) (n*n)) (oA A n (k+1))):=by
 have nz:=I5 hp
 refine aW Tryz.func213 ?_
 refine bn.nW (fun _ _=>rfl)<|eo.nW hk hk ?_
 refine SZ.mk (az (gs A k k k).num.natAbs:Int) qS ?_
 refine ao.no (iO (by have:az (gs A k k k).num.natAbs≠0:=nz;omega)) ?_
 refine a5 (k+1+0) ?_
 refine aJ.mk (Nat×(Nat->Nat->Rat)) (fun(d,F)=>([(0,.aC 0 0),(1,.p (.int .i64 k)),(5,.aC 3 0),(6,.p (.int .i64 ((k+1+d:Nat):Int)))],[.box 222 (He n 1 2),.map (ff n F (n*n)),.map (oA A n k++fl d (L9 A k)),.box 31 (lr (gs A k k k))]))
  (fun(d,F)=>k+1+d<=n/\∀a b,a<n->b<n->F a b=if a<k+1+d then gs A (k+1) a b else gs A k a b) (fun x=>n-x.1) (0,gs A k) [0,1,2,3]
  ⟨qO,fun a b _ _=>by
   split
   ·exact(rF (.inl qO)).symm
   ·rfl⟩ (aY ⟨rfl,rfl,congrArg aA.map (List.append_nil _),rfl,trivial⟩) ?_
 intro⟨d,F⟩ ⟨hd,hF⟩
 by_cases hin:k+1+d<n
 ·refine bo ?_
  obtain⟨i,hi⟩:∃i,i=k+1+d:=⟨_,rfl⟩
  have hFi:∀b,b<n->F (k+1+d) b=gs A k (k+1+d) b:=fun b hb=>by rw[hF _ b hin hb,if_neg (Nat.lt_irrefl _)]
  have hFk:∀b,b<n->F k b=gs A k k b:=fun b hb=>by rw[hF k b hk hb,if_pos qO];exact rF (.inl (Nat.le_refl _))
  have zi:∀b,b<n->Bz (F (k+1+d) b) D:=fun b hb=>by rw[hFi b hb];exact hB k qO _ b hin hb
  have zk:∀b,b<n->Bz (F k b) D:=fun b hb=>by rw[hFk b hb];exact hB k qO _ b hk hb
  have zp:Bz (gs A k k k) D:=hB k qO k k hk hk
  obtain⟨Q,hQ⟩:∃Q,Q=F (k+1+d) k/gs A k k k:=⟨_,rfl⟩
  have zQ:Bz Q (D+D):=by rw[hQ];exact(zi k hk).div zp
  have hq:=iS (F (k+1+d) k) (gs A k k k) hp (zi k hk).sz zp.sz qO
  rw[<-hQ]at hq
  have hQv:Q=Nk A (k+1+d) k:=by rw[hQ,hFi k hk];rfl
  refine cS ?_
  repeat refine aq ?_
  refine ag (bn.nW (fun _ _=>rfl)<|eo.nW hin hk af) ?_
  repeat refine aq ?_
  refine ag (aa.aO (hq) (fun _=>rfl) af) ?_
  repeat refine aq ?_
  refine cX ?_
  refine cS ?_
  repeat refine aq ?_
  refine ag (bn.tk qO (fun _ _=>rfl)<|dZ.tk qO (congrArg aB hQv) af) ?_
  refine cX ?_
  refine aJ.mk (Nat×(Nat->Nat->Rat)) (fun(j,G)=>([(0,.aC 0 0),(1,.p (.int .i64 k)),(5,.aC 3 0),(6,.p (.int .i64 ((k+1+d:Nat):Int))),(7,.aC 4 0),(9,.p (.int .i64 j))],[.box 222 (He n 1 2),.map (ff n G (n*n)),.map (oA A n k++fl (d+1) (L9 A k)),.box 31 (lr (gs A k k k)),.box 31 (lr Q)]))
   (fun(j,G)=>k<=j/\j<=n/\∀a b,a<n->b<n->G a b=if a=k+1+d/\k<=b/\b<j then F (k+1+d) b-Q*F k b else F a b) (fun x=>n-x.1) (k,F) [0,1,2,3,4]
   ⟨Nat.le_refl _,qO,fun a b _ _=>by rw[if_neg qO]⟩ aY ?_
  intro⟨j,G⟩ ⟨hkj,hj,hG⟩
  by_cases hjn:j<n
  ·refine bo ?_
   have gi:G (k+1+d) j=F (k+1+d) j:=by rw[hG _ j hin hjn,if_neg qO]
   have gk:G k j=F k j:=by rw[hG k j hk hjn,if_neg qO]
   have z1:Bz (G (k+1+d) j) D:=by rw[gi];exact zi j hjn
   have z2:Bz (G k j) D:=by rw[gk];exact zk j hjn
   refine cS ?_
   repeat refine aq ?_
   refine ag (bn.nW (fun _ _=>rfl)<|eo.nW hin hjn af) ?_
   repeat refine aq ?_
   refine ag (bn.nW (fun _ _=>rfl)<|eo.nW hk hjn af) ?_
   repeat refine aq ?_
   refine ag (aa.pure (cE _ _ zQ.sz z2.sz qO) af) ?_
   refine ag (aa.pure (dh _ _ z1.sz (zQ.mul z2).sz qO) af) ?_
   refine ag (bn.nW (fun _ _=>rfl)<|dZ.No hin hjn af) ?_
   refine cX ?_
   refine a5 (j+1) ?_
   refine⟨(j+1,_),[0,1,2,3,4],⟨qO,hjn,fun a b ha hb=>?_⟩,cA,aY ⟨rfl,rfl,rfl,rfl,rfl,trivial⟩ (ss:=⟨rfl,rfl,rfl,rfl,rfl,rfl,trivial⟩)⟩
   by_cases e:a=k+1+d/\b=j
   ·rw[if_pos e,if_pos ⟨e.1,qO,qO⟩,gi,gk,e.2]
   ·rw[if_neg e,hG a b ha hb]
    by_cases c:a=k+1+d/\k<=b/\b<j
    ·rw[if_pos c,if_pos ⟨c.1,c.2.1,qO⟩]
    ·rw[if_neg c,if_neg qO]
  ·refine bd ?_
   obtain rfl:j=n:=qO
   refine a5 (k+1+(d+1)) ?_
   refine⟨(d+1,G),[0,1,2,3],⟨qO,fun a b ha hb=>?_⟩,cA,aY⟩
   rw[hG a b ha hb]
   by_cases c:a=k+1+d/\k<=b/\b<j
   ·rw[if_pos c,if_pos qO,c.1,DJ qO c.2.1,hQ,hFi b hb,hFk b hb,hFi k hk]
   ·rw[if_neg c,hF a b ha hb]
    by_cases c2:a=k+1+d
    ·rw[if_neg qO,if_pos qO,rF (.inr qO)]
    ·by_cases c3:a<k+1+d
     ·rw[if_pos c3,if_pos qO]
     ·rw[if_neg c3,if_neg qO]
 ·refine bd ?_
  have e1:ff n F (n*n)=ff n (gs A (k+1)) (n*n):=BZ fun a b ha hb=>by rw[hF a b ha hb,if_pos qO]
  have e2:oA A n k++fl d (L9 A k)=oA A n (k+1):=by simp only[oA];rw[show d=n-1-k by omega]
  rw[<-e1,<-e2]
  refine ab.p9 rfl
   (fun B hB k=>by simp only[HL,List.mem_cons,List.not_mem_nil,or_false]at hB;rcases hB with rfl|rfl|rfl<;>rfl) (fun i hi=>by
    match i,hi with
    |0,_=>exact trivial
    |1,_=>exact trivial
    |2,_=>exact trivial)
   (fun a B e1=>by
    match a,e1 with
    |0,e1=>
     cases e1
     refine .box (cs:=He n 1 2) (fun d hd=>by simp only[He,List.mem_cons,List.not_mem_nil,or_false]at hd;rcases hd with rfl|rfl|rfl<;>rfl) rfl fun b c d e1 e2=>?_
     match b,e1,e2 with
     |0,e1,e2=>cases e1;cases e2;exact .p _ (.int _ _)
     |1,e1,e2=>cases e1;cases e2;exact .map rfl
     |2,e1,e2=>cases e1;cases e2;exact .map rfl
    |1,e1=>cases e1;exact .map kj
    |2,e1=>cases e1;exact .map (by rw[e2];exact C8 qO)) (.tf _)
section

theorem GQ {c:Rat} (h:c≠0):0<c.abs:=by
 have h1:=Rat.abs_nonneg (x:=c)
 have h2:c.abs≠0:=fun e=>h (Rat.abs_eq_zero_iff.1 e)
 grind
theorem yH (c x:Rat):(c*x).abs=c.abs*x.abs:=by
 by_cases hc:0<=c<;>by_cases hx:0<=x
 ·rw[Rat.abs_of_nonneg hc,Rat.abs_of_nonneg hx,Rat.abs_of_nonneg (Rat.mul_nonneg hc hx)]
 ·have hx':0<= -x:=by grind
  have h:=Rat.mul_nonneg hc hx'
  have e1:x.abs= -x:=by rw[<-Rat.abs_neg,Rat.abs_of_nonneg hx']
  have e2:(c*x).abs= -(c*x):=by rw[<-Rat.abs_neg,Rat.abs_of_nonneg (by grind)]
  rw[Rat.abs_of_nonneg hc,e1,e2];grind
 ·have hc':0<= -c:=by grind
  have h:=Rat.mul_nonneg hc' hx
  have e1:c.abs= -c:=by rw[<-Rat.abs_neg,Rat.abs_of_nonneg hc']
  have e2:(c*x).abs= -(c*x):=by rw[<-Rat.abs_neg,Rat.abs_of_nonneg (by grind)]
  rw[Rat.abs_of_nonneg hx,e1,e2];grind
 ·have hc':0<= -c:=by grind
  have hx':0<= -x:=by grind
  have h:=Rat.mul_nonneg hc' hx'
  have e1:c.abs= -c:=by rw[<-Rat.abs_neg,Rat.abs_of_nonneg hc']
  have e3:x.abs= -x:=by rw[<-Rat.abs_neg,Rat.abs_of_nonneg hx']
  have e2:(c*x).abs=c*x:=Rat.abs_of_nonneg (by grind)
  rw[e1,e2,e3];grind
theorem l6 (x y:Rat):(x-y).abs<=x.abs+y.abs:=by
 by_cases hx:0<=x<;>by_cases hy:0<=y<;>by_cases hz:0<=x-y
 all_goals
  first
   |rw[Rat.abs_of_nonneg hx]
   |rw[<-Rat.abs_neg (x:=x),Rat.abs_of_nonneg (x:= -x) (by grind)]
  first
   |rw[Rat.abs_of_nonneg hy]
   |rw[<-Rat.abs_neg (x:=y),Rat.abs_of_nonneg (x:= -y) (by grind)]
  first
   |rw[Rat.abs_of_nonneg hz]
   |rw[<-Rat.abs_neg (x:=x-y),Rat.abs_of_nonneg (x:= -(x-y)) (by grind)]
  grind
def jC (B:Nat->Nat->Rat) (k:Nat):Nat->Nat
 |0=>k
 |d+1=>if(B (jC B k d) k).abs<(B (k+1+d) k).abs then k+1+d else jC B k d
def nk (B:Nat->Nat->Rat) (n k:Nat):Nat:=jC B k (n-1-k)
theorem wh {B:Nat->Nat->Rat} {k:Nat}:∀d,k<=jC B k d/\jC B k d<=k+d/\∀i,k<=i->i<=k+d->(B i k).abs<=(B (jC B k d) k).abs:=by
 intro d
 induction d with
 |zero=>
  simp only[jC]
  refine⟨Nat.le_refl _,qO,fun i h1 h2=>?_⟩
  obtain rfl:i=k:=qO
  exact Rat.le_refl
 |succ d ih=>
  obtain⟨h1,h2,h3⟩:=ih
  simp only[jC]
  by_cases c:(B (jC B k d) k).abs<(B (k+1+d) k).abs
  ·rw[if_pos c]
   refine⟨qO,qO,fun i q1 q2=>?_⟩
   by_cases e:i=k+1+d
   ·rw[e];exact Rat.le_refl
   ·have:=h3 i q1 qO;grind
  ·rw[if_neg c]
   refine⟨h1,qO,fun i q1 q2=>?_⟩
   by_cases e:i=k+1+d
   ·rw[e];grind
   ·exact h3 i q1 qO
theorem dL {B:Nat->Nat->Rat} {n k:Nat} (h:k<n):k<=nk B n k/\nk B n k<n/\∀i,k<=i->i<n->(B i k).abs<=(B (nk B n k) k).abs:=by
 obtain⟨h1,h2,h3⟩:=wh (B:=B) (k:=k) (n-1-k)
 exact⟨h1,by unfold nk;omega,fun i q1 q2=>h3 i q1 qO⟩
def ky (B:Nat->Nat->Rat) (k:Nat):Nat->Nat->Rat:=fun i j=>if k<i then B i j-B i k/B k k*B k j else B i j
def se (s:Nat->Nat) (p k:Nat):Nat->Nat:=fun i=>s (if i=p then k else if i=k then p else i)
def rO (M P:Nat->Nat->Rat) (k:Nat):Nat->Nat->Rat:=fun i j=>if j=k then(if k<i then P i k/P k k else if i=k then 1 else M i j)else M i j
structure P0 where
 B:Nat->Nat->Rat
 s:Nat->Nat
 M:Nat->Nat->Rat
def Qj (n k:Nat) (S:P0):P0:=
 ⟨ky (bO S.B (nk S.B n k) k) k,se S.s (nk S.B n k) k,rO (bO S.M (nk S.B n k) k) (bO S.B (nk S.B n k) k) k⟩
def gk (n:Nat) (A:Nat->Nat->Rat) (k:Nat):P0:=iter (Qj n) k ⟨A,id,fun _ _=>0⟩
def mc (n:Nat) (A:Nat->Nat->Rat) (k:Nat):Nat->Nat->Rat:=bO (gk n A k).B (nk (gk n A k).B n k) k
def kH (n:Nat) (A:Nat->Nat->Rat) (k:Nat):Rat:=mc n A k k k
theorem fc {n:Nat} {A:Nat->Nat->Rat} {k:Nat}:gk n A (k+1)=⟨ky (mc n A k) k,se (gk n A k).s (nk (gk n A k).B n k) k,rO (bO (gk n A k).M (nk (gk n A k).B n k) k) (mc n A k) k⟩:=rfl
theorem oY {n:Nat} {A:Nat->Nat->Rat} {k:Nat}:kH n A k=(gk n A k).B (nk (gk n A k).B n k) k:=by unfold kH mc;rw[iU]
theorem ez {p k n i:Nat} (hp:p<n) (hk:k<n) (hi:i<n):(if i=p then k else if i=k then p else i)<n:=by
 split
 ·exact hk
 ·split
  ·exact hp
  ·exact hi
theorem yd {p k i:Nat} (hp:k<=p) (hi:k<=i):k<=(if i=p then k else if i=k then p else i):=by
 split
 ·exact Nat.le_refl _
 ·split
  ·exact hp
  ·exact hi
theorem wW {p k i:Nat} (hp:k<=p) (hi:i<k):(if i=p then k else if i=k then p else i)=i:=by
 rw[if_neg qO,if_neg qO]
theorem wY {p k i:Nat}:(if(if i=p then k else if i=k then p else i)=p then k else if(if i=p then k else if i=k then p else i)=k then p else(if i=p then k else if i=k then p else i))=i:=by
 by_cases e1:i=p
 ·rw[if_pos e1]
  by_cases e2:k=p
  ·rw[if_pos e2];omega
  ·rw[if_neg e2,if_pos rfl];omega
 ·rw[if_neg e1]
  by_cases e2:i=k
  ·rw[if_pos e2,if_pos rfl];omega
  ·rw[if_neg e2,if_neg e1,if_neg e2]
theorem mz {A:Nat->Nat->Rat} {p k i:Nat} (hp:k<=p) (hi:i<k):bO A p k i=A i:=by unfold bO;rw[wW hp hi]
theorem i6 {n:Nat} {A:Nat->Nat->Rat}:∀k,k<=n->(∀i,i<n->(gk n A k).s i<n)/\(∀i j,i<n->j<n->(gk n A k).s i=(gk n A k).s j->i=j)/\∀r,r<n->∃i,i<n/\(gk n A k).s i=r:=by
 intro k
 induction k with
 |zero=>intro _;exact⟨fun i hi=>hi,fun i j _ _ e=>e,fun r hr=>⟨r,hr,rfl⟩⟩
 |succ k ih=>
  intro hk
  obtain⟨h1,h2,h3⟩:=ih qO
  obtain⟨p1,p2,_⟩:=dL (B:=(gk n A k).B) (n:=n) (k:=k) qO
  rw[fc]
  refine⟨fun i hi=>h1 _ (ez p2 qO hi),fun i j hi hj e=>?_,fun r hr=>?_⟩
  ·have:=h2 _ _ (ez p2 qO hi) (ez p2 qO hj) e
   rw[<-wY (p:=nk (gk n A k).B n k) (k:=k) (i:=i),this,wY]
  ·obtain⟨i,hi,e⟩:=h3 r hr
   exact⟨_,ez p2 (show k<n by omega) hi,by show(gk n A k).s _=r;rw[wY];exact e⟩
theorem Im {n:Nat} {A:Nat->Nat->Rat} {k i j:Nat} (h:k<i):(gk n A (k+1)).B i j=mc n A k i j-mc n A k i k/mc n A k k k*mc n A k k j:=by rw[fc];exact if_pos h
theorem o6 {n:Nat} {A:Nat->Nat->Rat} {k i j:Nat} (h:i<=k):(gk n A (k+1)).B i j=mc n A k i j:=by rw[fc];exact if_neg qO
theorem wB {n:Nat} {A:Nat->Nat->Rat} {k i:Nat} (hk:k<n) (h:i<k):mc n A k i=(gk n A k).B i:=mz (dL hk).1 h
theorem M9 {n:Nat} {A:Nat->Nat->Rat} {i j:Nat}:∀d,i+1+d<=n->(gk n A (i+1+d)).B i j=mc n A i i j:=by
 intro d
 induction d with
 |zero=>intro _;exact o6 (Nat.le_refl _)
 |succ d ih=>
  intro h
  rw[<-ih qO]
  show(gk n A (i+1+d+1)).B i j=_
  rw[o6 qO,wB qO qO]
theorem CX {n:Nat} {A:Nat->Nat->Rat} {i j k:Nat} (h:i<k) (hk:k<=n):(gk n A k).B i j=mc n A i i j:=by
 obtain⟨d,rfl⟩:∃d,k=i+1+d:=⟨k-(i+1),qO⟩
 exact M9 d hk
theorem KK {A:Nat->Nat->Rat} {p k n:Nat} (hp:k<=p) (hpn:p<n) (hk:k<n) {P:(Nat->Rat)->Prop} (h:∀i,k<=i->i<n->P (A i)) {i:Nat} (h1:k<=i) (h2:i<n):P (bO A p k i):=
 h _ (yd hp h1) (ez hpn hk h2)
theorem Eb {n:Nat} {A:Nat->Nat->Rat} {K:Nat} (hp:∀t,t<K->kH n A t≠0):∀k,k<=K->k<=n->∀i t,i<n->t<k->t<i->(gk n A k).B i t=0:=by
 intro k
 induction k with
 |zero=>intro _ _ i t _ h;exact absurd h (Nat.not_lt_zero _)
 |succ k ih=>
  intro hk hkn i t hi ht hti
  have ih:=ih qO qO
  obtain⟨p1,p2,_⟩:=dL (B:=(gk n A k).B) (n:=n) (k:=k) qO
  have low:∀i t,i<n->t<k->t<i->mc n A k i t=0:=fun i t hi h1 h2=>by
   by_cases c:i<k
   ·rw[wB qO c];exact ih i t hi h1 h2
   ·exact KK (P:=fun f=>f t=0) p1 p2 qO (fun q q1 q2=>ih q t q2 h1 qO) qO hi
  by_cases c:k<i
  ·rw[Im c]
   by_cases e:t=k
   ·subst e
    have:mc n A t t t≠0:=hp t qO
    generalize mc n A t i t=x
    generalize mc n A t t t=y at this
    grind
   ·rw[low i t hi qO hti,low k t qO qO qO];grind
  ·rw[o6 qO];exact low i t hi qO hti
def gL (n:Nat) (A:Nat->Nat->Rat):Nat->Nat->Rat:=(gk n A n).M
def gU (n:Nat) (A:Nat->Nat->Rat):Nat->Nat->Rat:=(gk n A n).B
def gO (n:Nat) (A:Nat->Nat->Rat):Nat->Nat:=(gk n A n).s
theorem Mz {n:Nat} {A:Nat->Nat->Rat} (hp:∀t,t<n->kH n A t≠0) {i j:Nat} (hi:i<n) (hj:j<i):gU n A i j=0:=Eb hp n (Nat.le_refl _) (Nat.le_refl _) i j hi qO hj
theorem De {n:Nat} {A:Nat->Nat->Rat} {i:Nat} (hi:i<n):gU n A i i=kH n A i:=CX hi (Nat.le_refl _)
theorem CA {n:Nat} {A:Nat->Nat->Rat}:∀k,k<=n->∀i j,i<n->(k<=j->(gk n A k).M i j=0)/\(i<j->(gk n A k).M i j=0)/\(i=j->j<k->(gk n A k).M i j=1):=by
 intro k
 induction k with
 |zero=>intro _ i j _;exact⟨fun _=>rfl,fun _=>rfl,fun _ h=>absurd h (Nat.not_lt_zero _)⟩
 |succ k ih=>
  intro hk i j hi
  have ih:=ih qO
  obtain⟨p1,p2,_⟩:=dL (B:=(gk n A k).B) (n:=n) (k:=k) qO
  rw[fc]
  have sw:k<=j->bO (gk n A k).M (nk (gk n A k).B n k) k i j=0:=fun h=>(ih _ j (ez p2 qO hi)).1 h
  show(_->rO _ _ k i j=0)/\(_->rO _ _ k i j=0)/\(_->_->rO _ _ k i j=1)
  unfold rO
  refine⟨fun h=>?_,fun h=>?_,fun h1 h2=>?_⟩
  ·rw[if_neg qO];exact sw qO
  ·by_cases e:j=k
   ·rw[if_pos e,if_neg qO,if_neg qO];exact sw qO
   ·rw[if_neg e]
    by_cases c:k<=j
    ·exact sw c
    ·rw[mz p1 qO];exact(ih i j hi).2.1 h
  ·by_cases e:j=k
   ·rw[if_pos e,if_neg qO,if_pos qO]
   ·rw[if_neg e,mz p1 qO];exact(ih i j hi).2.2 h1 qO
theorem xr {n:Nat} {A:Nat->Nat->Rat} {i:Nat} (hi:i<n):gL n A i i=1:=(CA n (Nat.le_refl _) i i hi).2.2 rfl hi
theorem Gm {n:Nat} {A:Nat->Nat->Rat} {i j:Nat} (hi:i<n) (h:i<j):gL n A i j=0:=(CA n (Nat.le_refl _) i j hi).2.1 h
theorem OZ {n:Nat} {A:Nat->Nat->Rat}:∀k,k<=n->∀i j,i<n->sm (min i k) (fun t=>(gk n A k).B t j*(gk n A k).M i t)+(gk n A k).B i j=A ((gk n A k).s i) j:=by
 intro k
 induction k with
 |zero=>intro _ i j _;rw[Nat.min_zero];show(0:Rat)+A i j=A i j;grind
 |succ k ih=>
  intro hk i j hi
  have ih:=ih qO
  obtain⟨p1,p2,_⟩:=dL (B:=(gk n A k).B) (n:=n) (k:=k) qO
  have sw:∀i,i<n->sm (min i k) (fun t=>mc n A k t j*bO (gk n A k).M (nk (gk n A k).B n k) k i t)+mc n A k i j=A ((gk n A (k+1)).s i) j:=fun i hi=>by
   have hi':=ez p2 (show k<n by omega) hi
   have:=ih _ j hi'
   rw[fc]
   show _=A ((gk n A k).s _) j
   rw[<-this]
   have em:min (if i=nk (gk n A k).B n k then k else if i=k then nk (gk n A k).B n k else i) k=min i k:=by
    by_cases c:i<k
    ·rw[wW p1 c]
    ·have:=yd p1 (show k<=i by omega)
     omega
   rw[em]
   congr 1
   refine aX fun t ht=>?_
   rw[wB qO qO];rfl
  rw[<-sw i hi]
  have mk:∀t,t<k->(gk n A (k+1)).M i t=bO (gk n A k).M (nk (gk n A k).B n k) k i t:=fun t ht=>by
   rw[fc];exact if_neg qO
  by_cases c:k<i
  ·rw[show min i (k+1)=k+1 by omega,show min i k=k by omega]
   show sm k _+(gk n A (k+1)).B k j*(gk n A (k+1)).M i k+_=_
   rw[Im c,o6 (Nat.le_refl k)]
   have e:(gk n A (k+1)).M i k=mc n A k i k/mc n A k k k:=by
    rw[fc];show rO _ _ k i k=_;unfold rO;rw[if_pos rfl,if_pos c]
   rw[e,aX (g:=fun t=>mc n A k t j*bO (gk n A k).M (nk (gk n A k).B n k) k i t) fun t ht=>by rw[o6 (show t<=k by omega),mk t ht]]
   grind
  ·rw[show min i (k+1)=i by omega,show min i k=i by omega,o6 qO]
   congr 1
   exact aX fun t ht=>by rw[o6 (show t<=k by omega),mk t qO]
theorem OE {n:Nat} {A:Nat->Nat->Rat} {i j:Nat} (hi:i<n):mulM n (gL n A) (gU n A) i j=A (gO n A i) j:=by
 have h:=OZ (A:=A) n (Nat.le_refl _) i j hi
 rw[show min i n=i by omega]at h
 show sm n (fun t=>gU n A t j*gL n A i t)=_
 obtain⟨d,hd⟩:∃d,n=(i+1)+d:=⟨n-(i+1),qO⟩
 have e:sm n (fun t=>gU n A t j*gL n A i t)=sm (i+1) (fun t=>gU n A t j*gL n A i t):=by
  conv=>lhs;arg 1;rw[hd]
  rw[kk,fF (n:=d) fun e he=>by rw[Gm hi qO];exact Rat.mul_zero _]
  exact Rat.add_zero _
 rw[e]
 show sm i _+gU n A i j*gL n A i i=_
 rw[xr hi,Rat.mul_one];exact h
end
section

theorem su.Qh {n w k:Nat} {B:Nat->Nat->Rat} {v:Nat->Rat} (hk:k<n):su n w (ky B k) v↔su n w B v:=by
 have row:∀i,k<i->sm w (fun c=>ky B k i c*v c)=sm w (fun c=>B i c*v c)-B i k/B k k*sm w (fun c=>B k c*v c):=by
  intro i hi
  rw[<-c8,<-nX]
  refine aX fun c _=>?_
  have:ky B k i c=B i c-B i k/B k k*B k c:=if_pos hi
  rw[this];grind
 have low:∀i,¬k<i->(fun c=>ky B k i c*v c)=fun c=>B i c*v c:=by
  intro i hi
  funext c
  have:ky B k i c=B i c:=if_neg hi
  rw[this]
 constructor
 ·intro h i hi
  have h0:sm w (fun c=>B k c*v c)=0:=by have:=h k hk;rw[low k (Nat.lt_irrefl k)]at this;exact this
  have:=h i hi
  by_cases e:k<i
  ·rw[row i e,h0]at this;grind
  ·rw[low i e]at this;exact this
 ·intro h i hi
  by_cases e:k<i
  ·rw[row i e,h i hi,h k hk];grind
  ·rw[low i e];exact h i hi
theorem NN {n w:Nat} {A:Nat->Nat->Rat} {v:Nat->Rat}:∀k,k<=n->(su n w (gk n A k).B v↔su n w A v):=by
 intro k
 induction k with
 |zero=>exact fun _=>Iff.rfl
 |succ k ih=>
  intro hk
  obtain⟨p1,p2,_⟩:=dL (B:=(gk n A k).B) (n:=n) (k:=k) qO
  rw[fc]
  exact(su.Qh qO).trans ((su.Mt p2 qO).trans (ih qO))
theorem qI {n:Nat} {A:Nat->Nat->Rat} (h:(elim n A n).r=n):∀d,d<=n->(elim n A (n-d)).r=n-d:=by
 intro d
 induction d with
 |zero=>exact fun _=>h
 |succ d ih=>
  intro hd
  have:=ih qO
  rw[show n-d=(n-(d+1))+1 by omega]at this
  exact(jh this).1
theorem Hl {n K:Nat} {B:Nat->Nat->Rat} (hz:∀i t,i<n->t<K->t<i->B i t=0) (hd:∀t,t<K->B t t≠0):∀j,j<=K->j<=n->(∀i k,i<n->(elim n B j).A i k=B i k)/\(elim n B j).gR=pm j (fun t=>B t t)/\(elim n B j).r=j:=by
 intro j
 induction j with
 |zero=>intro _ _;exact⟨fun _ _ _=>rfl,rfl,rfl⟩
 |succ j ih=>
  intro hj hn
  obtain⟨h1,h2,h3⟩:=ih qO qO
  have hpv:pv (elim n B j).A j n j=j:=vJ (Nat.le_refl _) qO (fun i h1 h2=>qO) (.inr (by rw[h1 j j qO];exact hd j qO))
  rw[gY h3 (by rw[hpv];omega),hpv,if_pos rfl,nj]
  refine⟨fun i k hi=>?_,?_,rfl⟩
  ·show fa _ j j i k=_
   by_cases c:j<i
   ·rw[qa (by rw[h1 i j hi];exact hz i j hi qO c)];exact h1 i k hi
   ·rw[fe (.inl qO)];exact h1 i k hi
  ·show(elim n B j).gR*(elim n B j).A j j=_
   rw[h2,h1 j j qO];rfl
theorem KU {n K:Nat} {A:Nat->Nat->Rat} (hK:K<n) (hp:∀t,t<K->kH n A t≠0) (hz:kH n A K=0):(elim n A n).gR=0:=by
 apply Classical.byContradiction
 intro hd
 obtain⟨p1,p2,p3⟩:=dL (B:=(gk n A K).B) (n:=n) (k:=K) hK
 obtain⟨h1,h2,h3⟩:=Hl (n:=n) (K:=K) (B:=(gk n A K).B) (fun i t hi ht hti=>Eb hp K (Nat.le_refl _) qO i t hi ht hti)
  (fun t ht=>by rw[CX ht qO];exact hp t ht) K (Nat.le_refl _) qO
 have col:∀i,K<=i->i<n->(gk n A K).B i K=0:=fun i q1 q2=>by
  have:=p3 i q1 q2
  rw[<-oY,hz]at this
  have h0:=Rat.abs_nonneg (x:=(gk n A K).B i K)
  have e0:(0:Rat).abs=0:=by decide+kernel
  rw[e0]at this
  exact Rat.abs_eq_zero_iff.1 (by grind)
 have hpv:pv (elim n (gk n A K).B K).A K n K=n:=vJ qO (Nat.le_refl _) (fun i q1 q2=>by rw[h1 i K q2];exact col i q1 q2) (.inl rfl)
 have hr:(elim n (gk n A K).B (K+1)).r=K:=by
  rw[dA];unfold Ak;rw[h3,hpv,if_pos (Nat.le_refl _)]
 have hdet:(elim n (gk n A K).B n).gR=0:=by
  apply Classical.byContradiction
  intro h
  have:=qI ((kh n (Nat.le_refl _)).1 h) (n-(K+1)) qO
  rw[show n-(n-(K+1))=K+1 by omega]at this
  omega
 obtain⟨v,⟨k,hk,hv⟩,hker⟩:=O3 hdet
 exact hv (O6 hd ((NN K qO).1 hker) k hk)
def O4:Nat->Rat
 |0=>1
 |i+1=> -(O4 i)
def iC (r:Nat) (A:Nat->Nat->Rat):Nat->Nat->Rat:=fun i j=>A (if i<r then i else i+1) (j+1)
def dt:Nat->(Nat->Nat->Rat)->Rat
 |0,_=>1
 |n+1,A=>sm (n+1) fun i=>O4 i*A i 0*dt n (iC i A)
theorem jW {A:Nat->Nat->Rat} {r:Nat} {z:Nat->Rat}:iC r (a8 A r z)=iC r A:=by
 funext i j
 unfold iC
 rw[aj]
 split<;>omega
theorem mA {A:Nat->Nat->Rat} {r i:Nat} {z:Nat->Rat} (h:r<i):iC i (a8 A r z)=a8 (iC i A) r (fun j=>z (j+1)):=by
 funext q j
 by_cases e:q=r
 ·subst e;rw[ah];simp only[iC];rw[if_pos h,ah]
 ·rw[aj _ _ e];simp only[iC];rw[aj];split<;>omega
theorem mu {A:Nat->Nat->Rat} {r i:Nat} {z:Nat->Rat} (h:i<r):iC i (a8 A r z)=a8 (iC i A) (r-1) (fun j=>z (j+1)):=by
 funext q j
 by_cases e:q=r-1
 ·subst e;rw[ah];simp only[iC];rw[if_neg qO,show r-1+1=r by omega,ah]
 ·rw[aj _ _ e];simp only[iC];rw[aj];split<;>omega
theorem tt {x y:Nat->Rat} {a b:Rat}:∀(n:Nat) (A:Nat->Nat->Rat) (r:Nat) (x y:Nat->Rat),r<n->dt n (a8 A r fun j=>a*x j+b*y j)=a*dt n (a8 A r x)+b*dt n (a8 A r y):=by
 intro n
 induction n with
 |zero=>intro A r x y h;exact absurd h (Nat.not_lt_zero _)
 |succ n ih=>
  intro A r x y hr
  simp only[dt]
  rw[<-c8,<-c8,<-FV]
  refine aX fun i hi=>?_
  by_cases e:i=r
  ·subst e
   rw[jW,jW,jW,ah,ah,ah];grind
  ·rw[aj _ _ e,aj _ _ e,aj _ _ e]
   by_cases c:r<i
   ·rw[mA c,mA c,mA c,ih (iC i A) r (fun j=>x (j+1)) (fun j=>y (j+1)) qO];grind
   ·rw[mu qO,mu qO,mu qO,ih (iC i A) (r-1) (fun j=>x (j+1)) (fun j=>y (j+1)) qO];grind
theorem M4 {f:Nat->Rat} {r:Nat}:∀n,r+1<n->(∀i,i<n->i≠r->i≠r+1->f i=0)->sm n f=f r+f (r+1):=by
 intro n
 induction n with
 |zero=>intro h;exact absurd h (Nat.not_lt_zero _)
 |succ n ih=>
  intro h hz
  show sm n f+f n=_
  by_cases e:n=r+1
  ·subst e
   show sm r f+f r+f (r+1)=_
   rw[fF fun i hi=>hz i qO qO qO,Rat.zero_add]
  ·rw[ih qO fun i hi=>hz i qO,hz n qO qO e,Rat.add_zero]
theorem xH:∀(n:Nat) (A:Nat->Nat->Rat) (r:Nat),r+1<n->A r=A (r+1)->dt n A=0:=by
 intro n
 induction n with
 |zero=>intro A r h;exact absurd h (Nat.not_lt_zero _)
 |succ n ih=>
  intro A r hr e
  simp only[dt]
  rw[M4 (r:=r) (n+1) hr]
  ·have e2:iC r A=iC (r+1) A:=by
    funext i j
    unfold iC
    by_cases c:i<r
    ·rw[if_pos c,if_pos qO]
    ·rw[if_neg c]
     by_cases c2:i=r
     ·rw[if_pos qO,c2,e]
     ·rw[if_neg qO]
   rw[e2,e]
   simp only[O4];grind
  ·intro i hi h1 h2
   have:dt n (iC i A)=0:=by
    by_cases c:i<r
    ·refine ih (iC i A) (r-1) qO ?_
     funext j
     unfold iC
     rw[if_neg qO,if_neg qO,show r-1+1=r by omega,e]
    ·refine ih (iC i A) r qO ?_
     funext j
     unfold iC
     rw[if_pos qO,if_pos qO,e]
   rw[this];exact Rat.mul_zero _
theorem ql {A:Nat->Nat->Rat} {a b:Nat} {x y:Nat->Rat} (h:a≠b):a8 (a8 A a x) b y=a8 (a8 A b y) a x:=by
 funext i
 unfold a8
 by_cases e:i=b
 ·rw[if_pos e,if_neg qO,if_pos e]
 ·rw[if_neg e,if_neg e]
abbrev ot (p k i:Nat):Nat:=if i=p then k else if i=k then p else i
theorem Nh {n:Nat} {A:Nat->Nat->Rat} {r:Nat} (hr:r+1<n):dt n (fun i=>A (ot (r+1) r i))= -(dt n A):=by
 have z:∀u:Nat->Rat,dt n (a8 (a8 A r u) (r+1) u)=0:=fun u=>xH n _ r hr (by rw[ah,aj _ _ qO,ah])
 have l1:∀u v w:Nat->Rat,dt n (a8 (a8 A r u) (r+1) fun j=>1*v j+1*w j)=1*dt n (a8 (a8 A r u) (r+1) v)+1*dt n (a8 (a8 A r u) (r+1) w):=fun u v w=>tt (x:=v) (y:=w) n _ (r+1) v w hr
 have l2:∀u v w:Nat->Rat,dt n (a8 (a8 A r fun j=>1*u j+1*v j) (r+1) w)=1*dt n (a8 (a8 A r u) (r+1) w)+1*dt n (a8 (a8 A r v) (r+1) w):=fun u v w=>by
  rw[ql qO,tt (x:=u) (y:=v) n _ r u v qO,ql (a:=r+1) (b:=r) qO,ql (a:=r+1) (b:=r) qO]
 have h:=z fun j=>1*A r j+1*A (r+1) j
 rw[l1,l2,l2,z,z]at h
 have e1:a8 (a8 A r (A r)) (r+1) (A (r+1))=A:=by
  funext i
  unfold a8
  by_cases e:i=r+1
  ·rw[if_pos e,e]
  ·rw[if_neg e]
   by_cases e2:i=r
   ·rw[if_pos e2,e2]
   ·rw[if_neg e2]
 have e2:a8 (a8 A r (A (r+1))) (r+1) (A r)=fun i=>A (ot (r+1) r i):=by
  funext i
  unfold a8
  by_cases e:i=r+1
  ·rw[if_pos e,ot,if_pos e]
  ·rw[if_neg e,ot,if_neg e]
   by_cases e2:i=r
   ·rw[if_pos e2,if_pos e2]
   ·rw[if_neg e2,if_neg e2]
 rw[e1,e2]at h
 grind
theorem ig {p k i:Nat} (h1:i≠p) (h2:i≠k):ot p k i=i:=by simp only[ot];rw[if_neg h1,if_neg h2]
theorem DP {p k:Nat}:ot p k k=p:=by
 unfold ot
 by_cases e:k=p
 ·rw[if_pos e,e]
 ·rw[if_neg e,if_pos rfl]
theorem KA {α:Type} {n:Nat} {P:(Nat->α)->Prop} {F:(Nat->α)->Rat} (hP:∀f t,t+1<n->P f->P fun i=>f (ot (t+1) t i)) (hP2:∀f p k,p<n->k<n->P f->P fun i=>f (ot p k i))
  (hF:∀f t,t+1<n->P f->F (fun i=>f (ot (t+1) t i))= -(F f)):∀d k f,k+d+1<n->P f->F (fun i=>f (ot (k+d+1) k i))= -(F f):=by
 intro d
 induction d with
 |zero=>exact fun k f h hp=>hF f k h hp
 |succ d ih=>
  intro k f h hp
  have e:(fun i=>f (ot (k+(d+1)+1) k i))=fun i=>(fun i=>(fun i=>f (ot (k+d+1+1) (k+d+1) i)) (ot (k+d+1) k i)) (ot (k+d+1+1) (k+d+1) i):=by
   funext i
   refine congrArg f ?_
   show ot (k+d+1+1) k i=ot (k+d+1+1) (k+d+1) (ot (k+d+1) k (ot (k+d+1+1) (k+d+1) i))
   by_cases e1:i=k+d+1+1
   ·have a1:ot (k+d+1+1) (k+d+1) i=k+d+1:=if_pos e1
    have a2:ot (k+d+1) k (k+d+1)=k:=if_pos rfl
    have a3:ot (k+d+1+1) (k+d+1) k=k:=ig qO qO
    rw[a1,a2,a3];exact if_pos e1
   ·by_cases e2:i=k
    ·have a1:ot (k+d+1+1) (k+d+1) i=k:=by rw[e2];exact ig qO qO
     have a2:ot (k+d+1) k k=k+d+1:=DP
     have a3:ot (k+d+1+1) (k+d+1) (k+d+1)=k+d+1+1:=DP
     rw[a1,a2,a3,e2];exact DP
    ·by_cases e3:i=k+d+1
     ·have a1:ot (k+d+1+1) (k+d+1) i=k+d+1+1:=by rw[e3];exact DP
      have a2:ot (k+d+1) k (k+d+1+1)=k+d+1+1:=ig qO qO
      have a3:ot (k+d+1+1) (k+d+1) (k+d+1+1)=k+d+1:=if_pos rfl
      rw[a1,a2,a3,ig e1 e2];exact e3
     ·have a1:ot (k+d+1+1) (k+d+1) i=i:=ig e1 e3
      have a2:ot (k+d+1) k i=i:=ig e3 e2
      rw[a1,a2,a1];exact ig e1 e2
  rw[e,hF _ (k+d+1) qO (hP2 _ _ _ qO qO (hP _ _ qO hp)),ih k _ qO (hP _ _ qO hp),hF f (k+d+1) qO hp]
  grind
theorem IB {n:Nat} {A:Nat->Nat->Rat} {p k:Nat} (hk:k<p) (hp:p<n):dt n (bO A p k)= -(dt n A):=by
 have:=KA (n:=n) (P:=fun _=>True) (F:=dt n) (fun _ _ _ _=>trivial) (fun _ _ _ _ _ _=>trivial) (fun f t ht _=>Nh ht) (p-k-1) k A qO trivial
 rw[show k+(p-k-1)+1=p by omega]at this
 exact this
theorem x6 {n:Nat} {A:Nat->Nat->Rat} {p q:Nat} (hpq:p<q) (hq:q<n) (e:A p=A q):dt n A=0:=by
 by_cases c:q=p+1
 ·subst c;exact xH n A p hq e
 ·have h:=IB (A:=A) (p:=q) (k:=p+1) (n:=n) qO hq
  have h0:dt n (bO A q (p+1))=0:=xH n _ p qO (by
   unfold bO
   rw[if_neg qO,if_neg qO,if_neg qO,if_pos rfl];exact e)
  grind
theorem M1 {n:Nat} {A:Nat->Nat->Rat} {k i:Nat} {q:Rat} (hk:k<i) (hi:i<n):dt n (a8 A i fun j=>A i j-q*A k j)=dt n A:=by
 have e:(fun j=>A i j-q*A k j)=fun j=>1*A i j+(-q)*A k j:=by funext j;grind
 rw[e,tt (x:=A i) (y:=A k) n A i (A i) (A k) hi,x6 (A:=a8 A i (A k)) hk hi (by rw[ah,aj _ _ qO])]
 have e2:a8 A i (A i)=A:=by
  funext q
  unfold a8
  by_cases e:q=i
  ·rw[if_pos e,e]
  ·rw[if_neg e]
 rw[e2];grind
theorem kC:∀(n:Nat) (A B:Nat->Nat->Rat),(∀i j,i<n->j<n->A i j=B i j)->dt n A=dt n B:=by
 intro n
 induction n with
 |zero=>intro A B _;rfl
 |succ n ih=>
  intro A B h
  simp only[dt]
  refine aX fun i hi=>?_
  rw[h i 0 hi qO,ih (iC i A) (iC i B) fun q j hq hj=>h _ _ (by split<;>omega) qO]
theorem KO {n:Nat} {B:Nat->Nat->Rat} {k:Nat}:dt n (ky B k)=dt n B:=by
 have key:∀m,m<=n->dt n (fun i j=>if k<i/\i<m then B i j-B i k/B k k*B k j else B i j)=dt n B:=by
  intro m
  induction m with
  |zero=>intro _;exact kC n _ _ fun i j _ _=>if_neg qO
  |succ m ih=>
   intro hm
   rw[<-ih qO]
   by_cases c:k<m
   ·rw[<-M1 (A:=fun i j=>if k<i/\i<m then B i j-B i k/B k k*B k j else B i j) (q:=B m k/B k k) c (show m<n by omega)]
    refine kC n _ _ fun i j _ _=>?_
    unfold a8
    by_cases e:i=m
    ·rw[if_pos e,if_pos qO]
     show _=(if k<m/\m<m then _ else B m j)-_*(if k<k/\k<m then _ else B k j)
     rw[if_neg qO,if_neg qO,e]
    ·rw[if_neg e]
     show _=if k<i/\i<m then _ else _
     by_cases c2:k<i/\i<m
     ·rw[if_pos c2,if_pos qO]
     ·rw[if_neg c2,if_neg qO]
   ·refine kC n _ _ fun i j _ _=>?_
    rw[if_neg qO,if_neg qO]
 rw[<-key n (Nat.le_refl _)]
 refine kC n _ _ fun i j hi _=>?_
 unfold ky
 by_cases c:k<i
 ·rw[if_pos c,if_pos ⟨c,hi⟩]
 ·rw[if_neg c,if_neg qO]
theorem HQ {f:Nat->Rat}:∀n,pm (n+1) f=f 0*pm n (fun i=>f (i+1)):=by
 intro n
 induction n with
 |zero=>show 1*f 0=f 0*1;grind
 |succ n ih=>show pm (n+1) f*f (n+1)=f 0*(pm n (fun i=>f (i+1))*f (n+1));rw[ih];grind
theorem MA:∀(n:Nat) (U:Nat->Nat->Rat),(∀i j,i<n->j<i->U i j=0)->dt n U=pm n (fun i=>U i i):=by
 intro n
 induction n with
 |zero=>intro U _;rfl
 |succ n ih=>
  intro U h
  simp only[dt]
  rw[lG,fF (n:=n) fun i hi=>by rw[h (i+1) 0 qO qO,Rat.mul_zero,Rat.zero_mul],Rat.add_zero,HQ,ih (iC 0 U) fun i j hi hj=>h (i+1) (j+1) qO qO]
  show 1*U 0 0*_=U 0 0*_
  rw[Rat.one_mul];rfl
theorem Kp {n:Nat} {A:Nat->Nat->Rat} (hd:(elim n A n).gR≠0):(elim n A n).gR=dt n A:=by
 have hr:=(kh n (Nat.le_refl _)).1 hd
 have key:∀j,j<=n->dt n (elim n A j).A*(elim n A j).gR=dt n A*pm j (fun i=>(elim n A j).A i i):=by
  intro j
  induction j with
  |zero=>intro _;rfl
  |succ j ih=>
   intro hj
   have ih:=ih qO
   have h0:=qI hr (n-(j+1)) qO
   rw[show n-(n-(j+1))=j+1 by omega]at h0
   obtain⟨h1,h2⟩:=jh h0
   have hrn:=dT (n:=n) (A:=A) j
   rw[h1]at hrn
   obtain⟨p1,p2,p3,p4⟩:=dI (A:=(elim n A j).A) (j:=j) hrn
   rw[gY h1 h2]
   generalize hp:pv (elim n A j).A j n j=p at h2 p1 p2 p3 p4
   show dt n (fa (bO (elim n A j).A p j) j j)*((if p=j then(elim n A j).gR else-(elim n A j).gR)*(elim n A j).A p j)=dt n A*(pm j (fun i=>fa (bO (elim n A j).A p j) j j i i)*fa (bO (elim n A j).A p j) j j j j)
   have eA:dt n (fa (bO (elim n A j).A p j) j j)=dt n (bO (elim n A j).A p j):=by
    rw[<-KO (B:=bO (elim n A j).A p j) (k:=j)]
    refine kC n _ _ fun i k hi hk=>?_
    unfold ky
    by_cases c:j<i
    ·rw[if_pos c,DB (fun k hk=>by rw[iU];exact lT j p k h2 qO hk) c]
    ·rw[if_neg c,fe (.inl qO)]
   have eP:pm j (fun i=>fa (bO (elim n A j).A p j) j j i i)=pm j (fun i=>(elim n A j).A i i):=kg fun i hi=>by
    rw[fe (.inl qO),mz p1 hi]
   have eD:fa (bO (elim n A j).A p j) j j j j=(elim n A j).A p j:=by rw[fe (.inl (Nat.le_refl _)),iU]
   rw[eA,eP,eD]
   by_cases c:p=j
   ·rw[if_pos c,c,nj];grind
   ·rw[if_neg c,IB qO h2];grind
 have h:=key n (Nat.le_refl _)
 have dg:=mM n hr
 rw[MA n _ fun i k hi hk=>sf n (Nat.le_refl _) hr i k hi hk qO]at h
 have hne:=zY dg
 generalize pm n (fun i=>(elim n A n).A i i)=x at h hne
 grind
theorem IZ {s:Nat->Nat} {k:Nat}:se s k k=s:=by
 funext i
 unfold se
 by_cases e:i=k
 ·rw[if_pos e,e]
 ·rw[if_neg e,if_neg e]
end
section

def B8 (f:Nat->Rat):Nat->Rat->Rat
 |0,g=>g
 |c+1,g=>if B8 f c g<(f c).abs then(f c).abs else B8 f c g
def wR (B:Nat->Nat->Rat) (n k:Nat):Nat->Rat->Rat
 |0,g=>g
 |d+1,g=>B8 (B (k+d)) n (wR B n k d g)
theorem N8 {f:Nat->Rat} {g:Rat}:∀c,g<=B8 f c g/\∀j,j<c->(f j).abs<=B8 f c g:=by
 intro c
 induction c with
 |zero=>exact⟨Rat.le_refl,fun j h=>absurd h (Nat.not_lt_zero _)⟩
 |succ c ih=>
  obtain⟨h1,h2⟩:=ih
  simp only[B8]
  by_cases e:B8 f c g<(f c).abs
  ·rw[if_pos e]
   refine⟨by grind,fun j hj=>?_⟩
   by_cases ej:j=c
   ·rw[ej];exact Rat.le_refl
   ·have:=h2 j qO;grind
  ·rw[if_neg e]
   refine⟨h1,fun j hj=>?_⟩
   by_cases ej:j=c
   ·rw[ej];grind
   ·exact h2 j qO
theorem NJ {B:Nat->Nat->Rat} {n k:Nat} {g:Rat}:∀d,g<=wR B n k d g/\∀i j,k<=i->i<k+d->j<n->(B i j).abs<=wR B n k d g:=by
 intro d
 induction d with
 |zero=>exact⟨Rat.le_refl,fun i j h1 h2=>qO⟩
 |succ d ih=>
  obtain⟨h1,h2⟩:=ih
  obtain⟨q1,q2⟩:=N8 (f:=B (k+d)) (g:=wR B n k d g) n
  simp only[wR]
  refine⟨by grind,fun i j e1 e2 e3=>?_⟩
  by_cases e:i=k+d
  ·rw[e];exact q2 j e3
  ·have:=h2 i j e1 qO e3;grind
def oB (n:Nat) (A:Nat->Nat->Rat):Nat->Rat
 |0=>wR A n 0 n 0
 |k+1=>wR (gk n A k).B n k (n-k) (oB n A k)
theorem LA {n:Nat} {A:Nat->Nat->Rat} (hn:0<n) (hp:kH n A 0≠0):0<oB n A 0:=by
 obtain⟨p1,g2p,_⟩:=dL (B:=(gk n A 0).B) (n:=n) (k:=0) hn
 have h:=(NJ (B:=A) (n:=n) (k:=0) (g:=0) n).2 (nk (gk n A 0).B n 0) 0 (Nat.zero_le _) qO hn
 rw[oY]at hp
 have:=GQ hp
 show 0<wR A n 0 n 0
 have e:(gk n A 0).B (nk (gk n A 0).B n 0) 0=A (nk (gk n A 0).B n 0) 0:=rfl
 rw[e]at this
 grind
end
theorem kD:ae Tryz.prog 179 [] (.p (aB 0)) []:=by
 refine aW Tryz.func179 ?_
 refine ab.pure ?_
 rw[e8]
 exact iY ⟨rfl,rfl,rfl⟩ (.p _ (.bool _)) (.p _ (.sl _ _ (fun e he=>by simp at he))) (ka rfl)
theorem Lp:ae Tryz.prog 196 [] (.p (aB 1)) []:=by
 refine aW Tryz.func196 ?_
 refine ab.pure ?_
 rw[jd]
 exact iY ⟨rfl,rfl,rfl⟩ (.p _ (.bool _)) (ka rfl) (ka rfl)
abbrev eV (n:Nat) (s:Nat->Nat):List PV:=fl n fun i=>.int .i64 ((s i:Nat):Int)
abbrev Lm (n:Nat) (q:Rat):List AV:=[.vec (.t 1) 1 0 n,.vec (.t 3) 1 0 n,.map (.t 4),.p (.bool (decide (q.num<0))),.p (cg q.num.natAbs),.p (cg q.den)]
abbrev oO (n:Nat) (G:Nat->Nat->Rat) (s:Nat->Nat) (es:List (PV×PV)) (q:Rat):List aA:=[.box 187 (Lm n q),.rows 24 (cO 2 n n s),.bu 31 3 (c9 n n G),.vec 3 1 (eV n s),.map es]
theorem wq {n:Nat} {s:Nat->Nat}:∀e∈eV n s,∀c∈e.cells,ct c:=fun e he c hc=>by
 obtain⟨i,_,rfl⟩:=dX he
 simp only[PV.cells,List.mem_singleton]at hc
 subst hc;exact .int _ _
theorem FG {n i k:Nat} {s:Nat->Nat}:(eV n s).set i (.int .i64 ((k:Nat):Int))=eV n (a8 s i k):=by
 rw[gF];exact aU fun j _=>by unfold a8;split<;>rfl
theorem rz {n:Nat} {s s':Nat->Nat} (h:∀i,i<n->s i=s' i):eV n s=eV n s':=aU fun i hi=>by rw[h i hi]
theorem vK {n w:Nat} {G G':Nat->Nat->Rat} (h:∀r j,r<n->j<w->G r j=G' r j):c9 n w G=c9 n w G':=aU fun r hr=>by rw[d8 fun j hj=>h r j hr hj]
theorem ab.gw {n:Nat} {G G':Nat->Nat->Rat} {s s':Nat->Nat} {es es':List (PV×PV)} {q q':Rat} {H:Hp} {av r:AV} (hH:H.take 5=oO n G' s' es' q') (hes:∀e∈es',ct e.1/\ct e.2) (hv:Conv [0,1,2,3,4] H av r):
  ab (oO n G s es q) av H r (oO n G' s' es' q'):=by
 have get:∀i,i<5->H.getD i .free=(oO n G' s' es' q').getD i .free:=fun i hi=>by
  rw[<-hH];simp[List.getD,List.getElem?_take_of_lt hi]
 have g0:H.getD 0 .free= .box 187 (Lm n q'):=get 0 qD
 have g1:H.getD 1 .free= .rows 24 (cO 2 n n s'):=get 1 qD
 have g2:H.getD 2 .free= .bu 31 3 (c9 n n G'):=get 2 qD
 have g3:H.getD 3 .free= .vec 3 1 (eV n s'):=get 3 qD
 have g4:H.getD 4 .free= .map es':=get 4 qD
 have key:∀h:Hd,look (oO n G s es q) h≠ .free->(look H h).live\/(h= .t 2/\look H h≠ .free):=fun h hh=>by
  have hk:=d7 hh
  have hk:h.key<5:=hk
  cases h with
  |t i=>
   simp only[look]
   have hk:i<5:=hk
   match i,hk with
   |0,_=>rw[g0];exact .inl trivial
   |1,_=>rw[g1];exact .inl trivial
   |2,_=>rw[g2];exact .inr ⟨rfl,fun e=>by cases e⟩
   |3,_=>rw[g3];exact .inl trivial
   |4,_=>rw[g4];exact .inl trivial
  |r i k=>
   have hk:i<5:=hk
   match i,hk with
   |0,_=>exact absurd rfl hh
   |1,_=>exact absurd rfl hh
   |3,_=>exact absurd rfl hh
   |4,_=>exact absurd rfl hh
   |2,_=>
    have hkn:k<n:=by
     apply Classical.byContradiction
     intro hkn
     refine hh ?_
     show(aA.bu 31 3 (c9 n n G)).row k= .free
     simp only[aA.row]
     rw[List.getElem?_eq_none (by simp;omega)]
    left
    simp only[look]
    rw[g2]
    simp only[aA.row]
    rw[dM hkn];trivial
 refine .mk [0,1,2,3,4] rfl qD rfl (Nat.le_refl _) (fun h hh=>?_) (fun h hh=>?_) (fun i h B e1 e2=>?_) hv
 ·rcases key h (aA.ck hh)with h1|⟨rfl,_⟩
  ·exact h1
  ·exact hh.elim
 ·rcases key h hh with h1|⟨_,h1⟩
  ·exact aA.ck h1
  ·exact h1
 ·match i,e1,e2 with
  |0,e1,e2=>
   cases e1;cases e2;rw[g0]
   refine .box (fun d hd=>by simp only[Lm,List.mem_cons,List.not_mem_nil,or_false]at hd;rcases hd with rfl|rfl|rfl|rfl|rfl|rfl<;>rfl) rfl fun b c d e1 e2=>?_
   match b,e1,e2 with
   |0,e1,e2=>cases e1;cases e2;exact .vec rfl
   |1,e1,e2=>cases e1;cases e2;exact .vec rfl
   |2,e1,e2=>cases e1;cases e2;exact .map rfl
   |3,e1,e2=>cases e1;cases e2;exact .p _ (.bool _)
   |4,e1,e2=>cases e1;cases e2;exact .p _ (.sl _ _ (aL _))
   |5,e1,e2=>cases e1;cases e2;exact .p _ (.sl _ _ (aL _))
  |1,e1,e2=>
   cases e1;cases e2;rw[g1]
   refine .rows (fun d hd=>by obtain⟨i,_,rfl⟩:=dX hd;rfl) rfl fun b c d e1 e2=>?_
   obtain⟨hb,rfl⟩:=cu.1 e1
   obtain⟨_,rfl⟩:=cu.1 e2
   exact .Ia rfl
  |2,e1,e2=>
   cases e1;cases e2;rw[g2]
   exact .bu fun k es hk=>by
    obtain⟨_,h⟩:=cu.1 hk
    cases h;exact au _
  |3,e1,e2=>cases e1;cases e2;rw[g3];exact .vec wq
  |4,e1,e2=>cases e1;cases e2;rw[g4];exact .map hes
theorem wM {ρ:Hd->Hd} {p c n:Nat} {s:Nat->Nat} (h:∀k,ρ (.r p k)= .r p k):AV.de ρ (cO p c n s)=cO p c n s:=by
 rw[fU];exact aU fun i _=>by simp only[AV.dm,h]
theorem aa.gw {P:Program} {f:FuncId} {L:Hd->aA} {base n k:Nat} {K:AV->List (Hd×aA)->Prop} {G G':Nat->Nat->Rat} {s s':Nat->Nat} {es es':List (PV×PV)} {q q':Rat} {r:AV}
  (hc:df P f [.aC 0 0,.p (.int .i64 (k:Int))] (oO n G s es q) r (oO n G' s' es' q')) (hr:∀ρ,r.dm ρ=r) (hb:5<=base)
  (e0:L (.t 0)= .box 187 (Lm n q)/\∀k,L (.r 0 k)= .free) (e1:L (.t 1)= .rows 24 (cO 2 n n s)/\∀k,L (.r 1 k)= .free) (e2:L (.t 2)= .dead/\∀k,L (.r 2 k)=(aA.bu 31 3 (c9 n n G)).row k)
  (e3:L (.t 3)= .vec 3 1 (eV n s)/\∀k,L (.r 3 k)= .free) (e4:L (.t 4)= .map es/\∀k,L (.r 4 k)= .free)
  (hk:K r [(.t 0,.box 187 (Lm n q')),(.t 1,.rows 24 (cO 2 n n s')),(.t 2,.bu 31 3 (c9 n n G')),(.t 3,.vec 3 1 (eV n s')),(.t 4,.map es')]) {raw:List AV}:
  aa P true f raw [.aC 0 0,.p (.int .i64 (k:Int))] L base K:=by
 have hρ:∀k,bz [0,1,2,3,4] base (.r 2 k)= .r 2 k:=fun k=>rfl
 refine .mk [0,1,2,3,4] [.aC 0 0,.p (.int .i64 (k:Int))] r (oO n G s es q) (oO n G' s' es' q') (fun e=>by cases e) qD (fun h hh=>by simp only[List.mem_cons,List.not_mem_nil,or_false]at hh;omega) rfl rfl (fun i h B g1 g2=>?_)
  (fun B hB=>by simp only[oO,List.mem_cons,List.not_mem_nil,or_false]at hB;rcases hB with rfl|rfl|rfl|rfl|rfl<;>exact⟨fun e=>by(cases e),fun e=>by(cases e)⟩)
  (fun B hB k hk=>?_) (Nat.le_refl _) (fun B hB=>by simp only[oO,List.mem_cons,List.not_mem_nil,or_false]at hB;rcases hB with rfl|rfl|rfl|rfl|rfl<;>exact fun e=>by(cases e))
  (fun a ha k hk=>by
   simp only[List.mem_cons,List.not_mem_nil,or_false]at ha
   rcases ha with rfl|rfl
   ·simp only[AV.aT]at hk;subst hk;decide
   ·simp only[AV.aT]at hk) hc ?_
 ·match i,g1,g2 with
  |0,g1,g2=>cases g1;cases g2;exact e0
  |1,g1,g2=>
   cases g1;cases g2
   refine⟨?_,e1.2⟩
   show _=aA.rows _ (AV.de _ _)
   rw[wM hρ];exact e1.1
  |2,g1,g2=>cases g1;cases g2;exact e2
  |3,g1,g2=>cases g1;cases g2;exact e3
  |4,g1,g2=>cases g1;cases g2;exact e4
 ·simp only[oO,List.mem_cons,List.not_mem_nil,or_false]at hB
  rcases hB with rfl|rfl|rfl|rfl|rfl
  ·simp only[aA.aT,Lm,AV.bm,AV.aT,or_false,false_or]at hk
   rcases hk with rfl|rfl|rfl<;>decide
  ·simp only[aA.aT,AV.dN]at hk
   obtain⟨c,hc,hk⟩:=hk
   obtain⟨i,_,rfl⟩:=dX hc
   simp only[AV.aT]at hk
   subst hk;exact(by decide:2<5)
  ·exact hk.elim
  ·exact hk.elim
  ·exact hk.elim
 ·rw[hr]
  show K r [_,(_,aA.rows _ (AV.de _ _)),_,_,_]
  rw[wM hρ]
  exact hk
theorem A6 {n w r:Nat} {G:Nat->Nat->Rat} (h:r<n):r<(c9 n w G).length:=by simpa using h
theorem Ik {f:Nat->Rat} {g:Rat} {D:Nat} (hg:Bz g D):∀c,(∀j,j<c->Bz (f j) D)->Bz (B8 f c g) D:=by
 intro c
 induction c with
 |zero=>exact fun _=>hg
 |succ c ih=>
  intro h
  simp only[B8]
  split
  ·exact(h c qO).abs
  ·exact ih fun j hj=>h j qO
theorem BB {B:Nat->Nat->Rat} {n k:Nat} {g:Rat} {D:Nat} (hg:Bz g D):∀d,(∀i j,k<=i->i<k+d->j<n->Bz (B i j) D)->Bz (wR B n k d g) D:=by
 intro d
 induction d with
 |zero=>exact fun _=>hg
 |succ d ih=>
  intro h
  simp only[wR]
  exact Ik (ih fun i j h1 h2 h3=>h i j h1 qO h3) n fun j hj=>h (k+d) j qO qO hj
theorem lP (n k:Nat) (G B:Nat->Nat->Rat) (s:Nat->Nat) (es:List (PV×PV)) (q:Rat) {D:Nat} (hk:k<=n) (hn:n<=1000) (hs:∀i,i<n->s i<n) (hG:∀i j,i<n->j<n->G (s i) j=B i j)
  (hB:∀i j,i<n->j<n->Bz (B i j) D) (hq:Bz q D) (hD:D+D<=1000000) (hes:∀e∈es,ct e.1/\ct e.2):
  df Tryz.prog 180 [.aC 0 0,.p (.int .i64 (k:Int))] (oO n G s es q) (.bK []) (oO n G s es (wR B n k (n-k) q)):=by
 refine aW Tryz.func180 ?_
 refine fO.mk k n rfl rfl hk (Nat.le_refl _) ?_
 refine SZ.mk ((n-k:Nat):Int) rfl ?_
 refine aJ.mk Nat (fun d=>([(0,.aC 0 0),(13,.vec 1 1 (0+k) (n-k)),(14,.p (.int .i64 ((n-k:Nat):Int))),(15,.p (.int .i64 (d:Nat)))],oO n G s es (wR B n k d q)))
  (fun d=>d<=n-k) (fun d=>n-k-d) 0 [0,1,2,3,4] (Nat.zero_le _) (aY ⟨rfl,congrArg _ (aS 2 rfl qD),rfl,rfl,rfl,aN fun q hq=>by simpa[aD]using hs q hq,qS,trivial⟩) ?_
 intro d (hd:d<=n-k)
 by_cases hdn:d<n-k
 ·refine bo ?_
  refine aK.mk d rfl hdn ?_
  refine bJ.cO (k+d) qO qO ?_
  refine SZ.mk (n:Int) rfl ?_
  have zr:Bz (wR B n k d q) D:=BB hq d fun i j h1 h2 h3=>hB i j qO h3
  refine aJ.mk Nat (fun c=>([(0,.aC 0 0),(13,.vec 1 1 (0+k) (n-k)),(14,.p (.int .i64 ((n-k:Nat):Int))),(15,.p (.int .i64 (d:Nat))),(19,.vec (.r 2 (s (k+d))) 3 0 n),(20,.p (.int .i64 n)),(21,.p (.int .i64 (c:Nat)))],oO n G s es (B8 (B (k+d)) c (wR B n k d q))))
   (fun c=>c<=n) (fun c=>n-c) 0 [0,1,2,3,4] (Nat.zero_le _) (aY ⟨rfl,congrArg _ (aS 2 rfl qD),rfl,rfl,rfl,A6 (hs _ (show k+d<n by omega)),aN fun q hq=>by simpa[aD]using hs q hq,qS,trivial⟩) ?_
  intro c (hc:c<=n)
  by_cases hcn:c<n
  ·refine bo ?_
   have zc:=hB (k+d) c qO hcn
   have zm:Bz (B8 (B (k+d)) c (wR B n k d q)) D:=Ik zr c fun j hj=>hB (k+d) j qO qO
   refine aK.mk c rfl hcn ?_
   refine eH.c9 (hs _ qO) ?_
   refine aF.rv (c+0) (B (k+d) c) rfl qO (hG _ _ qO hcn) ?_
   by_cases hgt:B8 (B (k+d)) c (wR B n k d q)<(B (k+d) c).abs
   ·have e:B8 (B (k+d)) (c+1) (wR B n k d q)=(B (k+d) c).abs:=if_pos hgt
    refine gx ?_
    repeat refine aq ?_
    refine ag (aa.pure (gP (B (k+d) c) zc qO) af) ?_
    repeat refine aq ?_
    refine ag (aa.pure (fJ _ _ zc.abs.sz zm.sz qO) af) ?_
    refine ag (ao.yes (decide_eq_true (fj.2 hgt)) af) ?_
    refine aa.pure (gP (B (k+d) c) zc qO) ?_
    refine a5 (c+1) ?_
    exact⟨c+1,[0,1,2,3,4],hcn,cA,aY ⟨by rw[e];rfl,congrArg _ (aS 2 rfl qD),rfl,rfl,rfl,A6 (hs _ (show k+d<n by omega)),aN fun q hq=>by simpa[aD]using hs q hq,qS,trivial⟩⟩
   ·have e:B8 (B (k+d)) (c+1) (wR B n k d q)=B8 (B (k+d)) c (wR B n k d q):=if_neg hgt
    refine gx ?_
    repeat refine aq ?_
    refine ag (aa.pure (gP (B (k+d) c) zc qO) af) ?_
    repeat refine aq ?_
    refine ag (aa.pure (fJ _ _ zc.abs.sz zm.sz qO) af) ?_
    refine ag (ao.no (decide_eq_false (mt fj.1 hgt)) af) ?_
    refine a5 (c+1) ?_
    exact⟨c+1,[0,1,2,3,4],hcn,cA,aY ⟨by rw[e];rfl,congrArg _ (aS 2 rfl qD),rfl,rfl,rfl,A6 (hs _ (show k+d<n by omega)),aN fun q hq=>by simpa[aD]using hs q hq,qS,trivial⟩⟩
  ·refine bd ?_
   obtain rfl:c=n:=qO
   refine a5 (d+1) ?_
   exact⟨d+1,[0,1,2,3,4],hdn,cA,aY ⟨rfl,congrArg _ (aS 2 rfl qD),rfl,rfl,rfl,aN fun q hq=>by simpa[aD]using hs q hq,qS,trivial⟩⟩
 ·refine bd ?_
  obtain rfl:d=n-k:=qO
  exact ab.gw rfl hes (.bK rfl fun i c d e=>by simp at e)
theorem kL {s:Nat->Nat} {p k:Nat}:a8 (a8 s k (s p)) p (s k)=se s p k:=by
 funext i
 unfold a8 se
 by_cases e:i=p
 ·rw[if_pos e,if_pos e]
 ·rw[if_neg e,if_neg e]
  by_cases e2:i=k
  ·rw[if_pos e2,if_pos e2]
  ·rw[if_neg e2,if_neg e2]
theorem BT {s:Nat->Nat} {n p k:Nat} (hs:∀i,i<n->s i<n) (hp:p<n) (hk:k<n):∀i,i<n->se s p k i<n:=fun i hi=>hs _ (ez hp hk hi)
theorem aF.perm {n:Nat} {s:Nat->Nat} {i:Int} {K:Nat->PV->Prop} (j:Nat) (hi:i=j) (hj:j<n) (hk:K j (.int .i64 ((s j:Nat):Int))):aF (eV n s) i K:=.mk j _ hi (dM hj) hk
theorem cm.perm {n i:Nat} {s:Nat->Nat} {K:Prop} (h:i<n) (hk:K):cm i (eV n s).length K:=.mk (by simpa using h) hk
theorem dp.perm {n i k:Nat} {s:Nat->Nat} {K:List PV->Prop} (hk:K (eV n (a8 s i k))):dp ((eV n s).set i (.int .i64 ((k:Nat):Int))) K:=.mk _ FG hk
theorem tq (n k:Nat) (G B:Nat->Nat->Rat) (s:Nat->Nat) (es:List (PV×PV)) (q:Rat) (b:Bool) {D:Nat} (hk:k<n) (hn:n<=1000) (hs:∀i,i<n->s i<n) (hG:∀i j,i<n->j<n->G (s i) j=B i j)
  (hB:∀i j,i<n->j<n->Bz (B i j) D) (hD:D+D<=1000000) (hes:∀e∈es,ct e.1/\ct e.2) (hb:b=decide (B (nk B n k) k≠0)):
  df Tryz.prog 181 [.aC 0 0,.p (.int .i64 (k:Int))] (oO n G s es q) (.p (.bool b)) (oO n G (se s (nk B n k) k) es q):=by
 obtain⟨p1,p2,_⟩:=dL (B:=B) hk
 refine aW Tryz.func181 ?_
 refine a5 (k+1+0) ?_
 refine aJ.mk Nat (fun d=>([(0,.aC 0 0),(1,.p (.int .i64 k)),(5,.p (.int .i64 (jC B k d:Nat))),(6,.p (.int .i64 ((k+1+d:Nat):Int)))],oO n G s es q))
  (fun d=>k+1+d<=n) (fun d=>n-d) 0 [0,1,2,3,4] (by show k+1+0<=n;omega) (aY ⟨rfl,congrArg _ (aS 2 rfl qD),rfl,rfl,rfl,aN fun q hq=>by simpa[aD]using hs q hq,qS,trivial⟩) ?_
 intro d (hd:k+1+d<=n)
 obtain⟨a1,a2,_⟩:=wh (B:=B) (k:=k) d
 refine SZ.mk (n:Int) rfl ?_
 by_cases hdn:k+1+d<n
 ·refine bo ?_
  have z1:=hB (k+1+d) k hdn hk
  have z2:=hB (jC B k d) k qO hk
  by_cases hgt:(B (jC B k d) k).abs<(B (k+1+d) k).abs
  ·have e:jC B k (d+1)=k+1+d:=if_pos hgt
   refine gx ?_
   repeat refine aq ?_
   refine ag (aK.mk (k+1+d) rfl hdn af) ?_
   refine ag (bJ.cO (k+1+d+0) rfl qO af) ?_
   repeat refine aq ?_
   refine ag (aK.mk k rfl hk af) ?_
   refine ag (eH.c9 (hs _ qO)<|aF.rv (k+0) (B (k+1+d) k) rfl qO (hG _ _ qO hk) af) ?_
   refine ag (aa.pure (gP _ z1 qO) af) ?_
   repeat refine aq ?_
   refine ag (aK.mk (jC B k d) rfl qO af) ?_
   refine ag (bJ.cO (jC B k d+0) rfl qO af) ?_
   repeat refine aq ?_
   refine ag (aK.mk k rfl hk af) ?_
   refine ag (eH.c9 (hs _ qO)<|aF.rv (k+0) (B (jC B k d) k) rfl qO (hG _ _ qO hk) af) ?_
   refine ag (aa.pure (gP _ z2 qO) af) ?_
   refine ag (aa.pure (fJ _ _ z1.abs.sz z2.abs.sz qO) af) ?_
   refine ag (ao.yes (decide_eq_true (fj.2 hgt)) af) ?_
   refine a5 (k+1+(d+1)) ?_
   exact⟨d+1,[0,1,2,3,4],by show k+1+(d+1)<=n;omega,cA,aY ⟨rfl,congrArg _ (aS 2 rfl qD),rfl,rfl,rfl,aN fun q hq=>by simpa[aD]using hs q hq,qS,trivial⟩ (ss:=⟨rfl,rfl,congrArg (fun x:Nat=>AV.p (.int .i64 (x:Int))) e,rfl,trivial⟩)⟩
  ·have e:jC B k (d+1)=jC B k d:=if_neg hgt
   refine gx ?_
   repeat refine aq ?_
   refine ag (aK.mk (k+1+d) rfl hdn af) ?_
   refine ag (bJ.cO (k+1+d+0) rfl qO af) ?_
   repeat refine aq ?_
   refine ag (aK.mk k rfl hk af) ?_
   refine ag (eH.c9 (hs _ qO)<|aF.rv (k+0) (B (k+1+d) k) rfl qO (hG _ _ qO hk) af) ?_
   refine ag (aa.pure (gP _ z1 qO) af) ?_
   repeat refine aq ?_
   refine ag (aK.mk (jC B k d) rfl qO af) ?_
   refine ag (bJ.cO (jC B k d+0) rfl qO af) ?_
   repeat refine aq ?_
   refine ag (aK.mk k rfl hk af) ?_
   refine ag (eH.c9 (hs _ qO)<|aF.rv (k+0) (B (jC B k d) k) rfl qO (hG _ _ qO hk) af) ?_
   refine ag (aa.pure (gP _ z2 qO) af) ?_
   refine ag (aa.pure (fJ _ _ z1.abs.sz z2.abs.sz qO) af) ?_
   refine ag (ao.no (decide_eq_false (mt fj.1 hgt)) af) ?_
   refine a5 (k+1+(d+1)) ?_
   exact⟨d+1,[0,1,2,3,4],by show k+1+(d+1)<=n;omega,cA,aY ⟨rfl,congrArg _ (aS 2 rfl qD),rfl,rfl,rfl,aN fun q hq=>by simpa[aD]using hs q hq,qS,trivial⟩ (ss:=⟨rfl,rfl,congrArg (fun x:Nat=>AV.p (.int .i64 (x:Int))) e,rfl,trivial⟩)⟩
 ·refine bd ?_
  have e:jC B k d=nk B n k:=by unfold nk;rw[show n-1-k=d by omega]
  rw[e]
  generalize hp:nk B n k=p at p1 p2 hb⊢
  have hs':=BT hs p2 hk
  refine cS ?_
  repeat refine aq ?_
  refine ag (aK.mk p rfl p2 af) ?_
  refine ag (bJ.cO (p+0) rfl p2 af) ?_
  repeat refine aq ?_
  refine ag (aK.mk k rfl hk af) ?_
  refine ag (bJ.cO (k+0) rfl hk af) ?_
  refine ag (aK.mk k rfl hk af) ?_
  refine ag (cm.cO hk<|rR.cO af) ?_
  refine ag (aK.mk p rfl p2 af) ?_
  refine ag (cm.cO p2<|rR.cO af) ?_
  refine cX ?_
  refine cS ?_
  repeat refine aq ?_
  refine ag (aK.mk p rfl p2 af) ?_
  refine ag (aF.perm p rfl p2 af) ?_
  repeat refine aq ?_
  refine ag (aK.mk k rfl hk af) ?_
  refine ag (aF.perm k rfl hk af) ?_
  refine ag (aK.mk k rfl hk af) ?_
  refine ag (cm.perm hk<|dp.perm af) ?_
  refine ag (aK.mk p rfl p2 af) ?_
  refine ag (cm.perm p2<|dp.perm af) ?_
  refine cX ?_
  refine aK.mk k rfl hk ?_
  refine bJ.cO (k+0) rfl hk ?_
  refine aK.mk k rfl hk ?_
  have eg:G (a8 (a8 s k (s p)) p (s k) k) k=B p k:=by
   rw[kL]
   show G (s (if k=p then k else if k=k then p else k)) k=_
   by_cases c:k=p
   ·rw[if_pos c,hG k k hk hk,c]
   ·rw[if_neg c,if_pos rfl,hG p k p2 hk]
  have el:a8 (a8 s k (s p)) p (s k) k<n:=by rw[kL];exact hs' k hk
  refine eH.c9 el ?_
  refine aF.rv (k+0) (B p k) rfl hk eg ?_
  refine SZ.mk (az (B p k).num.natAbs:Int) qS ?_
  by_cases hz:B p k=0
  ·refine ao.no (decide_eq_false (by rw[Hw hz];decide)) ?_
   have hb:b=false:=by rw[hb];exact decide_eq_false (fun h=>h hz)
   subst hb
   rw[<-kL]
   exact ab.gw rfl hes (.tf _)
  ·refine ao.yes (decide_eq_true (by have:=I5 hz;omega)) ?_
   have hb:b=true:=by rw[hb];exact decide_eq_true hz
   subst hb
   rw[<-kL]
   exact ab.gw rfl hes (.tf _)
abbrev Ji (s:Nat->Nat) (P:Nat->Nat->Rat) (k d:Nat):PV×PV:=(cI (s (k+1+d)) k,aB (P (k+1+d) k/P k k))
def xj (es:List (PV×PV)) (k:Nat):Prop:=∀e∈es,∃r j v,e=(cI r j,aB v)/\j<k
theorem xj.wH {es:List (PV×PV)} {k:Nat} (h:xj es k):∀e∈es,ct e.1/\ct e.2:=fun e he=>by
 obtain⟨r,j,v,rfl,_⟩:=h e he
 exact⟨qb _ _,aG _ _ _⟩
theorem xj.app {es:List (PV×PV)} {k d:Nat} {s:Nat->Nat} {P:Nat->Nat->Rat} (h:xj es k):xj (es++fl d (Ji s P k)) (k+1):=fun e he=>by
 rcases List.mem_append.1 he with he|he
 ·obtain⟨r,j,v,e,hj⟩:=h e he
  exact⟨r,j,v,e,qO⟩
 ·obtain⟨d,_,rfl⟩:=dX he
  exact⟨_,_,_,rfl,qO⟩
theorem bn.kb {b:PV->Bool} {es:List (PV×PV)} {k:Nat} {K:Prop} (h:xj es k) (hb:∀i k:Nat,b (cI i k)=true) (hK:K):bn b es K:=
 .mk (fun e he=>by obtain⟨r,j,v,rfl,_⟩:=h e he;exact hb _ _) hK
theorem dZ.kb {es:List (PV×PV)} {n k d i:Nat} {s:Nat->Nat} {P:Nat->Nat->Rat} {v:PV} {K:List (PV×PV)->Prop} (h:xj es k) (inj:∀i j,i<n->j<n->s i=s j->i=j) (hi:i=k+1+d) (hd:i<n) (hv:v=aB (P i k/P k k))
  (hK:K (es++fl (d+1) (Ji s P k))):dZ (es++fl d (Ji s P k)) (cI (s i) k) v K:=by
 subst hv;subst hi
 refine .new _ (fun e he=>?_) (by rw[List.append_assoc,oH]) hK
 rcases List.mem_append.1 he with he|he
 ·obtain⟨r,j,v,rfl,hj⟩:=h e he
  rw[dc];exact decide_eq_false fun h=>qO
 ·obtain⟨d',hd',rfl⟩:=dX he
  rw[dc];exact decide_eq_false fun⟨h,_⟩=>by have:=inj _ _ hd qO h;omega
set_option maxHeartbeats 1000000 in
theorem vL (n k:Nat) (G P:Nat->Nat->Rat) (s si:Nat->Nat) (es:List (PV×PV)) (q:Rat) {D:Nat} (hk:k<n) (hn:n<=1000) (hs:∀i,i<n->s i<n) (inj:∀i j,i<n->j<n->s i=s j->i=j)
  (hsi:∀r,r<n->si r<n/\s (si r)=r) (hG:∀i j,i<n->j<n->G (s i) j=P i j) (hP:∀i j,i<n->j<n->Bz (P i j) D) (hD:4*D+1<=1000000) (hp:P k k≠0) (hes:xj es k):
  df Tryz.prog 182 [.aC 0 0,.p (.int .i64 (k:Int))] (oO n G s es q) (.bK []) (oO n (fun r j=>ky P k (si r) j) s (es++fl (n-1-k) (Ji s P k)) q):=by
 refine aW Tryz.func182 ?_
 refine a5 (k+1) ?_
 refine aJ.mk (Nat×Nat×(Nat->Nat->Rat)) (fun(i,d,G)=>([(0,.aC 0 0),(1,.p (.int .i64 k)),(4,.p (.int .i64 (i:Nat)))],oO n G s (es++fl d (Ji s P k)) q))
  (fun(i,d,G)=>i=k+1+d/\i<=n/\∀t c,t<n->c<n->G (s t) c=if t<i then ky P k t c else P t c) (fun x=>n-x.1) (k+1,0,G) [0,1,2,3,4]
  ⟨rfl,qO,fun t c ht hc=>by
   rw[hG t c ht hc]
   split
   ·unfold ky;rw[if_neg qO]
   ·rfl⟩ (aY ⟨rfl,congrArg _ (aS 2 rfl qD),rfl,rfl,congrArg aA.map (List.append_nil _),aN fun q hq=>by simpa[aD]using hs q hq,qS,trivial⟩) ?_
 intro⟨i,d,G1⟩ ⟨hi,hd,hG1⟩
 refine SZ.mk (n:Int) rfl ?_
 by_cases hin:i<n
 ·refine bo ?_
  have gi:∀c,c<n->G1 (s i) c=P i c:=fun c hc=>by rw[hG1 i c qO hc,if_neg qO]
  have gk:∀c,c<n->G1 (s k) c=P k c:=fun c hc=>by rw[hG1 k c hk hc,if_pos qO];unfold ky;rw[if_neg (Nat.lt_irrefl k)]
  have z1:=hP i k hin hk
  have z2:=hP k k hk hk
  have zq:=z1.div z2
  have hq:=iS (P i k) (P k k) hp z1.sz z2.sz qO
  obtain⟨Q,hQ⟩:∃Q,Q=P i k/P k k:=⟨_,rfl⟩
  rw[<-hQ]at zq hq
  refine cS ?_
  repeat refine aq ?_
  refine ag (aK.mk i rfl hin af) ?_
  refine ag (bJ.cO (i+0) rfl hin af) ?_
  repeat refine aq ?_
  refine ag (aK.mk k rfl hk af) ?_
  refine ag (eH.c9 (hs _ hin)<|aF.rv (k+0) (P i k) rfl hk (gi k hk) af) ?_
  repeat refine aq ?_
  refine ag (aK.mk k rfl hk af) ?_
  refine ag (bJ.cO (k+0) rfl hk af) ?_
  repeat refine aq ?_
  refine ag (aK.mk k rfl hk af) ?_
  refine ag (eH.c9 (hs _ hk)<|aF.rv (k+0) (P k k) rfl hk (gk k hk) af) ?_
  refine ag (aa.aO (hq) (fun _=>rfl) af) ?_
  repeat refine aq ?_
  refine cX ?_
  refine cS ?_
  repeat refine aq ?_
  refine ag (aK.mk i rfl hin af) ?_
  refine ag (aF.perm (i+0) rfl hin af) ?_
  repeat refine aq ?_
  refine ag (bn.kb hes.app (fun _ _=>rfl)<|dZ.kb (P:=P) hes inj hi hin (congrArg aB hQ) af) ?_
  refine cX ?_
  refine aK.mk i rfl hin ?_
  refine bJ.cO (i+0) rfl hin ?_
  refine SZ.mk (n:Int) rfl ?_
  refine aJ.mk (Nat×(Nat->Nat->Rat)) (fun(c,G)=>([(0,.aC 0 0),(1,.p (.int .i64 k)),(4,.p (.int .i64 (i:Nat))),(5,.aC 5 0),(64,.p (.int .i64 n)),(65,.p (.int .i64 (c:Nat)))],oO n G s (es++fl (d+1) (Ji s P k)) q++[.box 31 (lr Q)]))
   (fun(c,G)=>c<=n/\∀t x,t<n->x<n->G (s t) x=if t=i then(if x<c then ky P k i x else P i x)else G1 (s t) x) (fun x=>n-x.1) (0,G1) [0,1,2,3,4,5]
   ⟨Nat.zero_le _,fun t x ht hx=>by
    by_cases e:t=i
    ·rw[if_pos e,if_neg (Nat.not_lt_zero _),e];exact gi x hx
    ·rw[if_neg e]⟩ (aY ⟨rfl,congrArg _ (aS 2 rfl qD),rfl,rfl,rfl,rfl,aN fun q hq=>by simpa[aD]using hs q hq,qS,trivial⟩) ?_
  intro⟨c,G2⟩ ⟨hc,hG2⟩
  by_cases hcn:c<n
  ·refine bo ?_
   have di:G2 (s i) c=P i c:=by rw[hG2 i c hin hcn,if_pos rfl,if_neg (Nat.lt_irrefl c)]
   have dk:G2 (s k) c=P k c:=by rw[hG2 k c hk hcn,if_neg qO];exact gk c hcn
   have z3:=hP i c hin hcn
   have z4:=hP k c hk hcn
   refine cS ?_
   repeat refine aq ?_
   refine ag (aK.mk i rfl hin af) ?_
   refine ag (bJ.cO (i+0) rfl hin af) ?_
   repeat refine aq ?_
   refine ag (aK.mk i rfl hin af) ?_
   refine ag (bJ.cO (i+0) rfl hin af) ?_
   repeat refine aq ?_
   refine ag (aK.mk c rfl hcn af) ?_
   refine ag (eH.c9 (hs _ hin)<|aF.rv (c+0) (P i c) rfl hcn di af) ?_
   repeat refine aq ?_
   refine ag (aK.mk k rfl hk af) ?_
   refine ag (bJ.cO (k+0) rfl hk af) ?_
   repeat refine aq ?_
   refine ag (aK.mk c rfl hcn af) ?_
   refine ag (eH.c9 (hs _ hk)<|aF.rv (c+0) (P k c) rfl hcn dk af) ?_
   refine ag (aa.pure (cE Q (P k c) zq.sz z4.sz qO) af) ?_
   refine ag (aa.pure (dh (P i c) (Q*P k c) z3.sz (zq.mul z4).sz qO) af) ?_
   refine ag (aK.mk c rfl hcn af) ?_
   refine ag (eH.c9 (hs _ hin)<|cm.rf (show c+0<n by omega)<|dp.rf af) ?_
   refine rE.c9 (hs _ hin) ?_
   refine cX ?_
   refine a5 (c+1) ?_
   refine⟨(c+1,_),[0,1,2,3,4,5],⟨hcn,?_⟩,cA,aY ⟨rfl,congrArg _ (aS 2 rfl qD),rfl,rfl,rfl,rfl,aN fun q hq=>by simpa[aD]using hs q hq,qS,trivial⟩ (ss:=⟨rfl,rfl,rfl,rfl,rfl,rfl,trivial⟩)⟩
   exact mX inj hin hcn hG2 (by rw[hQ];exact(if_pos qO).symm)
  ·refine bd ?_
   obtain rfl:c=n:=qO
   refine a5 (i+1) ?_
   refine⟨(i+1,d+1,G2),[0,1,2,3,4],⟨qO,hin,fun t x ht hx=>?_⟩,cA,aY ⟨rfl,congrArg _ (aS 2 rfl qD),rfl,rfl,rfl,aN fun q hq=>by simpa[aD]using hs q hq,qS,trivial⟩⟩
   rw[hG2 t x ht hx]
   by_cases e:t=i
   ·rw[if_pos e,if_pos hx,if_pos qO,e]
   ·rw[if_neg e,hG1 t x ht hx]
    by_cases e2:t<i
    ·rw[if_pos e2,if_pos qO]
    ·rw[if_neg e2,if_neg qO]
 ·refine bd ?_
  obtain rfl:d=n-1-k:=qO
  have e:c9 n n G1=c9 n n fun r j=>ky P k (si r) j:=vK fun r j hr hj=>by
   obtain⟨h1,h2⟩:=hsi r hr
   have:=hG1 (si r) j h1 hj
   rw[h2,if_pos qO]at this
   exact this
  exact ab.gw (congrArg (fun x=>[aA.box 187 (Lm n q),.rows 24 (cO 2 n n s),.bu 31 3 x,.vec 3 1 (eV n s),.map (es++fl (n-1-k) (Ji s P k))]) e) hes.app.wH (.bK rfl fun i c d e=>by simp at e)
theorem Fa (i j:Nat):ae Tryz.prog 197 [cI i j] (.p (.bool (decide (j<i)))) []:=by
 by_cases c:j<i
 ·rw[decide_eq_true c]
  refine aW Tryz.func197 ?_
  refine SZ.mk (i:Int) (by show(if(j:Int)>i then(j:Int)else i)=i;split<;>omega) ?_
  have h1:((i:Int)==(i:Int))=true:=jx rfl
  have h2:((j:Int)==(i:Int))=false:=iO qO
  refine ao.yes (by rw[h1,h2];rfl) ?_
  refine bo ?_
  exact ab.pure (.tf _)
 ·rw[decide_eq_false c]
  refine aW Tryz.func197 ?_
  refine SZ.mk (j:Int) (by show(if(j:Int)>i then(j:Int)else i)=j;split<;>omega) ?_
  have h1:((i:Int)==(i:Int))=true:=jx rfl
  have h2:((j:Int)==(j:Int))=true:=jx rfl
  refine ao.no (by rw[h1,h2];rfl) ?_
  exact ab.pure (.tf _)
def rG (n:Nat) (A:Nat->Nat->Rat):Nat->List (PV×PV)
 |0=>[]
 |k+1=>rG n A k++fl (n-1-k) (Ji (gk n A (k+1)).s (mc n A k) k)
theorem iy {n:Nat} {A:Nat->Nat->Rat}:∀k,xj (rG n A k) k:=by
 intro k
 induction k with
 |zero=>intro e he;simp[rG]at he
 |succ k ih=>exact ih.app
theorem KZ {n:Nat} {A:Nat->Nat->Rat}:∀k,k<=n->∀i j,i<n->j<i->j<k->∃a:Nat,(rG n A k)[a]?=some (cI ((gk n A k).s i) j,aB ((gk n A k).M i j))/\
  ∀(b:Nat) e',b≠a->(rG n A k)[b]?=some e'->PV.iZ (cI ((gk n A k).s i) j) e'.1=false:=by
 intro k
 induction k with
 |zero=>intro _ i j _ _ h;exact absurd h (Nat.not_lt_zero _)
 |succ k ih=>
  intro hk i j hi hji hjk
  obtain⟨p1,p2,_⟩:=dL (B:=(gk n A k).B) (n:=n) (k:=k) qO
  obtain⟨_,inj,_⟩:=i6 (n:=n) (A:=A) (k+1) hk
  have news:∀(b:Nat) e',(fl (n-1-k) (Ji (gk n A (k+1)).s (mc n A k) k))[b]?=some e'->∃d,d=b/\k+1+d<n/\e'=Ji (gk n A (k+1)).s (mc n A k) k d:=fun b e' he=>by
   obtain⟨hb,rfl⟩:=cu.1 he
   exact⟨b,rfl,qO,rfl⟩
  simp only[rG]
  by_cases e:j=k
  ·subst e
   have eM:(gk n A (j+1)).M i j=mc n A j i j/mc n A j j j:=by rw[fc];show rO _ _ j i j=_;unfold rO;rw[if_pos rfl,if_pos hji]
   refine⟨(rG n A j).length+(i-(j+1)),?_,fun b e' hb he=>?_⟩
   ·rw[List.getElem?_append_right qO,show(rG n A j).length+(i-(j+1))-(rG n A j).length=i-(j+1) by omega,dM qO,eM]
    simp only[Ji]
    rw[show j+1+(i-(j+1))=i by omega]
   ·by_cases hl:b<(rG n A j).length
    ·rw[List.getElem?_append_left hl]at he
     obtain⟨r,j',v,rfl,hj'⟩:=iy j e' (List.mem_of_getElem? he)
     rw[dc];exact decide_eq_false fun h=>qO
    ·rw[List.getElem?_append_right qO]at he
     obtain⟨d,hd,hdn,rfl⟩:=news _ _ he
     rw[dc]
     exact decide_eq_false fun⟨h,_⟩=>by have:=inj _ _ hi hdn h;omega
  ·have hi':=ez p2 (show k<n by omega) hi
   have hji':j<(if i=nk (gk n A k).B n k then k else if i=k then nk (gk n A k).B n k else i):=by
    by_cases c:i<k
    ·rw[wW p1 c];exact hji
    ·have:=yd p1 (show k<=i by omega);omega
   obtain⟨a,h1,h2⟩:=ih qO _ j hi' hji' qO
   have eS:(gk n A (k+1)).s i=(gk n A k).s (if i=nk (gk n A k).B n k then k else if i=k then nk (gk n A k).B n k else i):=by rw[fc];rfl
   have eM:(gk n A (k+1)).M i j=(gk n A k).M (if i=nk (gk n A k).B n k then k else if i=k then nk (gk n A k).B n k else i) j:=by rw[fc];exact if_neg e
   have hl:=(List.getElem?_eq_some_iff.1 h1).1
   refine⟨a,by rw[List.getElem?_append_left hl,eS,eM];exact h1,fun b e' hb he=>?_⟩
   by_cases hl:b<(rG n A k).length
   ·rw[List.getElem?_append_left hl]at he;rw[eS];exact h2 b e' hb he
   ·rw[List.getElem?_append_right qO]at he
    obtain⟨d,hd,hdn,rfl⟩:=news _ _ he
    rw[dc];exact decide_eq_false fun h=>qO
abbrev OF (n:Nat) (rows:List PV) (s:Nat->Nat) (es:List (PV×PV)) (q:Rat):PV:=.f5 true (.agg [.sl true 1 rows,.sl true 1 (eV n s),.mp true es,.bool (decide (q.num<0)),cg q.num.natAbs,cg q.den])
theorem vB (n:Nat) (A:Nat->Nat->Rat) (rows:List PV) (q:Rat) {D:Nat} (i j:Nat) (hi:i<n) (hj:j<n) (hz:Bz (gL n A i j) D) (hD:D<=1000000):
  ae Tryz.prog 184 [OF n rows (gO n A) (rG n A n) q,cI i j] (.p (aB (gL n A i j))) []:=by
 by_cases e:i=j
 ·subst e
  rw[xr hi]
  refine aW Tryz.func184 ?_
  refine ao.yes (jx rfl) ?_
  refine aa.pure (Lp) ?_
  exact ab.pure (.p _ (aG _ _ _))
 ·have hb:=Fa i j
  by_cases c:j<i
  ·rw[decide_eq_true c]at hb
   obtain⟨a,h1,h2⟩:=KZ (A:=A) n (Nat.le_refl _) i j hi c hj
   refine aW Tryz.func184 ?_
   refine ao.no (iO qO) ?_
   refine aa.pure (hb) ?_
   refine gv ?_
   refine cS ?_
   repeat refine aq ?_
   refine ag (aF.perm i rfl hi af) ?_
   repeat refine aq ?_
   refine ag (bn.kb (iy n) (fun _ _=>rfl)<|eo.yes a _ h1 (by rw[dc];exact decide_eq_true ⟨rfl,rfl⟩) h2 af) ?_
   refine ag (aa.pure (kD) af) ?_
   refine ag (aa.pure (jv hz hD) af) ?_
   repeat refine aq ?_
   refine cX ?_
   exact ab.pure (.p _ (aG _ _ _))
  ·rw[decide_eq_false c]at hb
   rw[Gm hi qO]
   refine aW Tryz.func184 ?_
   refine ao.no (iO qO) ?_
   refine aa.pure (hb) ?_
   refine fI ?_
   refine aa.pure (kD) ?_
   exact ab.pure (.p _ (aG _ _ _))
abbrev vq (p c n k q c':Nat):List AV:=fl n fun i=>if i<k then .vec (.r p i) 3 0 c else if i=k then .vec (.t q) 3 0 c' else .emp
theorem yo {p c n k:Nat} (h:k<n):(half p c n k)[k]?=some .emp:=by rw[dM h,if_neg (Nat.lt_irrefl k)]
theorem Fo {p c n k q c':Nat}:(half p c n k).set k (.vec (.t q) 3 0 c')=vq p c n k q c':=by
 rw[gF]
 refine aU fun i _=>?_
 unfold a8
 by_cases e:i=k
 ·rw[if_pos e,if_neg qO,if_pos e]
 ·rw[if_neg e]
  show(if i<k then AV.vec (.r p i) 3 0 c else .emp)=_
  by_cases e2:i<k
  ·rw[if_pos e2,if_pos e2]
  ·rw[if_neg e2,if_neg e2,if_neg e]
theorem Gj {p c n k q c':Nat} (h:k<n):(vq p c n k q c')[k]?=some (.vec (.t q) 3 0 c'):=by rw[dM h,if_neg (Nat.lt_irrefl k),if_pos rfl]
theorem IU {p c n k q c' q2 c2:Nat}:(vq p c n k q c').set k (.vec (.t q2) 3 0 c2)=vq p c n k q2 c2:=by
 rw[gF]
 refine aU fun i _=>?_
 unfold a8
 by_cases e:i=k
 ·rw[if_pos e,if_neg qO,if_pos e]
 ·rw[if_neg e]
  show(if i<k then AV.vec (.r p i) 3 0 c else if i=k then AV.vec (.t q) 3 0 c' else .emp)=_
  by_cases e2:i<k
  ·rw[if_pos e2,if_pos e2]
  ·rw[if_neg e2,if_neg e2,if_neg e,if_neg e]
theorem y6 {hs:List Nat} {P:Hp} {p c n k q c':Nat} (p' q':Nat) (hp:hs.getD p 0=p') (hp':p'<1000) (hq:hs.getD q 0=q') (hq':q'<1000):AV.de (dy hs P) (vq p c n k q c')=vq p' c n k q' c':=by
 rw[fU]
 refine aU fun i hi=>?_
 have eb:Nat.blt p' 1000=true:=cD.2 hp'
 have ec:Nat.blt q' 1000=true:=cD.2 hq'
 by_cases e:i<k
 ·rw[if_pos e,if_pos e];simp only[AV.dm,dy,hp,eb,cond_true]
 ·rw[if_neg e,if_neg e]
  by_cases e2:i=k
  ·rw[if_pos e2,if_pos e2];simp only[AV.dm,dy,hq,ec,cond_true];rw[show vp q'=q' from Nat.mod_eq_of_lt hq']
  ·rw[if_neg e2,if_neg e2];simp only[AV.dm]
theorem z5 {hs:List Nat} {P:Hp} {p c n k:Nat} (p':Nat) (hp:hs.getD p 0=p') (hp':p'<1000):AV.de (dy hs P) (half p c n k)=half p' c n k:=by
 rw[fU]
 refine aU fun i hi=>?_
 have eb:Nat.blt p' 1000=true:=cD.2 hp'
 by_cases e:i<k
 ·rw[if_pos e,if_pos e];simp only[AV.dm,dy,hp,eb,cond_true]
 ·rw[if_neg e,if_neg e];simp only[AV.dm]
theorem CE {P:Hp} {p c n k q c':Nat} (h:∀i,i<k->i<aD P p) (hq:look P (.t q)≠ .free):∀x∈vq p c n k q c',∀h,x.aT h->look P h≠ .free:=by
 intro x hx g hg
 obtain⟨i,hi,rfl⟩:=dX hx
 by_cases e:i<k
 ·rw[if_pos e]at hg
  simp only[AV.aT]at hg
  subst hg
  exact kI (h i e)
 ·rw[if_neg e]at hg
  by_cases e2:i=k
  ·rw[if_pos e2]at hg
   simp only[AV.aT]at hg
   subst hg;exact hq
  ·rw[if_neg e2]at hg;exact hg.elim
theorem Lv (m m':Bool) (n:Nat) (A:Nat->Nat->Rat) {D:Nat} (n1:1<=n) (hn:n<=1000) (hA:∀i j,i<n->j<n->Bz (A i j) D) (hD:D<=1000000):
  ae Tryz.prog 183 [cn m m' n n A] (.p (cn false false n n A)) []:=by
 refine aW Tryz.func183 ?_
 refine SZ.mk (n:Int) qS ?_
 refine SZ.mk (n:Int) rfl ?_
 refine cm.mk qS ?_
 refine cy.mk n rfl (by simp;omega) qO ?_
 refine Ou.rows ?_
 refine SZ.mk (n:Int) qS ?_
 refine aJ.yu Nat (fun i=>([(0,.p (cn m m' n n A)),(3,.vec 0 1 0 n),(11,.p (.int .i64 n)),(12,.p (.int .i64 (i:Nat)))],[.rows 24 (half 1 n n i),.bu 31 3 (c9 i n A)]))
  (fun i=>i<=n) (fun i=>n-i) 0 [0,1] _ _ (.bu 31 3 (.done _ _)) (Nat.zero_le _) (aY ⟨congrArg _ ke,rfl,fW fun i hi=>absurd hi (Nat.not_lt_zero _),trivial⟩) ?_
 intro i (hi:i<=n)
 by_cases hin:i<n
 ·refine bo ?_
  refine aF.mf i rfl hin ?_
  refine SZ.mk (n:Int) (by simp[aH]) ?_
  refine aJ.mk Nat (fun j=>match j with
    |0=>([(0,.p (cn m m' n n A)),(3,.vec 0 1 0 n),(4,.p (.int .i64 (i:Nat))),(11,.p (.int .i64 n)),(12,.p (.int .i64 (i:Nat))),(18,.p (ar m' (aH n (A i)))),(19,.p (.int .i64 n)),(20,.p (.int .i64 0))],[.rows 24 (half 1 n n i),.bu 31 3 (c9 i n A)])
    |j+1=>([(0,.p (cn m m' n n A)),(3,.vec 0 1 0 n),(4,.p (.int .i64 (i:Nat))),(11,.p (.int .i64 n)),(12,.p (.int .i64 (i:Nat))),(18,.p (ar m' (aH n (A i)))),(19,.p (.int .i64 n)),(20,.p (.int .i64 ((j+1:Nat):Int)))],[.rows 24 (vq 1 n n i 2 (j+1)),.bu 31 3 (c9 i n A),.vec 31 3 (a7 (aH (j+1) (A i)))]))
   (fun j=>j<=n) (fun j=>n-j) 0 [0,1] (Nat.zero_le _) (aY ⟨congrArg _ (z5 1 rfl qD),rfl,fW fun i hi=>by simpa[aD]using hi,trivial⟩) ?_
  intro j hj
  match j,hj with
  |0,hj=>
   refine bo ?_
   refine aF.rf 0 rfl qO ?_
   refine cS ?_
   repeat refine aq ?_
   refine ag (aK.mk i rfl hin af) ?_
   refine ag (bJ.mk (i+0) _ rfl (yo hin) af) ?_
   repeat refine aq ?_
   refine ag (aa.pure (kD) af) ?_
   refine ag (aa.pure (jv (hA i 0 hin qO) hD) af) ?_
   repeat refine aq ?_
   refine ag (bl.all rfl<|cG.mk qS qS af) ?_
   repeat refine aq ?_
   refine ag (aK.mk i rfl hin af) ?_
   refine ag (cm.mk (by simp;omega)<|rR.mk (vq 1 n n i 4 1) Fo af) ?_
   repeat refine aq ?_
   refine cX ?_
   refine a5 (0+1) ?_
   exact⟨1,[0,1,4],n1,cA,aY ⟨congrArg _ (y6 1 4 rfl qD rfl qD),rfl,rfl,CE (fun i hi=>by simpa[aD]using hi) (fun e=>by cases e),trivial⟩⟩
  |j+1,hj=>
   have hj:j+1<=n:=hj
   by_cases hjn:j+1<n
   ·refine bo ?_
    refine aF.rf (j+1) rfl hjn ?_
    refine cS ?_
    repeat refine aq ?_
    refine ag (aK.mk i rfl hin af) ?_
    refine ag (bJ.mk (i+0) _ rfl (Gj hin) af) ?_
    repeat refine aq ?_
    refine ag (aa.pure (kD) af) ?_
    refine ag (aa.pure (jv (hA i (j+1) hin hjn) hD) af) ?_
    repeat refine aq ?_
    refine ag (iq.mk (by simp[aH])<|bl.all rfl<|cG.mk (by simp[aH];omega) (by simp[aH];omega)<|dp.mk (a7 (aH (j+1+1) (A i))) (jR _ _ _ (rfl))<|pa.mk (j+1+1) (by simp[aH]) af) ?_
    repeat refine aq ?_
    refine ag (aK.mk i rfl hin af) ?_
    refine ag (cm.mk (by simp;omega)<|rR.mk (vq 1 n n i 5 (j+1+1)) IU af) ?_
    repeat refine aq ?_
    refine cX ?_
    refine a5 (j+1+1) ?_
    exact⟨j+1+1,[0,1,5],hjn,cA,aY ⟨congrArg _ (y6 1 5 rfl qD rfl qD),rfl,rfl,CE (fun i hi=>by simpa[aD]using hi) (fun e=>by cases e),trivial⟩⟩
   ·refine bd ?_
    obtain rfl:n=j+1:=qO
    refine a5 (i+1) ?_
    exact⟨i+1,[0,3001],hin,cA,aY ⟨congrArg _ (iH rfl qD (by simp[aD])),⟨_,_,_,_,rfl,rfl,congrArg _ eW⟩,fW fun i hi=>by simpa[aD]using hi,trivial⟩⟩
 ·refine bd ?_
  obtain rfl:i=n:=qO
  exact ab.pure (yR (H:=[_,_]) (h:=0) (p:=1) (congrArg (aA.rows _) kq) rfl fun i hi=>hi)
def lq (p' p:PV):Prop:=∀w FB v,PR w FB p' v->PR w FB p v
theorem lq.refl (p:PV):lq p p:=fun _ _ _ h=>h
theorem lq.nil (m:Bool) (W:Nat):lq (.raw (.slice none 0 0)) (.sl m W []):=fun w FB v h=>by cases h;exact .nil _ _ _
theorem lq.agg {cs' cs:List PV} (hl:cs'.length=cs.length) (ho:∀c∈cs,c.one=true) (h:∀(i:Nat) c' c,cs'[i]?=some c'->cs[i]?=some c->lq c' c):lq (.agg cs') (.agg cs):=fun w FB v hv=>by
 cases hv with
 |agg _ vs hone hl' h'=>
  refine .agg cs vs ho (by rw[hl',hl]) fun i c v e1 e2=>?_
  have hi:i<cs'.length:=by rw[hl];exact(List.getElem?_eq_some_iff.1 e1).1
  exact h i cs'[i] c (List.getElem?_eq_getElem hi) e1 _ _ _ (h' i _ v (List.getElem?_eq_getElem hi) e2)
theorem df.w8 {P:Program} {f:FuncId} {pvs pvs':List PV} {r:AV} {nb:List aA} (hc:ae P f pvs r nb) (hl:pvs'.length=pvs.length) (h:∀(i:Nat) p' p,pvs'[i]?=some p'->pvs[i]?=some p->lq p' p):ae P f pvs' r nb:=
 ⟨hc.fn,fun w F bW β vs ha=>hc.run w F bW β vs {ha with
  len:=by rw[ha.len,List.length_map,List.length_map,hl]
  rel:=fun i a v e1 e2=>by
   rw[List.getElem?_map]at e1
   cases e:pvs[i]? with
   |none=>rw[e]at e1;cases e1
   |some p=>
    rw[e]at e1;cases e1
    have hi:i<pvs'.length:=by rw[hl];exact(List.getElem?_eq_some_iff.1 e).1
    have e':pvs'[i]?=some pvs'[i]:=List.getElem?_eq_getElem hi
    have:=ha.rel i (.p pvs'[i]) v (by rw[List.getElem?_map,e'];rfl) e2
    exact .p (h i _ p e' e _ _ _ this.D6)
  ma:=fun a ha k hk=>by obtain⟨v,_,rfl⟩:=List.mem_map.1 ha;simp only[AV.aT]at hk}⟩
theorem HD:ae Tryz.prog 211 [] (.p (aB 0)) []:=by
 refine aW Tryz.func211 ?_
 refine ab.pure ?_
 rw[e8]
 exact iY ⟨rfl,rfl,rfl⟩ (.p _ (.bool _)) (.p _ (.sl _ _ (fun e he=>by simp at he))) (ka rfl)
theorem Lj:ae Tryz.prog 241 [] (.p (aB 1)) []:=by
 refine aW Tryz.func241 ?_
 refine ab.pure ?_
 rw[jd]
 exact iY ⟨rfl,rfl,rfl⟩ (.p _ (.bool _)) (ka rfl) (ka rfl)
theorem pE (p q:Rat) (hq0:q≠0) {j k:Nat} (hp:Bz p j) (hq:Bz q k) (h:j+k<=137438953472):ae Tryz.prog 240 [aB p,aB q] (.p (aB (p/q))) []:=by
 refine aW Tryz.func240 ?_
 refine aa.aO (iS p q hq0 hp.sz hq.sz h) (fun _=>rfl) ?_
 exact ab.pure (.p _ (aG _ _ _))
theorem IW (i k:Nat):ae Tryz.prog 243 [cI i k] (.p (.bool (decide (i=k)))) []:=by
 refine aW Tryz.func243 ?_
 refine ao.sym ?_
 have:(((i:Int)==(k:Int))&&(((k:Int)==(i:Int))&&true))=decide (i=k):=by
  by_cases e:i=k
  ·subst e;simp
  ·rw[decide_eq_false e,beq_eq_false_iff_ne.2 (show(i:Int)≠k by omega)];rfl
 rw[this]
 exact ab.pure (.p _ (.bool _))
abbrev wD (n:Nat) (f:Nat->Nat->Rat):PV:=.mp false (ff n f (n*n))
theorem A8 (m m':Bool) (n:Nat) (x y:Nat->Rat) {b c:Nat} (hx:∀i,i<n->Bz (x i) b) (hy:∀i,i<n->Bz (y i) c) (hb:b+c<=1048576) (hn:n<=1000):
  ae Tryz.prog 238 [ar m (aH n x),ar m' (aH n y)] (.p (wD n fun i k=>x i-y k)) []:=by
 refine aW Tryz.func238 ?_
 refine SZ.mk (n:Int) (by simp[aH]) ?_
 refine aJ.mk Nat (fun i=>([(1,.p (ar m' (aH n y))),(5,.map 0),(11,.p (ar m (aH n x))),(12,.p (.int .i64 n)),(13,.p (.int .i64 i))],[.map (ff n (fun i k=>x i-y k) (i*n))]))
  (fun i=>i<=n) (fun i=>n-i) 0 [0] (Nat.zero_le _) (aY ⟨by rw[Nat.zero_mul];rfl,trivial⟩) ?_
 intro i (hi:i<=n)
 by_cases hin:i<n
 ·refine bo ?_
  refine aF.rf i rfl hin ?_
  refine SZ.mk (n:Int) (by simp[aH]) ?_
  refine aJ.mk Nat (fun k=>([(1,.p (ar m' (aH n y))),(5,.map 0),(6,.p (.int .i64 i)),(7,.aC 1 0),(11,.p (ar m (aH n x))),(12,.p (.int .i64 n)),(13,.p (.int .i64 i)),(18,.p (ar m' (aH n y))),(19,.p (.int .i64 n)),(20,.p (.int .i64 k))],[.map (ff n (fun i k=>x i-y k) (i*n+k)),.box 31 (lr (x i))]))
   (fun k=>k<=n) (fun k=>n-k) 0 [0,1] (Nat.zero_le _) aY ?_
  intro k (hk:k<=n)
  by_cases hkn:k<n
  ·refine bo ?_
   refine aF.rf k rfl hkn ?_
   refine aa.pure (dh _ _ (hx i hin).sz (hy k hkn).sz qO) ?_
   refine bn.nW (fun _ _=>rfl)<|dZ.nW hkn rfl ?_
   refine a5 (k+1) ?_
   exact⟨k+1,[0,1],hkn,cA,aY⟩
  ·refine bd ?_
   obtain rfl:k=n:=qO
   refine a5 (i+1) ?_
   exact⟨i+1,[0],hin,cA,aY ⟨congrArg (fun q=>aA.map (ff k (fun i k=>x i-y k) q)) (Nat.succ_mul i k),trivial⟩⟩
 ·refine bd ?_
  obtain rfl:i=n:=qO
  exact ab.pure (.BL (es:=ff i (fun a k=>x a-y k) (i*i)) rfl qS (List.Perm.refl _) kj)
def Mg (n:Nat) (f:Nat->Nat->Rat):Prop:=∃i k,i<n/\k<n/\i≠k/\f i k=0
theorem E6 {a c a' c':Nat} {u v:PV} (h:(cI a c,u)=(cI a' c',v)):a=a'/\c=c':=by
 simp only[Prod.mk.injEq,PV.agg.injEq,List.cons.injEq,PV.int.injEq,and_true,true_and]at h
 omega
theorem Du (n:Nat) (f:Nat->Nat->Rat) {b:Nat} (hf:∀i k,i<n->k<n->Bz (f i k) b) (hb:b<=1048576) (hn:n<=1000) (r:Bool) (hr:r=true↔Mg n f):ae Tryz.prog 239 [wD n f] (.p (.bool r)) []:=by
 refine aW Tryz.func239 ?_
 intro es0 hp
 have hent:∀(i:Nat) (e:PV×PV),es0[i]?=some e->∃a c,a<n/\c<n/\e=(cI a c,aB (f a c)):=fun i e he=>by
  obtain⟨t,ht,rfl⟩:=ph (hp.mem_iff.1 (List.mem_of_getElem? he))
  have n0:0<n:=by rcases Nat.eq_zero_or_pos n with h|h;rw[h]at ht;simp at ht;exact h
  exact⟨t/n,t%n,Nat.div_lt_of_lt_mul ht,Nat.mod_lt _ n0,rfl⟩
 have hlen:es0.length=n*n:=by rw[hp.length_eq];simp
 refine aJ.mk (List Nat) (fun s=>([(6,.aC 0 0)],[.iter false es0 s]))
  (fun s=>∀j∈s,∀a c,es0[j]?=some (cI a c,aB (f a c))->a=c\/f a c≠0) (fun s=>j6 s (n*n)) [] [0] (fun j hj=>by simp at hj) aY ?_
 intro s hs
 refine JA.mk (fun j e hj hjs=>?_) (fun hend=>?_)
 ·obtain⟨a,c,ha,hc,rfl⟩:=hent j e hj
  have hz:=hf a c ha hc
  have go:(a=c\/f a c≠0)->∀i∈s++[j],∀a c,es0[i]?=some (cI a c,aB (f a c))->a=c\/f a c≠0:=fun h i hi a' c' he=>by
   rcases List.mem_append.1 hi with hi|hi
   ·exact hs i hi a' c' he
   ·rw[List.mem_singleton.1 hi,hj]at he
    obtain⟨rfl,rfl⟩:=E6 (Option.some.inj he)
    exact h
  have hlt:j6 (s++[j]) (n*n)<j6 s (n*n):=Fq hjs (by rw[<-hlen];exact(List.getElem?_eq_some_iff.1 hj).1)
  refine HF.mk j _ qS hj ?_
  have ht:=IW a c
  by_cases e1:a=c
  ·rw[decide_eq_true e1]at ht
   refine aa.pure (ht) ?_
   refine cJ ?_
   exact⟨s++[j],[0],go (.inl e1),hlt,aY⟩
  ·rw[decide_eq_false e1]at ht
   refine aa.pure (ht) ?_
   refine ir ?_
   refine SZ.mk (az (f a c).num.natAbs:Int) qS ?_
   by_cases e2:f a c=0
   ·refine ao.yes (jx (by rw[e2,show(0:Rat).num.natAbs=0 from rfl,aw.2 rfl];rfl)) ?_
    obtain rfl:r=true:=hr.2 ⟨a,c,ha,hc,e1,e2⟩
    exact ab.pure (.tf _)
   ·have:az (f a c).num.natAbs≠0:=fun h=>e2 (Rat.num_eq_zero.1 (by have:=aw.1 h;omega))
    refine ao.no (iO qO) ?_
    exact⟨s++[j],[0],go (.inr e2),hlt,aY⟩
 ·obtain rfl:r=false:=by
   cases r with
   |false=>rfl
   |true=>
    obtain⟨a,c,ha,hc,e1,e2⟩:=hr.1 rfl
    have hm:(cI a c,aB (f a c))∈es0:=hp.mem_iff.2 (List.mem_of_getElem? (i:=a*n+c) (by rw[dM (GO ha hc),sL hc,tW hc]))
    obtain⟨i,hi⟩:=List.getElem?_of_mem hm
    rcases hs i (hend i (List.getElem?_eq_some_iff.1 hi).1) a c hi with h|h
    ·exact absurd h e1
    ·exact absurd e2 h
  exact ab.pure (.tf _)
theorem AJ {n:Nat} {x:Nat->Rat}:Mg n (fun i k=>x i-x k)↔¬j9 x n:=by
 constructor
 ·rintro⟨i,k,hi,hk,e,h⟩ hI
  exact e (hI i k hi hk (by grind))
 ·intro h
  apply Classical.byContradiction
  intro hc
  refine h fun i k hi hk e=>?_
  apply Classical.byContradiction
  intro hne
  exact hc ⟨i,k,hi,hk,hne,by show x i-x k=0;rw[e];grind⟩
noncomputable def j4 (x:Nat->Rat) (n:Nat):Bool:= @decide (¬j9 x n) (Classical.propDecidable _)
theorem k4 {x:Nat->Rat} {n:Nat}:j4 x n=true↔¬j9 x n:=by unfold j4;simp
theorem vH {x:Nat->Rat} {n:Nat} (h:¬j9 x n):j4 x n=true:=k4.2 h
theorem qc {x:Nat->Rat} {n:Nat} (h:j9 x n):j4 x n=false:=by
 cases e:j4 x n with
 |false=>rfl
 |true=>exact absurd h (k4.1 e)
abbrev oe (n:Nat) (a b:Nat->Rat) (tA tB:Bool):List PV:=[.int .i64 (n:Int),wD n fun i k=>a i-a k,wD n fun i k=>b i-b k,wD n fun i k=>a i-b k,.bool tA,.bool tB]
abbrev xK (n:Nat) (a b:Nat->Rat) (tA tB:Bool):List AV:=[.p (.int .i64 (n:Int)),.p (wD n fun i k=>a i-a k),.p (wD n fun i k=>b i-b k),.p (wD n fun i k=>a i-b k),.p (.bool tA),.p (.bool tB)]
noncomputable abbrev oq (g:GV):PV:=.agg (oe g.n g.A g.B (j4 g.A g.n) (j4 g.B g.n))
theorem Ir {n:Nat} {f:Nat->Nat->Rat}:ct (wD n f):=.mp _ (fun e he=>(kj e he).1) fun e he=>(kj e he).2
theorem Bs {n:Nat} {a b:Nat->Rat} {tA tB:Bool}:ct (.agg (oe n a b tA tB)):=.agg _ fun c hc=>by
 simp only[oe,List.mem_cons,List.not_mem_nil,or_false]at hc
 rcases hc with rfl|rfl|rfl|rfl|rfl|rfl<;>first|exact .int _ _|exact .bool _|exact Ir
structure gT (g:GV) (b c:Nat):Prop extends Wf g b c where
 k5:g.k=5
theorem gT.la {g:GV} {b c:Nat} (h:gT g b c):g.la=g.n:=h.toWf.FD (by have:=h.k5;omega)
theorem gT.lb {g:GV} {b c:Nat} (h:gT g b c):g.lb=g.n:=h.toWf.Ot (by have:=h.k5;omega)
theorem gT.za {g:GV} {b c:Nat} (h:gT g b c) {i:Nat} (hi:i<g.n):Bz (g.A i) 100:=(h.bA i (by rw[h.la];exact hi)).mono (Nat.le_trans h.bc h.c4)
theorem gT.zb {g:GV} {b c:Nat} (h:gT g b c) {i:Nat} (hi:i<g.n):Bz (g.B i) 100:=(h.bB i (by rw[h.lb];exact hi)).mono h.c4
theorem gT.Pt {g:GV} {b c:Nat} (h:gT g b c) {i k:Nat} (hi:i<g.n) (hk:k<g.n):Bz (g.A i-g.A k) 201:=(h.za hi).sub (h.za hk)
theorem gT.OS {g:GV} {b c:Nat} (h:gT g b c) {i k:Nat} (hi:i<g.n) (hk:k<g.n):Bz (g.B i-g.B k) 201:=(h.zb hi).sub (h.zb hk)
theorem gT.Mh {g:GV} {b c:Nat} (h:gT g b c) {i k:Nat} (hi:i<g.n) (hk:k<g.n):Bz (g.A i-g.B k) 201:=(h.za hi).sub (h.zb hk)
theorem gT.Ql {g:GV} {b c:Nat} (h:gT g b c) {i k:Nat} (hi:i<g.n) (hk:k<g.n):g.A i≠g.B k:=h.ne i k (by rw[h.la];exact hi) (by rw[h.lb];exact hk)
theorem yV (m:Nat->Bool) (g:GV) {b c:Nat} (h:gT g b c):ae Tryz.prog 230 [dP m g] (.bK [.p (oq g),.p (.int .i64 0)]) []:=by
 have h6:=h.n6
 have hk:=h.k5
 have eA:aH g.la g.A=aH g.n g.A:=by rw[h.la]
 have eB:aH g.lb g.B=aH g.n g.B:=by rw[h.lb]
 have c1:=A8 (m 0) (m 0) g.n g.A g.A (fun i hi=>h.za hi) (fun i hi=>h.za hi) qD qO
 have c2:=A8 (m 1) (m 1) g.n g.B g.B (fun i hi=>h.zb hi) (fun i hi=>h.zb hi) qD qO
 have c3:=A8 (m 0) (m 1) g.n g.A g.B (fun i hi=>h.za hi) (fun i hi=>h.zb hi) qD qO
 rw[<-eA]at c1 c3
 rw[<-eB]at c2 c3
 have s1:=Du g.n (fun i k=>g.A i-g.A k) (b:=201) (fun i k hi hk=>h.Pt hi hk) qO qO (j4 g.A g.n) (k4.trans AJ.symm)
 have s2:=Du g.n (fun i k=>g.B i-g.B k) (b:=201) (fun i k hi hk=>h.OS hi hk) qO qO (j4 g.B g.n) (k4.trans AJ.symm)
 refine aW Tryz.func230 ?_
 refine ao.no (uQ qO) ?_
 refine aa.pure (jj m g h.toWf) ?_
 refine cJ ?_
 refine cS ?_
 repeat refine aq ?_
 refine ag (aa.pure (c1) af) ?_
 repeat refine aq ?_
 refine ag (aa.pure (c2) af) ?_
 repeat refine aq ?_
 refine ag (aa.pure (c3) af) ?_
 repeat refine aq ?_
 refine cX ?_
 refine cS ?_
 repeat refine aq ?_
 refine ag (aa.pure (s1) af) ?_
 repeat refine aq ?_
 refine ag (aa.pure (s2) af) ?_
 repeat refine aq ?_
 refine cX ?_
 exact eT (.p _ Bs) (.p _ (.int _ _))
theorem qM {k n r:Nat} {ns:List Int} (k1:1<=k) (k7:k<=7) (n1:1<=n) (n6:n<=6) (r1:k=6\/k=7->1<=r) (r2:r<=2) (r0:k<=5->r=0):Wf (yh k n r (aZ ns)) 5 13:=by
 have hf:∀i,-20<=aZ ns i/\aZ ns i<=20:=fun i=>oP _
 have hc:=xm (k:=k) (r:=r) n1 (show n<=8 by omega) (show r<=3 by omega)
 exact{
  k1:=k1,k7:=k7,n1:=n1,n6:=n6,r2:=r2,r1:=r1,r0:=r0
  bA:=fun i _=>gN ns i
  bB:=fun i hi=>x8 hf (by have hi:i<aV k n:=hi;omega) (hf _) (gN ns _) _
  bG:=fun i _=>gN ns _
  bH:=fun i _=>gN ns _
  ne:=fun i j hi hj=>KG hf (hf _) (show i<aE k n from hi)
  bc:=qO
  c4:=by omega}
theorem Cq {k:Nat} (n:Int):(k=6\/k=7->1<=yi k n)/\yi k n<=2/\(k<=5->yi k n=0):=by
 unfold yi
 refine⟨fun h=>by rw[if_pos h];omega,by split<;>omega,fun h=>if_neg qO⟩
theorem oa (n most:Int) (h1:1<=most):1<=gQ n most/\(gQ n most:Int)<=most:=by
 have:=Int.emod_nonneg n (show most≠0 by omega)
 have:=Int.emod_lt_of_pos n (show(0:Int)<most by omega)
 unfold gQ
 omega
theorem Hj (kind:Int):1<=CF kind/\CF kind<=7:=by unfold CF;omega
theorem sv (kind n most:Int) (ns:List Int) (h1:1<=most) (h6:most<=6):Wf (yh (CF kind) (gQ n most) (yi (CF kind) n) (aZ ns)) 5 13:=by
 obtain⟨r1,r2,r0⟩:=Cq (k:=CF kind) n
 have hn:=oa n most h1
 exact qM (Hj kind).1 (Hj kind).2 hn.1 qO r1 r2 r0
theorem HW {g:GV} {ns:List Int} {b c:Nat} (h:Wf g b c) (hk:g.k=5\/g.k=7):Wf (BQ g ns) b c:=by
 unfold BQ
 split
 ·rename_i ht
  have hla:g.la=g.n:=h.FD qO
  have n1:=h.n1
  have ha:∀i,i<g.n->∃j,j<g.n/\a8 g.A (g.n-1) (g.A 0) i=g.A j:=fun i hi=>by
   by_cases e:i=g.n-1
   ·exact⟨0,qO,by rw[e,ah]⟩
   ·exact⟨i,hi,aj _ _ e⟩
  exact{h with
   bA:=fun i hi=>by
    obtain⟨j,hj,e⟩:=ha i (by rw[<-hla];exact hi)
    show Bz (a8 g.A (g.n-1) (g.A 0) i) b
    rw[e];exact h.bA j (by rw[hla];exact hj)
   ne:=fun i k hi hk=>by
    obtain⟨j,hj,e⟩:=ha i (by rw[<-hla];exact hi)
    show a8 g.A (g.n-1) (g.A 0) i≠g.B k
    rw[e];exact h.ne j k (by rw[hla];exact hj) hk}
 ·exact h
theorem DG {g:GV} {ns:List Int}:(BQ g ns).n=g.n:=by unfold BQ;split<;>rfl
theorem lq.gen {m:Nat->Bool} {g:GV} {k n r:Int} {a b c d:PV} (hk:k=g.k) (hn:n=g.n) (hr:r=g.r) (ha:lq a (ar (m 0) (aH g.la g.A))) (hb:lq b (ar (m 1) (aH g.lb g.B))) (hc:lq c (ar (m 2) (aH g.lh g.G))) (hd:lq d (ar (m 3) (aH g.lh g.H))):
  lq (.agg [.int .i64 k,.int .i64 n,.int .i64 r,a,b,c,d]) (dP m g):=by
 subst hk;subst hn;subst hr
 refine lq.agg rfl (fun c hc=>?_) fun i c' c e1 e2=>?_
 ·simp only[pK,List.mem_cons,List.not_mem_nil,or_false]at hc
  rcases hc with rfl|rfl|rfl|rfl|rfl|rfl|rfl<;>rfl
 ·match i,e1,e2 with
  |0,e1,e2=>cases e1;cases e2;exact .refl _
  |1,e1,e2=>cases e1;cases e2;exact .refl _
  |2,e1,e2=>cases e1;cases e2;exact .refl _
  |3,e1,e2=>cases e1;cases e2;exact ha
  |4,e1,e2=>cases e1;cases e2;exact hb
  |5,e1,e2=>cases e1;cases e2;exact hc
  |6,e1,e2=>cases e1;cases e2;exact hd
theorem q7 (m:Nat->Bool) (g:GV) {b c:Nat} (h:Wf g b c):ae Tryz.prog 12 [dP m g] (.vec 0 1 0 g.n) [.rows 24 (cO 1 g.n g.n id),.bu 31 3 (c9 g.n g.n (aQ g))]:=by
 have h6:=h.n6
 have n1:=h.n1
 refine aW Tryz.func12 ?_
 refine aa.pure (jj m g h) ?_
 refine cJ ?_
 refine SZ.mk (g.n:Int) rfl ?_
 refine cm.mk qS ?_
 refine cy.mk g.n rfl (by simp;omega) qO ?_
 refine Ou.rows ?_
 refine SZ.mk (g.n:Int) rfl ?_
 refine aJ.yu Nat (fun i=>([(1,.aC 0 0),(3,.vec 1 1 0 g.n),(13,.p (.int .i64 g.n)),(14,.p (.int .i64 i))],[.box 26 (jF m g),.rows 24 (half 2 g.n g.n i),.bu 31 3 (c9 i g.n (aQ g))]))
  (fun i=>i<=g.n) (fun i=>g.n-i) 0 [0,1,2] _ _ (.bu 31 3 (.done _ _)) (Nat.zero_le _) (aY ⟨rfl,congrArg _ ke,rfl,fW fun i hi=>absurd hi (Nat.not_lt_zero _),trivial⟩) ?_
 intro i (hi:i<=g.n)
 by_cases hin:i<g.n
 ·refine bo ?_
  refine SZ.mk (g.n:Int) rfl ?_
  refine cm.mk qS ?_
  refine cy.rat g.n rfl qO ?_
  refine aK.mk i rfl hin ?_
  refine cm.mk (by simp;omega) ?_
  refine rR.mk (qJ 2 g.n g.n i 3) tI ?_
  refine aK.mk i rfl hin ?_
  refine bJ.mk i _ rfl (kc hin) ?_
  refine SZ.mk (g.n:Int) rfl ?_
  refine aJ.mk (Nat×(Nat->Rat)) (fun(j,F)=>([(1,.aC 0 0),(3,.vec 1 1 0 g.n),(4,.p (.int .i64 i)),(13,.p (.int .i64 g.n)),(14,.p (.int .i64 i)),(27,.p (.int .i64 g.n)),(28,.p (.int .i64 j))],[.box 26 (jF m g),.rows 24 (qJ 2 g.n g.n i 3),.bu 31 3 (c9 i g.n (aQ g)),.vec 31 3 (fl g.n fun k=>if k<j then aB (aQ g i k)else cU)]))
   (fun(j,F)=>j<=g.n) (fun x=>g.n-x.1) (0,aQ g i) [0,1,2,3] (Nat.zero_le _) (aY ⟨rfl,congrArg _ (kf 2 3 rfl qD rfl qD),rfl,congrArg _ ((aU fun k hk=>if_neg qO).trans (bQ g.n cU).symm),mZ (fun i hi=>by simpa[aD]using hi) (fun e=>by cases e),trivial⟩) ?_
  intro⟨j,F⟩ hj
  have hj:j<=g.n:=hj
  by_cases hjn:j<g.n
  ·refine bo ?_
   refine cS ?_
   repeat refine aq ?_
   refine ag (aK.mk i rfl hin af) ?_
   refine ag (bJ.mk i _ rfl (kc hin) af) ?_
   repeat refine aq ?_
   refine ag (aa.pure (wo m g h i j hin hjn) af) ?_
   refine ag (aK.mk j rfl hjn af) ?_
   refine ag (cm.mk (by simp;omega)<|dp.mk _ (eQ hjn) af) ?_
   repeat refine aq ?_
   refine cX ?_
   refine a5 (j+1) ?_
   exact⟨(j+1,F),[0,1,2,3],hjn,cA,aY ⟨rfl,congrArg _ (kf 2 3 rfl qD rfl qD),rfl,rfl,mZ (fun i hi=>by simpa[aD]using hi) (fun e=>by cases e),trivial⟩⟩
  ·refine bd ?_
   obtain rfl:j=g.n:=qO
   refine a5 (i+1) ?_
   exact⟨i+1,[0,1,4002],hin,cA,aY ⟨rfl,congrArg _ (iH rfl qD (by simp[aD])),⟨_,_,_,_,rfl,rfl,congrArg _ (eW.trans (congrArg (fun r=>c9 i g.n (aQ g)++[some r]) ks))⟩,fW fun i hi=>by simpa[aD]using hi,trivial⟩⟩
 ·refine bd ?_
  obtain rfl:i=g.n:=qO
  refine ab.mk [1,2] rfl qD rfl (Nat.zero_le _) (fun h hl=>by rw[bI]at hl;exact hl.elim) (fun h hl=>absurd (bI h) hl) (fun a h B e1 e2=>?_) (.vec rfl)
  match a,e1,e2 with
  |0,e1,e2=>
   cases e1;cases e2
   show jO _ _ (aA.rows _ (half 2 g.n g.n g.n)) _
   rw[kq]
   refine .rows (fun d hd=>by obtain⟨i,_,rfl⟩:=dX hd;rfl) qS fun b c d e1 e2=>?_
   obtain⟨hb,rfl⟩:=cu.1 e1
   obtain⟨_,rfl⟩:=cu.1 e2
   exact .Ia rfl
  |1,e1,e2=>
   cases e1;cases e2
   exact .bu fun k es hk=>by
    obtain⟨_,h⟩:=cu.1 hk
    cases h;exact au _
theorem aa.Qb {P:Program} {wr:Bool} {f:FuncId} {L:Hd->aA} {base n w N:Nat} {K:AV->List (Hd×aA)->Prop} {pvs:List PV} {T T':TypeId} {G:Nat->Nat->Rat} (hc:ae P f pvs (.vec 0 1 0 n) [.rows T (cO 1 w n id),.bu T' 3 (c9 N w G)])
  (hk:K (.vec base 1 0 n) [(.t base,.rows T (cO (base+1) w n id)),(.t (base+1),.bu T' 3 (c9 N w G))]) {raw:List AV}:aa P wr f raw (pvs.map .p) L base K:=by
 refine aa.news hc (fun B hB=>by simp only[List.mem_cons,List.not_mem_nil,or_false]at hB;rcases hB with rfl|rfl<;>exact fun e=>by(cases e)) ?_
 have e:AV.de (bz [] base) (cO 1 w n id)=cO (base+1) w n id:=by
  rw[fU];exact aU fun i _=>by simp only[AV.dm,bz,fk];rfl
 show K (.vec (.t (base+(0-0))) 1 0 n) [(.t (base+(0-0)),.rows T (AV.de _ _)),(.t (base+(1-0)),_)]
 rw[e];exact hk
theorem df.OR {P:Program} {f:FuncId} {pvs:List PV} {r r':AV} {nb:List aA} (hc:ae P f pvs r' nb) (h:∀w FB β v,VR w FB β r' v->VR w FB β r v) (hm:∀k,¬r.aT k):ae P f pvs r nb:=
 ⟨hc.fn,fun w F bW β vs ha=>(hc.run w F bW β vs ha).mono fun e w' ⟨v,F',β',h1,h2⟩=>⟨v,F',β',h1,{h2 with rel:=h _ _ _ _ h2.rel,mr:=fun k hk=>(hm k hk).elim}⟩⟩
theorem VR.Pd {p p':PV} {c:PV} (h:lq p' p):∀w FB β v,VR w FB β (.bK [.p p',.p c]) v->VR w FB β (.bK [.p p,.p c]) v:=fun w FB β v hv=>by
 cases hv with|bK _ vs hl hr=>
 refine .bK _ vs hl fun i d x e1 e2=>?_
 match i,e1,e2 with
 |0,e1,e2=>cases e1;exact .p (h _ _ _ (hr 0 _ _ rfl e2).D6)
 |1,e1,e2=>cases e1;exact hr 1 _ _ rfl e2
def It (n:Nat) (A:Nat->Nat->Rat) (D:Nat):Prop:=∀k,k<=n->∀i j,i<n->j<n->Bz ((gk n A k).B i j) D
theorem It.P {n:Nat} {A:Nat->Nat->Rat} {D:Nat} (h:It n A D) {k:Nat} (hk:k<n):∀i j,i<n->j<n->Bz (mc n A k i j) D:=fun i j hi hj=>by
 obtain⟨p1,p2,_⟩:=dL (B:=(gk n A k).B) hk
 exact h k qO _ j (ez p2 hk hi) hj
theorem Mq {n b:Nat} {A:Nat->Nat->Rat} (hA:∀i j,i<n->j<n->Bz (A i j) b):∀k,k<=n->∀i j,i<n->j<n->Bz ((gk n A k).B i j) (bb b k):=by
 intro k
 induction k with
 |zero=>intro _ i j hi hj;exact hA i j hi hj
 |succ k ih=>
  intro hk i j hi hj
  have ih:=ih qO
  obtain⟨p1,p2,_⟩:=dL (B:=(gk n A k).B) (n:=n) (k:=k) qO
  have zP:∀i j,i<n->j<n->Bz (mc n A k i j) (bb b k):=fun i j hi hj=>ih _ j (ez p2 qO hi) hj
  by_cases c:k<i
  ·rw[Im c]
   exact((zP i j hi hj).sub (((zP i k hi qO).div (zP k k qO qO)).mul (zP k j qO hj))).mono (by simp only[bb];omega)
  ·rw[o6 qO];exact(zP i j hi hj).mono (by simp only[bb];omega)
theorem It.of {n b:Nat} {A:Nat->Nat->Rat} (n1:1<=n) (hA:∀i j,i<n->j<n->Bz (A i j) b):It n A (bb b (n-1)):=fun k hk i j hi hj=>by
 by_cases e:k=n
 ·obtain⟨d,rfl⟩:∃d,n=d+1:=⟨n-1,qO⟩
  obtain⟨p1,p2,_⟩:=dL (B:=(gk (d+1) A d).B) (n:=d+1) (k:=d) qO
  rw[e,o6 qO]
  exact Mq hA d qO _ j (ez p2 qO hi) hj
 ·exact(Mq hA k hk i j hi hj).mono (sk qO)
theorem wQ {n D:Nat} {A:Nat->Nat->Rat} (h:It n A D) (hD:1<=D):∀k,k<=n->Bz (oB n A k) D:=by
 intro k
 induction k with
 |zero=>intro _;exact BB (cB.mono hD) n fun i j _ h2 h3=>h 0 (Nat.zero_le _) i j qO h3
 |succ k ih=>intro hk;exact BB (ih qO) _ fun i j _ h2 h3=>h k qO i j qO h3
theorem Mk {n D:Nat} {A:Nat->Nat->Rat} (h:It n A D) (hD:1<=D):∀k,k<=n->∀i j,i<n->Bz ((gk n A k).M i j) (D+D):=by
 intro k
 induction k with
 |zero=>intro _ i j _;exact cB.mono qO
 |succ k ih=>
  intro hk i j hi
  obtain⟨p1,p2,_⟩:=dL (B:=(gk n A k).B) (n:=n) (k:=k) qO
  have sw:Bz (bO (gk n A k).M (nk (gk n A k).B n k) k i j) (D+D):=ih qO _ j (ez p2 qO hi)
  rw[fc]
  show Bz (rO _ _ k i j) _
  unfold rO
  split
  ·split
   ·exact(h.P qO i k hi qO).div (h.P qO k k qO qO)
   ·split
    ·exact dv.mono qO
    ·exact sw
  ·exact sw
def Ol (n:Nat) (A:Nat->Nat->Rat):Rat:=oB n A n/oB n A 0
abbrev LN:PV:=.agg [.sl false 1 [],.sl false 1 [],.sl false 1 [],.bool false,.sl false 1 [],.sl false 1 []]
abbrev Hz (n:Nat) (A:Nat->Nat->Rat):List PV:=[.sl false 1 (eV n (gO n A)),cn false false n n (gL n A),cn false false n n (gU n A),.bool (decide ((Ol n A).num<0)),cg (Ol n A).num.natAbs,cg (Ol n A).den]
abbrev Md (n:Nat) (A:Nat->Nat->Rat):PV:=.agg (Hz n A)
theorem Lh:lq (.agg [.raw (.slice none 0 0),.raw (.slice none 0 0),.raw (.slice none 0 0),.bool false,.sl false 1 [],.sl false 1 []]) LN:=by
 refine lq.agg rfl (fun c hc=>by simp only[List.mem_cons,List.not_mem_nil,or_false]at hc;rcases hc with rfl|rfl|rfl|rfl|rfl|rfl<;>rfl) fun i c' c e1 e2=>?_
 match i,e1,e2 with
 |0,e1,e2=>cases e1;cases e2;exact .nil _ _
 |1,e1,e2=>cases e1;cases e2;exact .nil _ _
 |2,e1,e2=>cases e1;cases e2;exact .nil _ _
 |3,e1,e2=>cases e1;cases e2;exact .refl _
 |4,e1,e2=>cases e1;cases e2;exact .refl _
 |5,e1,e2=>cases e1;cases e2;exact .refl _
theorem Cm:ct (.agg [.raw (.slice none 0 0),.raw (.slice none 0 0),.raw (.slice none 0 0),.bool false,.sl false 1 [],.sl false 1 []]):=.agg _ fun c hc=>by
 simp only[List.mem_cons,List.not_mem_nil,or_false]at hc
 rcases hc with rfl|rfl|rfl|rfl|rfl|rfl<;>first|exact .raw _|exact .bool _|exact .sl _ _ (fun e he=>by simp at he)
theorem NR {p c:PV} (k:Hd):¬(AV.bK [.p p,.p c]).aT k:=fun h=>by simp only[AV.aT,AV.bm,or_false]at h
end Go.Proofs.YtiakeknbdclaoaaGreat
