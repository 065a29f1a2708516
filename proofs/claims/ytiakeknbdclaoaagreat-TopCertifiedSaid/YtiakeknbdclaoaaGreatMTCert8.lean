/- FTCert: what its proof needs, part 8. -/
import Derived.Test.YtiakeknbdclaoaaGreatMTCert7
set_option linter.unusedVariables false
set_option linter.unusedSimpArgs false
namespace Go.Proofs.YtiakeknbdclaoaaGreat
open Go
set_option maxRecDepth 10000
abbrev tp (k:Nat):Rat:=((2^k:Nat):Rat)
theorem rY (k:Nat):tp (k+1)=2*tp k:=by unfold tp;rw[Nat.pow_succ,Rat.natCast_mul];grind
theorem NO (j k:Nat):tp (j+k)=tp j*tp k:=by unfold tp;rw[Nat.pow_add,Rat.natCast_mul]
theorem ya {j k:Nat} (h:j<=k):tp j<=tp k:=sc.2 (Nat.pow_le_pow_right qD h)
def cP (k:Nat):Nat:=4503599627370496+(k+1022)*4503599627370496
theorem N9 (k:Nat):b7 (cP k)=tp k:=by
 have h:=(mS (v:=4503599627370496) (t:=k+1022) qO (.inl qO)).1
 have h2:=fz (((k+1022:Nat):Int)-1074) 52
 rw[show((k+1022:Nat):Int)-1074+(52:Nat)=(k:Nat) by omega,jz]at h2
 unfold cP
 rw[h,show tp k=_ from h2,Rat.mul_comm]
theorem MI {q:Rat} {b:Nat} (h:Bz q b) (h0:q≠0):1<=q.abs*tp b:=by
 rw[mD]
 have h4:q.num.natAbs≠0:=fun h=>h0 (Rat.num_eq_zero.1 qO)
 have h2:((q.num.natAbs:Nat):Rat)/(q.den:Rat)*(q.den:Rat)=((q.num.natAbs:Nat):Rat):=Rat.div_mul_cancel (by have:=tw q;grind)
 have h3:((1:Nat):Rat)<=((q.num.natAbs:Nat):Rat):=sc.2 qO
 rw[show((1:Nat):Rat)=1 from rfl]at h3
 have h5:(q.den:Rat)<=tp b:=sc.2 (Nat.le_of_lt (pg h.d))
 have h6:0<=((q.num.natAbs:Nat):Rat)/(q.den:Rat):=by rw[<-mD];exact Rat.abs_nonneg
 have:=Rat.mul_le_mul_of_nonneg_left h5 h6
 grind
theorem w4 {z u:Rat} (h1: -u<=z) (h2:z<=u):z.abs<=u:=by
 rcases Rat.le_total (a:=0) (b:=z)with h|h
 ·rw[Rat.abs_of_nonneg h];exact h2
 ·rw[Rat.abs_of_nonpos h];grind
theorem dY.self {x:Nat} {q:Rat} (h:dY x q):dY x (iM x):=⟨h.lt,h.nan,h.inf,rfl⟩
theorem dK {x:Rat} {b:Nat} (hx:Bz x b) (hb:b<=1000):dY (fB x) (iM (fB x))/\(iM (fB x)-x).abs*tp 52<=x.abs/\(x≠0->MM (fB x)=true):=by
 by_cases h0:x=0
 ·subst h0
  have e:fB 0=sg false 0:=by unfold fB Bv;rw[if_pos rfl];rfl
  have h:=dY.sg (neg:=false) (c:=0) qO
  rw[e]
  refine⟨h.self,?_,fun h=>absurd rfl h⟩
  rw[h.val,show dB false (b7 0)=0 by rw[fG];rfl]
  decide+kernel
 ·obtain⟨X,hX⟩:∃X,X=x.abs:=⟨_,rfl⟩
  have p0:0<=X:=by rw[hX];exact Rat.abs_nonneg
  obtain⟨c1,c2⟩:=L8 p0
  have hlo:=MI hx h0
  rw[<-hX]at hlo
  have hhi:=oM hx
  rw[<-hX]at hhi
  have u1:¬cd X<4503599627370496:=fun h=>by
   have h1:=(E8 ⟨c1,c2⟩).1 h
   have h2:p2 (-1022)=1/tp 1022:=uM 1022
   have h3:p2 (-1022)*tp 1022=1:=by rw[h2];have:=dE 1022;exact Rat.div_mul_cancel (by grind)
   have h4:=Rat.mul_lt_mul_of_pos_right h1 (dE 1022)
   have h5:X*tp b<=X*tp 1022:=Rat.mul_le_mul_of_nonneg_left (ya qO) p0
   have h4:X*tp 1022<p2 (-1022)*tp 1022:=h4
   grind
  have u2:cd X<9218868437227405311:=nr.1 (by
   have:=Jc
   have h2:=ya (show b<=1010 by omega)
   have hhi:X<tp b:=hhi
   unfold tp at*
   grind)
  have hs:=mH (cd X)
  have hu:p2 (eF (cd X))*tp 52<=X:=by
   have h1:(tp 52)<=((fq (cd X):Nat):Rat):=sc.2 (by unfold fq;rw[if_neg u1];omega)
   have h2:=Rat.mul_le_mul_of_nonneg_right h1 (Rat.le_of_lt (lN (eF (cd X))))
   have h3:b7 (cd X)=_:=rfl
   unfold b7 at h3 c1
   grind
  obtain⟨c,hc,ho⟩:∃c,(c=cd X\/c=cd X+1)/\fB x=sg (decide (x.num<0)) c:=by
   have e:fB x=(rJ (decide (x.num<0)) x.abs 0).1:=by unfold fB Bv;rw[if_neg h0];rfl
   rw[e,<-hX]
   unfold rJ out
   have hU:∀s h,yP (decide (x.num<0)) (cd X) s h 0=cd X\/yP (decide (x.num<0)) (cd X) s h 0=cd X+1:=fun s h=>by
    unfold yP;split
    ·exact .inr rfl
    ·exact .inl rfl
   have hU:=hU (decide (b7 (cd X)≠X)) (rI (2*X) (b7 (cd X)+b7 (cd X+1)))
   rw[if_neg qO]
   exact⟨_,hU,rfl⟩
  have hcl:c<9218868437227405312:=qO
  have h:=dY.sg (neg:=decide (x.num<0)) hcl
  rw[ho]
  refine⟨h.self,?_,fun _=>?_⟩
  ·rw[h.val]
   have e1:(dB (decide (x.num<0)) (b7 c)-x).abs=(b7 c-X).abs:=by
    have e2:x=dB (decide (x.num<0)) X:=by
     rw[hX];unfold dB
     by_cases hn:x.num<0
     ·rw[if_pos (decide_eq_true hn),Rat.abs_of_nonpos (Rat.le_of_lt (Rat.not_le.1 fun h=>by have:=Rat.num_nonneg.2 h;omega)),Rat.neg_neg]
     ·rw[if_neg (by simpa using hn),Rat.abs_of_nonneg (Rat.num_nonneg.1 qO)]
    generalize decide (x.num<0)=s at e2
    rw[e2]
    unfold dB
    split
    ·rw[show-(b7 c)- -X= -(b7 c-X) by grind,Rat.abs_neg]
    ·rfl
   rw[e1,<-hX]
   have h2:(b7 c-X).abs<=p2 (eF (cd X)):=by
    rcases hc with rfl|rfl<;>exact w4 (by grind) (by grind)
   exact Rat.le_trans (Rat.mul_le_mul_of_nonneg_right h2 (Rat.le_of_lt (dE 52))) hu
  ·unfold MM sg
   split<;>exact decide_eq_true qO
section
variable {k:Nat}
theorem NY (hk:k<=1000) (n:Bool):dY (sg n (cP k)) (dB n (tp k)):=by
 have:=dY.sg (neg:=n) (c:=cP k) (by unfold cP;omega)
 rwa[N9]at this
theorem Mc (hk:k<=1000) (n:Bool):∃d,dY d (dB n (tp k))/\pl d=if n then-(cP k:Int)else cP k:=⟨_,NY hk n,lf (by unfold cP;omega)⟩
theorem Ip {z:Nat} (h:z<18446744073709551616) (hi:isInf z=true):pl z=if ik z then-9218868437227405312 else 9218868437227405312:=by
 have hm:dQ z=9218868437227405312:=of_decide_eq_true ((qV z).symm.trans hi)
 rw[<-wI z h,lf qO,wI z h,hm];rfl
theorem MR {q:Rat} {z:Nat} (h:Rd q z) (hk:k<=1000) (h1: -(tp k)<=q):∃v,dY z v/\ -(tp k)<=v/\v<=q:=by
 obtain⟨d,hd,hp⟩:=Mc hk true
 have hd:dY d (-(tp k)):=hd
 have hm:=h.max _ hd.num (hd.JC.2 h1)
 have hz:isInf z=false:=by
  cases e:isInf z with
  |false=>rfl
  |true=>
   have hl:=h.le
   unfold pV at hl
   rw[if_pos e]at hl
   rw[Ip h.num.lt e,hl,hp]at hm
   unfold cP at hm
   simp at hm
   omega
 have hf:dY z (iM z):=⟨h.num.lt,h.num.nan,hz,rfl⟩
 exact⟨_,hf,(hd.Mr hf).1 hm,hf.JC.1 h.le⟩
theorem NM {q:Rat} {z:Nat} (h:Ru q z) (hk:k<=1000) (h1:q<=tp k):∃v,dY z v/\v<=tp k/\q<=v:=by
 obtain⟨d,hd,hp⟩:=Mc hk false
 have hd:dY d (tp k):=hd
 have hm:=h.min _ hd.num (hd.LQ.2 h1)
 have hz:isInf z=false:=by
  cases e:isInf z with
  |false=>rfl
  |true=>
   have hl:=h.ge
   unfold qi at hl
   rw[if_pos e]at hl
   rw[Ip h.num.lt e,hl,hp]at hm
   unfold cP at hm
   simp at hm
   omega
 have hf:dY z (iM z):=⟨h.num.lt,h.num.nan,hz,rfl⟩
 exact⟨_,hf,(hf.Mr hd).1 hm,hf.LQ.1 h.ge⟩
def vY (i:fC) (k:Nat):Prop:=∃A B,gV i A B/\ -(tp k)<=A/\B<=tp k
theorem B5 {ps qs:List Rat} {i:fC} {a:Rat} (h1:um ps i.1) (h2:t8 qs i.2) (hi:EO i a) (hk:k<=1000) (b1:∀p∈ps,-(tp k)<=p) (b2:∀p∈qs,p<=tp k):vY i k:=by
 obtain⟨p,hp,r1⟩:=h1.some
 obtain⟨q,hq,r2⟩:=h2.some
 obtain⟨A,f1,l1,_⟩:=MR r1 hk (b1 p hp)
 obtain⟨B,f2,l2,_⟩:=NM r2 hk (b2 q hq)
 exact⟨A,B,⟨f1,f2,Rat.le_trans (f1.JC.1 hi.le) (f2.LQ.1 hi.ge)⟩,l1,l2⟩
theorem k6 {a b:Rat} {i j:Nat} (h1:a.abs<=tp i) (h2:b.abs<=tp j): -(tp (i+j))<=a*b/\a*b<=tp (i+j):=by
 have h:(a*b).abs<=tp (i+j):=by
  rw[yH,NO]
  exact Rat.le_trans (Rat.mul_le_mul_of_nonneg_right h1 Rat.abs_nonneg) (Rat.mul_le_mul_of_nonneg_left h2 (Rat.le_of_lt (dE i)))
 rcases Rat.le_total (a:=0) (b:=a*b)with c|c
 ·rw[Rat.abs_of_nonneg c]at h;constructor<;>grind
 ·rw[Rat.abs_of_nonpos c]at h;constructor<;>grind
theorem vY.ends {i:fC} (h:vY i k):∃A B,gV i A B/\A.abs<=tp k/\B.abs<=tp k:=by
 obtain⟨A,B,h,h1,h2⟩:=h
 have:=h.le
 exact⟨A,B,h,w4 h1 (by grind),w4 (by grind) h2⟩
theorem Dj {x y:fC} {i j:Nat} (hx:vY x i) (hy:vY y j) (hk:i+j<=1000):vY (jH x y) (i+j):=by
 obtain⟨A,B,hx,a1,a2⟩:=hx.ends
 obtain⟨C,D,hy,b1,b2⟩:=hy.ends
 exact B5 (xR hx hy) (xY hx hy) (xX hx hy Rat.le_refl hx.le Rat.le_refl hy.le) hk
  (by intro p hp;simp at hp;rcases hp with rfl|rfl|rfl|rfl;exact(k6 a1 b1).1;exact(k6 a1 b2).1;exact(k6 a2 b1).1;exact(k6 a2 b2).1)
  (by intro p hp;simp at hp;rcases hp with rfl|rfl|rfl|rfl;exact(k6 a1 b1).2;exact(k6 a1 b2).2;exact(k6 a2 b1).2;exact(k6 a2 b2).2)
theorem Kx {x y:fC} (hx:vY x k) (hy:vY y k) (hk:k+1<=1000):vY (vu x y) (k+1):=by
 obtain⟨A,B,hx,a1,a2⟩:=hx
 obtain⟨C,D,hy,b1,b2⟩:=hy
 have:=rY k
 exact B5 (Cn hx hy) (Cg hx hy) (HE hx hy Rat.le_refl hx.le Rat.le_refl hy.le) hk (by intro p hp;simp at hp;subst hp;grind) (by intro p hp;simp at hp;subst hp;grind)
theorem vY.mono {i:fC} {j:Nat} (h:vY i j) (hk:j<=k):vY i k:=by
 obtain⟨A,B,h,h1,h2⟩:=h
 have:=ya hk
 exact⟨A,B,h,by grind,by grind⟩
theorem Dl {L M:Nat->fC} {e n:Nat} (h:∀k,k<n->vY (jH (L k) (M k)) e) (he:e+n<=1000):∀k,k<n->∃s,jE L M k=some s/\vY s (e+k):=by
 intro k
 induction k with
 |zero=>
  intro hk
  obtain⟨A,B,hf,_⟩:=id (h 0 hk)
  exact⟨_,if_pos hf.kW,h 0 hk⟩
 |succ k ih=>
  intro hk
  obtain⟨s,h1,h2⟩:=ih qO
  have h3:=h (k+1) hk
  have h4:=Kx h2 (h3.mono (Nat.le_add_right e k)) qO
  obtain⟨A,B,hf,_⟩:=id h3
  obtain⟨C,D,hg,_⟩:=id h4
  exact⟨_,by simp only[jE,h1,hf.kW,hg.kW,if_true],h4⟩
theorem IH {c j:Nat} (h:dY c (iM c)) (hb:(iM c).abs<=tp j):vY (c,c) j:=⟨_,_,⟨h,h,Rat.le_refl⟩,by
 rcases Rat.le_total (a:=0) (b:=iM c)with g|g
 ·have:=dE j;unfold tp;grind
 ·rw[Rat.abs_of_nonpos g]at hb;grind,by
 rcases Rat.le_total (a:=0) (b:=iM c)with g|g
 ·rw[Rat.abs_of_nonneg g]at hb;exact hb
 ·have:=dE j;unfold tp;grind⟩
theorem CD {q:Rat} {j:Nat} (hq:Bz q j) (hj:j<=1000):vY (OJ q) j:=by
 have h:=Rat.le_of_lt (oM hq)
 have h1: -(tp j)<=q/\q<=tp j:=by
  have:=k6 (a:=q) (b:=1) (i:=j) (j:=0) h (by decide+kernel)
  rwa[Rat.mul_one,Nat.add_zero]at this
 exact B5 (wj q).lo (v9 q).hi ⟨(wj q).num,(v9 q).num,(wj q).le,(v9 q).ge⟩ hj (by intro p hp;simp at hp;subst hp;exact h1.1) (by intro p hp;simp at hp;subst hp;exact h1.2)
end
section
variable {n:Nat} {A:Nat->Nat->Rat} {b x:Nat->Rat}
noncomputable abbrev AO (x:Nat->Rat) (i:Nat):Nat:=fB (x i)
noncomputable abbrev fP (x:Nat->Rat) (i:Nat):Rat:=iM (fB (x i))
theorem Kc:y9 (aH n x)=vj n (AO x):=by simp[y9,aH,fl]
theorem HB (hx:∀i,i<n->Bz (x i) 900):uV (aH n x)=false:=by
 unfold uV
 rw[bT]
 by_cases h:0<n
 ·have ha:=A2 (aH n x) n h
  rw[decide_eq_true h,fh ha]
  by_cases e:x (AL (aH n x) n)=0
  ·rw[decide_eq_true e];rfl
  ·rw[(dK (hx _ ha) qD).2.2 e];simp
 ·rw[decide_eq_false h];rfl
theorem CG (hx:∀i,i<n->Bz (x i) 900) (hs:∀r,r<n->sm n (fun k=>A r k*x k)=b r):nD n A b (fP x)*tp 51<=1:=by
 obtain⟨S,hS⟩:∃S,S=jY (fP x) n:=⟨_,rfl⟩
 have S0:0<=S:=by rw[hS];exact(jq n).1
 have p51:(0:Rat)<tp 51:=dE 51
 have t52:tp 52=2*tp 51:=rY 51
 have hU:0<=S/tp 51:=by rw[Rat.div_def];exact Rat.mul_nonneg S0 (Rat.le_of_lt (Rat.inv_pos.2 p51))
 have eU:S/tp 51*tp 51=S:=Rat.div_mul_cancel (by grind)
 have hw:∀k,k<n->(fP x k-x k).abs<=S/tp 51:=fun k hk=>by
  have h1:=(dK (hx k hk) qD).2.1
  have h2:(fP x k).abs<=S:=by rw[hS];exact(jq (f:=fun i=>(fP x i).abs) n).2 k hk
  have h3:=l6 (fP x k) (fP x k-x k)
  rw[show fP x k-(fP x k-x k)=x k by grind]at h3
  have h4:(2:Rat)<=tp 52:=by decide+kernel
  have h5:=Rat.abs_nonneg (x:=fP x k-x k)
  generalize(fP x k-x k).abs=w at*
  generalize(x k).abs=X at*
  generalize(fP x k).abs=V at*
  have h6:=Rat.mul_le_mul_of_nonneg_left h4 h5
  have h7:w*tp 51<=S:=by grind
  rw[<-eU]at h7
  generalize S/tp 51=U at*
  rcases Rat.le_total (a:=w) (b:=U)with c|c
  ·exact c
  ·by_cases e:w=U
   ·rw[e];exact Rat.le_refl
   ·have:=Rat.mul_lt_mul_of_pos_right (show U<w by grind) p51;grind
 have hf:jY (gz n A b (fP x)) n*tp 51<=qC A n n*S:=by
  have:jY (gz n A b (fP x)) n<=qC A n n*(S/tp 51):=AS (Rat.mul_nonneg (jq n).1 hU) n fun i hi=>by
   have:=Hg (A:=A) (w:=fun k=>fP x k-x k) hw hU hi
   rw[aX (g:=fun k=>A i k*fP x k-A i k*x k) fun k _=>by grind,nX,hs i hi]at this
   exact this
  have:=Rat.mul_le_mul_of_nonneg_right this (Rat.le_of_lt p51)
  grind
 have hW:qC A n n*S<=rm n A b (fP x):=by
  unfold rm
  rw[<-hS]
  have:=(jq (f:=fun i=>(b i).abs) n).1
  grind
 have W0:0<=qC A n n*S:=Rat.mul_nonneg (jq n).1 S0
 unfold nD
 generalize rm n A b (fP x)=W at*
 generalize jY (gz n A b (fP x)) n=F at*
 by_cases e:W=0
 ·rw[e,Rat.div_def,Rat.inv_zero,Rat.mul_zero,Rat.zero_mul];decide+kernel
 ·have h1:F/W*W=F:=Rat.div_mul_cancel e
  generalize F/W=q at*
  rcases Rat.le_total (a:=q*tp 51) (b:=1)with c|c
  ·exact c
  ·by_cases e2:q*tp 51=1
   ·rw[e2];exact Rat.le_refl
   ·have:=Rat.mul_lt_mul_of_pos_right (show 1<q*tp 51 by grind) (show 0<W by grind)
    grind
variable {g:GV} {y:Nat->Rat}
theorem Bx {v:Nat->Rat} (h:Sys g y) (n4:g.n<=4) (bv:∀i,i<g.n->Bz (v i) 1080):Bz (nD g.n (aQ g) y v) 20000:=by
 have w1:g.n*(163+1080+1)<=4*1244:=Nat.mul_le_mul_right _ n4
 have w2:g.n*(163+1)<=4*164:=Nat.mul_le_mul_right _ n4
 have bL:∀i,i<g.n->Bz (gz g.n (aQ g) y v i) 6400:=fun i hi=>((xx (fun k hk=>h.hA i k hi hk) bv g.n (Nat.le_refl _)).sub (h.hy i hi)).mono qO
 have bN:∀t,t<g.n->Bz (yr (aQ g) g.n t) 1000:=fun t ht=>(gB (fun j hj=>(h.hA t j ht hj).abs) g.n (Nat.le_refl _)).mono qO
 exact((jy (fun t ht=>(bL t ht).abs) qD g.n (Nat.le_refl _)).div (((jy bN qD g.n (Nat.le_refl _)).mul (jy (fun t ht=>(bv t ht).abs) qD g.n (Nat.le_refl _))).add (jy (fun t ht=>(h.hy t ht).abs) qD g.n (Nat.le_refl _)))).mono qO
theorem tR (m:Nat->Bool) (m':Bool) (h:Sys g y) (n4:g.n<=4) {tol:Rat} (ht:Bz tol 100):
  (∃x:Nat->Rat,(∀r,r<g.n->sm g.n (fun k=>aQ g r k*x k)=y r)/\(∀i,i<g.n->Bz (x i) 830)/\(nD g.n (aQ g) y (fP x)<=tol->
   ae Tryz.prog 8 [dP m g,ar m' (aH g.n y),aB tol] (.bK [.p (.sl false 1 (vj g.n (AO x))),.p (aB (nD g.n (aQ g) y (fP x))),.p (.int .i64 0)]) []))\/
  (Mv g/\ae Tryz.prog 8 [dP m g,ar m' (aH g.n y),aB tol] (.bK [.p (.sl false 1 []),.p cU,.p (.int .i64 9)]) []):=by
 have n1:=h.wf.n1
 rcases FK m m' h with⟨X,by',hS,hx,hc⟩|⟨by',hs,hc⟩
 ·have b9:∀i,i<g.n->Bz (X y i) 830:=fun i hi=>(Nn n4 (fun z=>⟨X z,hS z⟩) (fun i hi=>MW h.wf hi) (fun i j hi hj=>MG h.wf n4 hi hj) (fun i hi=>ND h.wf n4 h.hy hi) (hS y) i hi).mono qO
  refine .inl ⟨X y,hS y,b9,fun he=>?_⟩
  obtain⟨x,ex⟩:∃x,x=X y:=⟨_,rfl⟩
  rw[<-ex]at b9 he hc⊢
  have b8:=b9
  have b9:∀i,i<g.n->Bz (x i) 900:=fun i hi=>(b8 i hi).mono qD
  have hr:=FL true (aH g.n x) (Bl.aH b9) qD (by rw[bT];omega)
  rw[rh (HB b9),Kc]at hr
  have bv:∀i,i<g.n->Bz (fP x i) 1080:=fun i _=>wL _
  have c3:=xl false false m' false g.n (aQ g) y (AO x) (fun i j hi hj=>h.hA i j hi hj) h.hy (fun i hi=>(dK (b9 i hi) qD).1) bv n1 qO
  have be:=Bx h n4 bv
  refine aW Tryz.func8 ?_
  refine aa.kF hc ?_
  refine cJ ?_
  refine bl.all (by simp[aH]) ?_
  refine aa.aO (hr) (fun _=>rfl) ?_
  refine cJ ?_
  refine aa.pure (eI m g h.wf) ?_
  refine aa.aO (c3) (fun _=>rfl) ?_
  refine cJ ?_
  refine aa.pure (fJ _ tol be.sz ht.sz qO) ?_
  refine ao.no (decide_eq_false fun hh=>by have:=fj.1 hh;grind) ?_
  refine cS ?_
  repeat refine aq ?_
  refine cX ?_
  exact yl (.p _ (.sl _ _ fun e he c hc=>by obtain⟨i,_,rfl⟩:=dX he;simp[PV.cells]at hc;subst hc;exact .int _ _)) (.p _ (aG _ _ _)) (.p _ (.int _ _))
 ·refine .inr ⟨hs,?_⟩
  refine aW Tryz.func8 ?_
  refine aa.aO (hc) (fun _=>rfl) ?_
  refine ir ?_
  exact yl (.emp _) (.p _ qL) (.p _ (.int _ _))
end
theorem Aj (v:Nat) (hv:v<9223372036854775808):ae Tryz.prog 33 [.int .i64 v] (.p (.int .u64 v)) []:=by
 refine aW Tryz.func33 ?_
 refine bd ?_
 refine ai.ed v rfl qO ?_
 exact ab.pure (.p _ (.int _ _))
abbrev qg:Rat:=iW false 1 1125899906842624
theorem oE:ae Tryz.prog 7 [.int .i64 1,.int .i64 1125899906842624] (.bK [.p (aB qg),.p (.int .i64 0)]) []:=by
 refine aW Tryz.func7 ?_
 refine cJ ?_
 refine cJ ?_
 refine cJ ?_
 refine aa.pure (Aj 1 qD) ?_
 refine aa.pure (q9 1 qD) ?_
 refine aa.pure (Aj 1125899906842624 qD) ?_
 refine aa.pure (q9 1125899906842624 qD) ?_
 refine aa.aO (xd false false false 1 1125899906842624 qD (Nat.le_trans (a9 _) qD) (Nat.le_trans (a9 _) qD)) (fun _=>rfl) ?_
 exact eT (.p _ (aG _ _ _)) (.p _ (.int _ _))
def Qf:Nat->Bool
 |0=>true
 |_=>false
def EK:GV:=⟨1,1,0,fun _=>((4:Int):Rat),fun _=>0,fun _=>0,fun _=>0⟩
def H3:Nat->Rat:=fun _=>((1:Int):Rat)
theorem PX:Sys EK H3 where
 wf:={
  k1:=qD
  k7:=qD
  n1:=qD
  n6:=qD
  r2:=qD
  r1:=fun h=>by rcases h with h|h<;>cases h
  r0:=fun _=>rfl
  bA:=fun i _=>mw qD qD
  bB:=fun i _=>cB.mono qD
  bG:=fun i _=>cB.mono qD
  bH:=fun i _=>cB.mono qD
  ne:=fun i j _ hj=>absurd hj (Nat.not_lt_zero _)
  bc:=qD
  c4:=by decide}
 n5:=qD
 hy:=fun i _=>mw qD qD
theorem HR:fB (1/4)=4598175219545276416:=by
 have h:rS (1/4) 0=(4598175219545276416,0):=NC (c:=4598175219545276416) (by decide+kernel)
 unfold fB Bv
 rw[if_neg (by decide+kernel),h]
theorem nt:ae Tryz.prog 4 [] (.p (.bool true)) []:=by
 rcases tR Qf true PX qD (tol:=0) (cB.mono qD)with⟨x,hs,hb,hc⟩|⟨hs,_⟩
 ·have h1:0+aQ EK 0 0*x 0=H3 0:=hs 0 qD
  have e4:aQ EK 0 0=4:=by decide+kernel
  have e1:H3 0=1:=by decide+kernel
  rw[e4,e1]at h1
  have hx:x 0=1/4:=by grind
  have e0:nD EK.n (aQ EK) H3 (fP x)=0:=by
   have el:gz 1 (aQ EK) H3 (fP x) 0=0:=by
    show(0+aQ EK 0 0*iM (fB (x 0)))-H3 0=0
    rw[hx,HR,e4,e1];decide+kernel
   have es:jY (gz 1 (aQ EK) H3 (fP x)) 1=0:=by
    show(if(0:Rat)<(gz 1 (aQ EK) H3 (fP x) 0).abs then(gz 1 (aQ EK) H3 (fP x) 0).abs else 0)=0
    rw[el];decide+kernel
   show jY (gz 1 (aQ EK) H3 (fP x)) 1/_=0
   rw[es,Rat.div_def,Rat.zero_mul]
  have hc:=hc (by rw[e0];exact Rat.le_refl)
  rw[e0,show vj EK.n (AO x)=[.int .u64 4598175219545276416] by show[PV.int .u64 ((fB (x 0):Nat):Int)]=_;rw[hx,HR];rfl]at hc
  have hf:ae Tryz.prog 8 [.agg [.int .i64 1,.int .i64 1,.int .i64 0,ar true (aH 1 EK.A),f6,f6,f6],ar true (aH 1 H3),aB 0] (.bK [.p (.sl false 1 [.int .u64 4598175219545276416]),.p (aB 0),.p (.int .i64 0)]) []:=
   df.w8 hc rfl fun i p1 p2 e1 e2=>by
    match i,e1,e2 with
    |0,e1,e2=>cases e1;cases e2;exact .gen rfl rfl rfl (.refl _) (.nil _ _) (.nil _ _) (.nil _ _)
    |1,e1,e2=>cases e1;cases e2;exact .refl _
    |2,e1,e2=>cases e1;cases e2;exact .refl _
  refine aW Tryz.func4 ?_
  refine aa.pure (eO 4 qD) ?_
  refine cS ?_
  repeat refine aq ?_
  refine ag (aa.pure (eO 1 qD) af) ?_
  repeat refine aq ?_
  refine ag (aa.pure (js) af) ?_
  refine ag (bl.all rfl<|bl.all rfl<|aa.aO hf (fun _=>rfl) af) ?_
  repeat refine aq ?_
  refine cX ?_
  have hn:ae Tryz.prog 9 [aB 0] (.p (.bool true)) []:=il 0
  refine ir ?_
  refine SZ.mk 1 rfl ?_
  refine ir ?_
  refine aF.mk 0 _ rfl rfl ?_
  refine ir ?_
  refine aa.pure (hn) ?_
  refine gv ?_
  refine SZ.mk 1 (by rw[show(0:Rat).den=1 from rfl,GK];rfl) ?_
  refine ir ?_
  exact ab.pure (.tf _)
 ·exact absurd hs (by unfold Mv;decide+kernel)
theorem iE (a n:Int) (hn:0<n) (hn':n<4611686018427387904):ae Tryz.prog 66 [.int .i64 a,.int .i64 n] (.p (.int .i64 (a%n))) []:=by
 refine aW Tryz.func66 ?_
 have hw:=eN (a:=a) hn
 have hb:=jK a hn
 obtain⟨r,hr⟩:∃r,r=a.tmod n:=⟨_,rfl⟩
 rw[<-hr]at hw hb
 refine yk.mk qO ?_
 refine SZ.mk r hr.symm ?_
 by_cases h:r<0
 ·refine bo ?_
  refine ai.bD (r+n) rfl qO ?_
  rw[if_pos h]at hw
  rw[<-hw]
  exact ab.pure (.p _ (.int _ _))
 ·refine bd ?_
  rw[if_neg h]at hw
  rw[<-hw]
  exact ab.pure (.p _ (.int _ _))
def rP (ns:List Int) (i:Nat):Int:=if i<ns.length then(ns.getD i 0).tdiv 2 else(i:Int)
def Nd (ns:List Int) (i:Nat):Rat:=((rP ns i%3-1:Int):Rat)
theorem MT (ns:List Int) (i:Nat):Bz (Nd ns i) 5:=by
 refine mw ?_ qD
 have h1:=Int.emod_nonneg (rP ns i) (show(3:Int)≠0 by decide)
 have h2:=Int.emod_lt_of_pos (rP ns i) (show(0:Int)<3 by decide)
 exact cj qO
def AP (n most:Int) (ns:List Int):GV:=
 if 0<ns.length/\ns.getD 0 0%2=0 then{yh 1 (gQ n most) 0 (aZ ns)with A:=Nd ns}else yh 1 (gQ n most) 0 (aZ ns)
theorem xM (n most:Int) (ns:List Int) (h1:1<=most) (h6:most<=6):Wf (AP n most ns) 5 13:=by
 have hn:=oa n most h1
 have h:Wf (yh 1 (gQ n most) 0 (aZ ns)) 5 13:=qM qD qD hn.1 qO (fun h=>qO) qD (fun _=>rfl)
 unfold AP
 split
 ·exact{h with
   bA:=fun i _=>MT ns i
   ne:=fun i j _ hj=>absurd hj (Nat.not_lt_zero _)}
 ·exact h
theorem DC {n most:Int} {ns:List Int}:(AP n most ns).k=1:=by unfold AP;split<;>rfl
theorem C5 {n most:Int} {ns:List Int}:(AP n most ns).n=gQ n most:=by unfold AP;split<;>rfl
theorem k9 (m:Bool) (n most:Int) (ns:List Int) (hn:nB n) (hns:kR ns) (hm1:1<=most) (hm8:most<=8):
  ae Tryz.prog 25 [.int .i64 n,.sl m 1 (dn ns),.int .i64 most] (.p (dP lz (AP n most ns))) []:=by
 have hm:=ko m 0 n most ns (by unfold nB;omega) hn hns hm1 hm8
 have e1:CF 0=1:=qD
 have e2:yi 1 n=0:=if_neg qD
 rw[e1,e2]at hm
 have hN:=oa n most hm1
 unfold AP
 generalize gQ n most=N at hm hN
 refine aW Tryz.func25 ?_
 refine aa.pure (hm) ?_
 refine SZ.mk (ns.length:Int) qS ?_
 by_cases h0:0<ns.length
 ·refine bo ?_
  refine aF.ib 0 rfl h0 ?_
  refine aa.pure (iE (ns.getD 0 0) 2 qO qO) ?_
  by_cases h1:ns.getD 0 0%2=0
  ·rw[if_pos ⟨h0,h1⟩]
   refine ao.yes (jx h1) ?_
   refine OU.e ?_
   refine aJ.mk Nat (fun i=>match i with
     |0=>([(0,.p (.int .i64 n)),(1,.p (.sl m 1 (dn ns))),(6,.aC 0 0),(7,.aC 1 0),(8,.p (.int .i64 0))],[.box 26 rL,.box 26 [.p (.int .i64 1),.p (.int .i64 N),.p (.int .i64 0),.emp,.p (ar false []),.p (ar false []),.p (ar false [])]])
     |j+1=>([(0,.p (.int .i64 n)),(1,.p (.sl m 1 (dn ns))),(6,.aC 0 0),(7,.aC 1 0),(8,.p (.int .i64 ((j+1:Nat):Int)))],[.box 26 rL,.box 26 [.p (.int .i64 1),.p (.int .i64 N),.p (.int .i64 0),.vec 2 3 0 (j+1),.p (ar false []),.p (ar false []),.p (ar false [])],.vec 31 3 (a7 (aH (j+1) (Nd ns)))]))
    (fun i=>i<=2*N-1) (fun i=>2*N-i) 0 [0,1] (Nat.zero_le _) aY ?_
   intro i hi
   match i,hi with
   |0,hi=>
    have hi:0<=2*N-1:=hi
    refine a5 (2*N) ?_
    refine a5 (2*N-1) ?_
    refine bo ?_
    have b1:=Int.emod_nonneg (rP ns (0)) (show(3:Int)≠0 by decide)
    have b2:=Int.emod_lt_of_pos (rP ns (0)) (show(0:Int)<3 by decide)
    refine SZ.mk (ns.length:Int) qS ?_
    by_cases hs:0<ns.length
    ·refine bo ?_
     have ek:rP ns (0)=(ns.getD (0) 0).tdiv 2:=if_pos hs
     have hq:=hns (0)
     have hq2: -9223372036854775808<=(ns.getD (0) 0).tdiv 2/\(ns.getD (0) 0).tdiv 2<9223372036854775808:=by
      unfold nB at hq
      rw[Int.tdiv_eq_ediv,show Int.sign 2=1 from rfl];split<;>omega
     refine aF.ib (0) rfl hs ?_
     refine yk.mk qO ?_
     refine ai.bD (rP ns (0)) ek.symm qO ?_
     refine cS ?_
     repeat refine aq ?_
     refine ag (aa.pure (iE (rP ns (0)) 3 qO qO) af) ?_
     refine ag (ai.bD (rP ns (0)%3-1) rfl qO af) ?_
     refine ag (aa.pure (eO (rP ns (0)%3-1) qO) af) ?_
     repeat refine aq ?_
     refine ag (bl.all rfl<|cG.mk qS qS af) ?_
     repeat refine aq ?_
     refine cX ?_
     refine a5 ((0)+1) ?_
     exact⟨(0)+1,[0,1,3],qO,cA,aY⟩
    ·refine bd ?_
     have ek:rP ns (0)=((0:Nat):Int):=if_neg hs
     have hc:ae Tryz.prog 66 [.int .i64 0,.int .i64 3] (.p (.int .i64 (rP ns (0)%3))) []:=by
      rw[ek];exact iE _ 3 qO qO
     refine cS ?_
     repeat refine aq ?_
     refine ag (aa.pure (hc) af) ?_
     refine ag (ai.bD (rP ns (0)%3-1) rfl qO af) ?_
     refine ag (aa.pure (eO (rP ns (0)%3-1) qO) af) ?_
     repeat refine aq ?_
     refine ag (bl.all rfl<|cG.mk qS qS af) ?_
     repeat refine aq ?_
     refine cX ?_
     refine a5 ((0)+1) ?_
     exact⟨(0)+1,[0,1,3],qO,cA,aY⟩
   |j+1,hi=>
    have hi:j+1<=2*N-1:=hi
    refine a5 (2*N) ?_
    refine a5 (2*N-1) ?_
    by_cases hin:j+1<2*N-1
    ·refine bo ?_
     have b1:=Int.emod_nonneg (rP ns (j+1)) (show(3:Int)≠0 by decide)
     have b2:=Int.emod_lt_of_pos (rP ns (j+1)) (show(0:Int)<3 by decide)
     refine SZ.mk (ns.length:Int) qS ?_
     by_cases hs:j+1<ns.length
     ·refine bo ?_
      have ek:rP ns (j+1)=(ns.getD (j+1) 0).tdiv 2:=if_pos hs
      have hq:=hns (j+1)
      have hq2: -9223372036854775808<=(ns.getD (j+1) 0).tdiv 2/\(ns.getD (j+1) 0).tdiv 2<9223372036854775808:=by
       unfold nB at hq
       rw[Int.tdiv_eq_ediv,show Int.sign 2=1 from rfl];split<;>omega
      refine aF.ib (j+1) rfl hs ?_
      refine yk.mk qO ?_
      refine ai.bD (rP ns (j+1)) ek.symm qO ?_
      refine cS ?_
      repeat refine aq ?_
      refine ag (aa.pure (iE (rP ns (j+1)) 3 qO qO) af) ?_
      refine ag (ai.bD (rP ns (j+1)%3-1) rfl qO af) ?_
      refine ag (aa.pure (eO (rP ns (j+1)%3-1) qO) af) ?_
      repeat refine aq ?_
      refine ag (iq.mk (by simp[aH])<|bl.all rfl<|cG.mk (by simp[aH];omega) (by simp[aH];omega)<|dp.mk _ (jR (j+1) (Nd ns) _ rfl)<|pa.mk (j+1+1) (by simp[aH]) af) ?_
      repeat refine aq ?_
      refine cX ?_
      refine a5 ((j+1)+1) ?_
      exact⟨(j+1)+1,[0,1,4],qO,cA,aY⟩
     ·refine bd ?_
      have ek:rP ns (j+1)=((j+1:Nat):Int):=if_neg hs
      have hc:ae Tryz.prog 66 [.int .i64 ((j+1:Nat):Int),.int .i64 3] (.p (.int .i64 (rP ns (j+1)%3))) []:=by
       rw[ek];exact iE _ 3 qO qO
      refine cS ?_
      repeat refine aq ?_
      refine ag (aa.pure (hc) af) ?_
      refine ag (ai.bD (rP ns (j+1)%3-1) rfl qO af) ?_
      refine ag (aa.pure (eO (rP ns (j+1)%3-1) qO) af) ?_
      repeat refine aq ?_
      refine ag (iq.mk (by simp[aH])<|bl.all rfl<|cG.mk (by simp[aH];omega) (by simp[aH];omega)<|dp.mk _ (jR (j+1) (Nd ns) _ rfl)<|pa.mk (j+1+1) (by simp[aH]) af) ?_
      repeat refine aq ?_
      refine cX ?_
      refine a5 ((j+1)+1) ?_
      exact⟨(j+1)+1,[0,1,4],qO,cA,aY⟩
    ·refine bd ?_
     have hl:aE 1 N=2*N-1:=if_pos (.inl rfl)
     refine ab.pure (.ov (ps:=pK lz {yh 1 N 0 (aZ ns)with A:=Nd ns}) (fun d hd=>by simp at hd;rcases hd with rfl|rfl|rfl|rfl|rfl|rfl|rfl<;>rfl) rfl fun i c d e1 e2=>?_)
     match i,e1,e2 with
     |0,e1,e2=>cases e1;cases e2;exact .p _ (.int _ _)
     |1,e1,e2=>cases e1;cases e2;exact .p _ (.int _ _)
     |2,e1,e2=>cases e1;cases e2;exact .p _ (.int _ _)
     |3,e1,e2=>cases e1;cases e2;exact fu (N:=j+1) (F:=Nd ns) rfl qO (by show j+1=aE 1 N;omega) fun t _=>by rw[Nat.zero_add]
     |4,e1,e2=>cases e1;cases e2;exact .p _ (.sl _ _ (au _))
     |5,e1,e2=>cases e1;cases e2;exact .p _ (.sl _ _ (au _))
     |6,e1,e2=>cases e1;cases e2;exact .p _ (.sl _ _ (au _))
  ·rw[if_neg fun h=>h1 h.2]
   refine ao.no (iO h1) ?_
   exact ab.pure (.p _ (cw _))
 ·rw[if_neg fun h=>h0 h.1]
  refine bd ?_
  exact ab.pure (.p _ (cw _))
theorem fr (a n:Int) (hn:0<n) (hn':n<4611686018427387904):ae Tryz.prog 67 [.int .i64 a,.int .i64 n] (.p (.int .i64 (a%n))) []:=by
 refine aW Tryz.func67 ?_
 have hw:=eN (a:=a) hn
 have hb:=jK a hn
 obtain⟨r,hr⟩:∃r,r=a.tmod n:=⟨_,rfl⟩
 rw[<-hr]at hw hb
 refine yk.mk qO ?_
 refine SZ.mk r hr.symm ?_
 by_cases h:r<0
 ·refine bo ?_
  refine ai.bD (r+n) rfl qO ?_
  rw[if_pos h]at hw
  rw[<-hw]
  exact ab.pure (.p _ (.int _ _))
 ·refine bd ?_
  rw[if_neg h]at hw
  rw[<-hw]
  exact ab.pure (.p _ (.int _ _))
theorem lQ (a n:Int) (hn:0<n) (hn':n<4611686018427387904):ae Tryz.prog 24 [.int .i64 a,.int .i64 n] (.p (.int .i64 (a%n))) []:=by
 refine aW Tryz.func24 ?_
 have hw:=eN (a:=a) hn
 have hb:=jK a hn
 obtain⟨r,hr⟩:∃r,r=a.tmod n:=⟨_,rfl⟩
 rw[<-hr]at hw hb
 refine yk.mk qO ?_
 refine SZ.mk r hr.symm ?_
 by_cases h:r<0
 ·refine bo ?_
  refine ai.bD (r+n) rfl qO ?_
  rw[if_pos h]at hw
  rw[<-hw]
  exact ab.pure (.p _ (.int _ _))
 ·refine bd ?_
  rw[if_neg h]at hw
  rw[<-hw]
  exact ab.pure (.p _ (.int _ _))
theorem ab.A9 {H:Hp} {T:TypeId} {W N a b c:Nat} {es:List PV} (h:Nat) {av:AV} (hav:av= .agg [.p (.int .i64 a),.p (.int .i64 b),.p (.int .i64 c),.vec h W 0 N,.vec h W N 0,.vec h W N 0,.vec h W N 0]) (h0:look H h= .vec T W es) (hp:∀e∈es,∀c∈e.cells,ct c):
  ab [] av H (.agg [.p (.int .i64 a),.p (.int .i64 b),.p (.int .i64 c),.vec 0 W 0 N,.vec 0 W N 0,.vec 0 W N 0,.vec 0 W N 0]) [.vec T W es]:=
 .mk [h] rfl qS rfl (Nat.zero_le _) (fun h hl=>by rw[bI]at hl;exact hl.elim) (fun h hl=>absurd (bI h) hl) (fun i h' B e1 e2=>by
  match i,e1,e2 with
  |0,e1,e2=>
   cases e1;cases e2
   rw[fE h0 trivial]
   exact .vec hp) (by
  rw[hav]
  refine .agg (fun d hd=>by simp at hd;rcases hd with rfl|rfl|rfl|rfl|rfl|rfl<;>rfl) rfl fun i c d e1 e2=>?_
  match i,e1,e2 with
  |0,e1,e2=>cases e1;cases e2;exact .p _ (.int _ _)
  |1,e1,e2=>cases e1;cases e2;exact .p _ (.int _ _)
  |2,e1,e2=>cases e1;cases e2;exact .p _ (.int _ _)
  |3,e1,e2=>cases e1;cases e2;exact .vec rfl
  |4,e1,e2=>cases e1;cases e2;exact .vec rfl
  |5,e1,e2=>cases e1;cases e2;exact .vec rfl
  |6,e1,e2=>cases e1;cases e2;exact .vec rfl)
theorem nY (m:Bool) (n most:Int) (ns:List Int) (hn:nB n) (hns:kR ns) (hm1:1<=most) (hm8:most<=8):
  ae Tryz.prog 29 [.int .i64 2,.int .i64 n,.sl m 1 (dn ns),.int .i64 most] (.agg [.p (.int .i64 3),.p (.int .i64 (gQ n most)),.p (.int .i64 0),.vec 0 3 0 (gQ n most),.vec 0 3 (gQ n most) 0,.vec 0 3 (gQ n most) 0,.vec 0 3 (gQ n most) 0]) [.vec 31 3 (a7 (aH (gQ n most) (aZ ns)))]:=by
 have hmz:=Int.emod_nonneg n (show most≠0 by omega)
 have hmz2:=Int.emod_lt_of_pos n (show(0:Int)<most by omega)
 have hnz:((gQ n most:Nat):Int)=1+n%most:=by unfold gQ;omega
 obtain⟨k,hk⟩:∃k,k=3:=⟨_,rfl⟩
 obtain⟨N,hN⟩:∃N,N=gQ n most:=⟨_,rfl⟩
 rw[<-hN]at hnz⊢
 have k1:1<=k:=qO
 have k7:k<=7:=qO
 have n1:1<=N:=qO
 have n8:N<=8:=qO
 have hr3:0<=3:=qO
 obtain⟨ca,cb,ch,cbn⟩:=xm (k:=k) (r:=0) n1 n8 hr3
 have hA:aE k N=N:=by rw[hk];rfl
 have hB:aV k N=0:=by rw[hk];rfl
 have hH:bE k N 0=0:=by rw[hk];rfl
 have w7:=fY 2 7 qO qO
 refine aW Tryz.func29 ?_
 refine aa.pure (w7) ?_
 refine kJ (k:Int) ?_
 refine aa.pure (fY n most qO qO) ?_
 refine kJ (N:Int) ?_
 refine aa.pure (tj k k1 k7) ?_
 rw[decide_eq_false (show ¬(k=6\/k=7) by omega)]
 refine fI ?_
 have hc:=kP k N 0 k1 k7 n1 n8 hr3 f6 f6 f6 f6
 refine aa.aO (hc) (fun _=>rfl) ?_
 refine a5 (aE k N+aV k N) ?_
 refine a5 (2*bE k N 0) ?_
 refine a5 (aE k N+aV k N+2*bE k N 0) ?_
 refine aa.fresh (pvs:=[.sl m 1 (dn ns),.int .i64 ((aE k N+aV k N+2*bE k N 0:Nat):Int)]) (pO m ns hns (aE k N+aV k N+2*bE k N 0) qO) ?_
 refine cS ?_
 repeat refine aq ?_
 refine ag (SZ.mk (aE k N:Int) rfl<|cm.mk qS<|fO.mk (0) (aE k N) rfl rfl qO qO af) ?_
 repeat refine aq ?_
 refine ag (a5 (aE k N+aV k N) af) ?_
 repeat refine aq ?_
 refine ag (a5 (aE k N+aV k N) af) ?_
 refine ag (SZ.mk ((aE k N+aV k N:Nat):Int) rfl<|cm.mk qS<|fO.mk (aE k N) (aE k N+aV k N) rfl rfl qO qO af) ?_
 repeat refine aq ?_
 refine ag (a5 (aE k N+aV k N) af) ?_
 repeat refine aq ?_
 refine ag (a5 (aE k N+aV k N) af) ?_
 repeat refine aq ?_
 refine ag (a5 (aE k N+aV k N+bE k N 0) af) ?_
 repeat refine aq ?_
 refine ag (a5 (aE k N+aV k N) af) ?_
 repeat refine aq ?_
 refine ag (a5 (aE k N+aV k N+bE k N 0) af) ?_
 refine ag (SZ.mk ((aE k N+aV k N+bE k N 0:Nat):Int) rfl<|cm.mk qS<|fO.mk (aE k N+aV k N) (aE k N+aV k N+bE k N 0) rfl rfl qO qO af) ?_
 repeat refine aq ?_
 refine ag (a5 (aE k N+aV k N) af) ?_
 repeat refine aq ?_
 refine ag (a5 (aE k N+aV k N+bE k N 0) af) ?_
 refine ag (fO.mk (aE k N+aV k N+bE k N 0) (aE k N+aV k N+2*bE k N 0) rfl rfl qO qO af) ?_
 repeat refine aq ?_
 refine cX ?_
 refine aJ.mk (Nat×(Nat->Rat)) (fun(j,F)=>([(8,.aC 0 0),(9,.aC 1 0),(10,.p (.int .i64 (aE k N))),(11,.p (.int .i64 (aV k N))),(14,.p (.int .i64 j))],
   [.box 26 rL,.box 26 (lD k N 0),.vec 31 3 (a7 (aH (aE k N+aV k N+2*bE k N 0) F))]))
  (fun(j,F)=>j<=aV k N/\∀t,t<aE k N+aV k N+2*bE k N 0->F t=if aE k N<=t/\t<aE k N+j then f9 (aZ ns) (t-aE k N) (aZ ns t) (aE k N)else aZ ns t) (fun x=>aV k N-x.1) (0,aZ ns) [0,1,2]
  ⟨Nat.zero_le _,fun t _=>by rw[if_neg qO]⟩ aY ?_
 intro⟨j,F⟩ ⟨j1,j2⟩
 refine bd ?_
 have j1:j<=0:=by rw[<-hB];exact j1
 subst hk
 have hF:aH (aE 3 N+aV 3 N+2*bE 3 N 0) F=aH N (aZ ns):=by
  rw[show aE 3 N+aV 3 N+2*bE 3 N 0=N by rw[hA,hB,hH];rfl]
  refine d8 fun t ht=>?_
  rw[j2 t (by rw[hA];omega),if_neg qO]
 refine ab.A9 2 (by rw[hA,hB,hH];show AV.agg _=_;simp;rfl) ?_ (au _)
 exact congrArg (fun l=>aA.vec 31 3 (a7 l)) hF
theorem aa.A9 {P:Program} {wr:Bool} {f:FuncId} {L:Hd->aA} {base:Nat} {K:AV->List (Hd×aA)->Prop} {pvs:List PV} {T:TypeId} {W N:Nat} {es:List PV} {a b c:PV}
  (hc:ae P f pvs (.agg [.p a,.p b,.p c,.vec 0 W 0 N,.vec 0 W N 0,.vec 0 W N 0,.vec 0 W N 0]) [.vec T W es])
  (hk:K (.agg [.p a,.p b,.p c,.vec base W 0 N,.vec base W N 0,.vec base W N 0,.vec base W N 0]) [(base,.vec T W es)]):∀{raw:List AV},aa P wr f raw (pvs.map .p) L base K:=fun{raw}=>
 .mk [] (pvs.map .p) (.agg [.p a,.p b,.p c,.vec 0 W 0 N,.vec 0 W N 0,.vec 0 W N 0,.vec 0 W N 0]) [] [.vec T W es] (fun _=>rfl) .nil (fun _ h=>by simp at h) (by rw[AV.bP,List.map_map];exact List.map_congr_left fun _ _=>rfl) rfl (fun i h B e=>by simp at e) (fun _ h=>by simp at h) (fun _ h=>by simp at h) (Nat.zero_le _) (fun B h=>by simp at h;subst h;exact fun e=>by cases e)
  (fun a ha k hk=>by obtain⟨v,_,rfl⟩:=List.mem_map.1 ha;simp only[AV.aT]at hk) hc hk
abbrev N6 (g:GV):GV:={g with k:=2}
theorem BK {g:GV} (h:Wf g 5 13) (hk:g.k=1):Wf (N6 g) 5 13 where
 k1:=by show 1<=2;decide
 k7:=by show 2<=7;decide
 n1:=h.n1
 n6:=h.n6
 r2:=h.r2
 r1:=fun h=>by rcases h with h|h<;>cases h
 r0:=fun _=>h.r0 qO
 bA:=fun i hi=>h.bA i (by unfold GV.la aE;rw[hk];exact hi)
 bB:=fun i hi=>absurd hi (Nat.not_lt_zero _)
 bG:=fun i hi=>absurd hi (Nat.not_lt_zero _)
 bH:=fun i hi=>absurd hi (Nat.not_lt_zero _)
 ne:=fun i j _ hj=>absurd hj (Nat.not_lt_zero _)
 bc:=h.bc
 c4:=h.c4
theorem tS (m:Bool) (n most:Int) (ns:List Int) (hn:nB n) (hns:kR ns) (hm1:1<=most) (hm8:most<=8):
  ae Tryz.prog 26 [.int .i64 n,.sl m 1 (dn ns),.int .i64 most] (.p (dP lz (N6 (AP n most ns)))) []:=by
 have hc:=k9 m n most ns hn hns hm1 hm8
 have hk:(AP n most ns).k=1:=DC
 generalize AP n most ns=g at hc hk
 obtain⟨k,n',r,A,B,G,H⟩:=g
 have hk:k=1:=hk
 subst hk
 refine aW Tryz.func26 ?_
 refine aa.pure (hc) ?_
 exact ab.pure (.p _ (cw (N6 ⟨1,n',r,A,B,G,H⟩)))
def pU (ns:List Int) (i:Nat):Int:=if i<ns.length then(ns.getD i 0).tdiv 3 else(i:Int)
def zJ (ns:List Int) (i:Nat):Rat:=((pU ns i%3-1:Int):Rat)
theorem Bh (ns:List Int) (i:Nat):Bz (zJ ns i) 5:=by
 refine mw ?_ qD
 have h1:=Int.emod_nonneg (pU ns i) (show(3:Int)≠0 by decide)
 have h2:=Int.emod_lt_of_pos (pU ns i) (show(0:Int)<3 by decide)
 exact cj qO
def Lo (ns:List Int) (i:Nat):Rat:=if 0<ns.length/\ns.getD 0 0%3=0 then zJ ns i else aZ ns i
abbrev HM (N:Nat) (a:Nat->Rat):GV:={yh 3 N 0 a with A:=a}
theorem BJ {N:Nat} {ns:List Int} (n1:1<=N) (n6:N<=6):Wf (HM N (Lo ns)) 5 13:=
 {qM (ns:=ns) (k:=3) (r:=0) qD qD n1 n6 (fun h=>qO) qD (fun _=>rfl)with
  bA:=fun i _=>by unfold Lo;split;exact Bh _ _;exact gN ns i
  bB:=fun i hi=>absurd hi (Nat.not_lt_zero _)
  bG:=fun i hi=>absurd hi (Nat.not_lt_zero _)
  bH:=fun i hi=>absurd hi (Nat.not_lt_zero _)
  ne:=fun i j _ hj=>absurd hj (Nat.not_lt_zero _)}
theorem sW (m:Bool) (n most:Int) (ns:List Int) (hn:nB n) (hns:kR ns) (hm1:1<=most) (hm8:most<=8):
  ae Tryz.prog 27 [.int .i64 n,.sl m 1 (dn ns),.int .i64 most] (.p (dP lz (HM (gQ n most) (Lo ns)))) []:=by
 have hm:=nY m n most ns hn hns hm1 hm8
 have hN:=oa n most hm1
 unfold Lo
 generalize gQ n most=N at hm hN
 refine aW Tryz.func27 ?_
 refine aa.A9 hm ?_
 refine SZ.mk (ns.length:Int) qS ?_
 by_cases h0:0<ns.length
 ·refine bo ?_
  refine aF.ib 0 rfl h0 ?_
  refine aa.pure (fr (ns.getD 0 0) 3 qO qO) ?_
  by_cases h1:ns.getD 0 0%3=0
  ·refine ao.yes (jx h1) ?_
   have e:(fun i=>if 0<ns.length/\ns.getD 0 0%3=0 then zJ ns i else aZ ns i)=zJ ns:=funext fun i=>if_pos ⟨h0,h1⟩
   rw[e]
   refine aJ.mk (Nat×(Nat->Rat)) (fun(i,F)=>([(0,.p (.int .i64 n)),(1,.p (.sl m 1 (dn ns))),(6,.aC 0 0),(7,.aC 2 0),(8,.p (.int .i64 i))],[.box 26 rL,.vec 31 3 (a7 (aH N F)),.box 26 [.p (.int .i64 3),.p (.int .i64 N),.p (.int .i64 0),.vec 1 3 0 N,.vec 1 3 N 0,.vec 1 3 N 0,.vec 1 3 N 0]]))
    (fun(i,F)=>i<=N/\∀t,t<N->F t=if t<i then zJ ns t else aZ ns t) (fun x=>N-x.1) (0,aZ ns) [0,1,2] ⟨Nat.zero_le _,fun t _=>by rw[if_neg (Nat.not_lt_zero _)]⟩ aY ?_
   intro⟨i,F⟩ ⟨i1,i2⟩
   have b1:=Int.emod_nonneg (pU ns i) (show(3:Int)≠0 by decide)
   have b2:=Int.emod_lt_of_pos (pU ns i) (show(0:Int)<3 by decide)
   by_cases hin:i<N
   ·refine bo ?_
    refine SZ.mk (ns.length:Int) qS ?_
    by_cases hs:i<ns.length
    ·refine bo ?_
     have ek:pU ns i=(ns.getD i 0).tdiv 3:=if_pos hs
     have hq:=hns i
     have hq2: -9223372036854775808<=(ns.getD i 0).tdiv 3/\(ns.getD i 0).tdiv 3<9223372036854775808:=by
      unfold nB at hq
      rw[Int.tdiv_eq_ediv,show Int.sign 3=1 from rfl];split<;>omega
     refine aF.ib i rfl hs ?_
     refine yk.mk qO ?_
     refine ai.bD (pU ns i) ek.symm qO ?_
     refine cS ?_
     repeat refine aq ?_
     refine ag (aa.pure (fr (pU ns i) 3 qO qO) af) ?_
     refine ag (ai.bD (pU ns i%3-1) rfl qO af) ?_
     refine ag (aa.pure (eO (pU ns i%3-1) qO) af) ?_
     repeat refine aq ?_
     refine ag (aK.mk i rfl qO af) ?_
     refine ag (cm.rf qO<|dp.rf af) ?_
     refine cX ?_
     refine a5 (i+1) ?_
     refine⟨(i+1,_),[0,1,2],⟨hin,fun t ht=>?_⟩,cA,aY ⟨rfl,rfl,rfl,trivial⟩ (ss:=⟨rfl,rfl,rfl,rfl,rfl,trivial⟩)⟩
     show a8 F (i+0) _ t=_
     rw[Nat.add_zero]
     by_cases e:t=i
     ·subst e;rw[ah,if_pos qO];rfl
     ·rw[aj _ _ e,i2 t ht]
      by_cases e2:t<i
      ·rw[if_pos e2,if_pos qO]
      ·rw[if_neg e2,if_neg qO]
    ·refine bd ?_
     have ek:pU ns i=(i:Int):=if_neg hs
     have hc:ae Tryz.prog 67 [.int .i64 i,.int .i64 3] (.p (.int .i64 (pU ns i%3))) []:=by
      rw[ek];exact fr _ 3 qO qO
     refine cS ?_
     repeat refine aq ?_
     refine ag (aa.pure (hc) af) ?_
     refine ag (ai.bD (pU ns i%3-1) rfl qO af) ?_
     refine ag (aa.pure (eO (pU ns i%3-1) qO) af) ?_
     repeat refine aq ?_
     refine ag (aK.mk i rfl qO af) ?_
     refine ag (cm.rf qO<|dp.rf af) ?_
     refine cX ?_
     refine a5 (i+1) ?_
     refine⟨(i+1,_),[0,1,2],⟨hin,fun t ht=>?_⟩,cA,aY ⟨rfl,rfl,rfl,trivial⟩ (ss:=⟨rfl,rfl,rfl,rfl,rfl,trivial⟩)⟩
     show a8 F (i+0) _ t=_
     rw[Nat.add_zero]
     by_cases e:t=i
     ·subst e;rw[ah,if_pos qO];rfl
     ·rw[aj _ _ e,i2 t ht]
      by_cases e2:t<i
      ·rw[if_pos e2,if_pos qO]
      ·rw[if_neg e2,if_neg qO]
   ·refine bd ?_
    obtain rfl:N=i:=qO
    refine ab.pure (.ov (ps:=pK lz (HM N (zJ ns))) (fun d hd=>by simp at hd;rcases hd with rfl|rfl|rfl|rfl|rfl|rfl|rfl<;>rfl) rfl fun i c d e1 e2=>?_)
    match i,e1,e2 with
    |0,e1,e2=>cases e1;cases e2;exact .p _ (.int _ _)
    |1,e1,e2=>cases e1;cases e2;exact .p _ (.int _ _)
    |2,e1,e2=>cases e1;cases e2;exact .p _ (.int _ _)
    |3,e1,e2=>cases e1;cases e2;exact fu (N:=N) (F:=F) rfl qO rfl fun t ht=>(congrArg F (Nat.zero_add t)).trans ((i2 t ht).trans (if_pos ht))
    |4,e1,e2=>cases e1;cases e2;exact fu (N:=N) (F:=F) rfl qO rfl fun t ht=>absurd ht (Nat.not_lt_zero _)
    |5,e1,e2=>cases e1;cases e2;exact fu (N:=N) (F:=F) rfl qO rfl fun t ht=>absurd ht (Nat.not_lt_zero _)
    |6,e1,e2=>cases e1;cases e2;exact fu (N:=N) (F:=F) rfl qO rfl fun t ht=>absurd ht (Nat.not_lt_zero _)
  ·refine ao.no (iO h1) ?_
   have e:(fun i=>if 0<ns.length/\ns.getD 0 0%3=0 then zJ ns i else aZ ns i)=aZ ns:=funext fun i=>if_neg fun h=>h1 h.2
   rw[e]
   refine ab.pure (.ov (ps:=pK lz (HM N (aZ ns))) (fun d hd=>by simp at hd;rcases hd with rfl|rfl|rfl|rfl|rfl|rfl|rfl<;>rfl) rfl fun i c d e1 e2=>?_)
   match i,e1,e2 with
   |0,e1,e2=>cases e1;cases e2;exact .p _ (.int _ _)
   |1,e1,e2=>cases e1;cases e2;exact .p _ (.int _ _)
   |2,e1,e2=>cases e1;cases e2;exact .p _ (.int _ _)
   |3,e1,e2=>cases e1;cases e2;exact fu (N:=N) (F:=aZ ns) rfl qO rfl fun t ht=>by rw[Nat.zero_add]
   |4,e1,e2=>cases e1;cases e2;exact fu (N:=N) (F:=aZ ns) rfl qO rfl fun t ht=>absurd ht (Nat.not_lt_zero _)
   |5,e1,e2=>cases e1;cases e2;exact fu (N:=N) (F:=aZ ns) rfl qO rfl fun t ht=>absurd ht (Nat.not_lt_zero _)
   |6,e1,e2=>cases e1;cases e2;exact fu (N:=N) (F:=aZ ns) rfl qO rfl fun t ht=>absurd ht (Nat.not_lt_zero _)
 ·refine bd ?_
  have e:(fun i=>if 0<ns.length/\ns.getD 0 0%3=0 then zJ ns i else aZ ns i)=aZ ns:=funext fun i=>if_neg fun h=>h0 h.1
  rw[e]
  refine ab.pure (.ov (ps:=pK lz (HM N (aZ ns))) (fun d hd=>by simp at hd;rcases hd with rfl|rfl|rfl|rfl|rfl|rfl|rfl<;>rfl) rfl fun i c d e1 e2=>?_)
  match i,e1,e2 with
  |0,e1,e2=>cases e1;cases e2;exact .p _ (.int _ _)
  |1,e1,e2=>cases e1;cases e2;exact .p _ (.int _ _)
  |2,e1,e2=>cases e1;cases e2;exact .p _ (.int _ _)
  |3,e1,e2=>cases e1;cases e2;exact fu (N:=N) (F:=aZ ns) rfl qO rfl fun t ht=>by rw[Nat.zero_add]
  |4,e1,e2=>cases e1;cases e2;exact fu (N:=N) (F:=aZ ns) rfl qO rfl fun t ht=>absurd ht (Nat.not_lt_zero _)
  |5,e1,e2=>cases e1;cases e2;exact fu (N:=N) (F:=aZ ns) rfl qO rfl fun t ht=>absurd ht (Nat.not_lt_zero _)
  |6,e1,e2=>cases e1;cases e2;exact fu (N:=N) (F:=aZ ns) rfl qO rfl fun t ht=>absurd ht (Nat.not_lt_zero _)
theorem nZ (m:Bool) (kind n:Int) (ns:List Int) (hkind:nB kind) (hn:nB n) (hns:kR ns):
  ∃g:GV,ae Tryz.prog 5 [.int .i64 kind,.int .i64 n,.sl m 1 (dn ns),.int .i64 4] (.p (dP lz g)) []/\Wf g 5 13/\g.n<=4:=by
 have hN:=oa n 4 qD
 have hw:=lQ kind 7 qD qD
 have b1:=Int.emod_nonneg kind (show(7:Int)≠0 by decide)
 have b2:=Int.emod_lt_of_pos kind (show(0:Int)<7 by decide)
 have h10:=k9 m n 4 ns hn hns qD qD
 have hh:=tS m n 4 ns hn hns qD qD
 have hc:=sW m n 4 ns hn hns qD qD
 have h13:=fun like=>uD m n 4 ns like hn hns qD qD
 have h5:=ko m kind n 4 ns hkind hn hns qD qD
 generalize ek:kind%7=k at hw b1 b2
 have hk:k=0\/k=1\/k=2\/k=3\/k=4\/k=5\/k=6:=qO
 have wk:∀K,(K=5\/K=7)->Wf (BQ (yh K (gQ n 4) (yi K n) (aZ ns)) ns) 5 13:=fun K hK=>by
  obtain⟨r1,r2,r0⟩:=Cq (k:=K) n
  exact HW (qM qO qO hN.1 qO r1 r2 r0) hK
 rcases hk with rfl|rfl|rfl|rfl|rfl|rfl|rfl
 ·refine⟨_,?_,xM n 4 ns qD qD,by rw[C5];omega⟩
  refine aW Tryz.func5 ?_
  refine aa.pure (hw) ?_
  refine ir ?_
  refine aa.pure (h10) ?_
  exact ab.pure (.p _ (cw _))
 ·refine⟨_,?_,BK (xM n 4 ns qD qD) DC,by show(AP n 4 ns).n<=4;rw[C5];omega⟩
  refine aW Tryz.func5 ?_
  refine aa.pure (hw) ?_
  refine cJ ?_
  refine ir ?_
  refine aa.pure (hh) ?_
  exact ab.pure (.p _ (cw _))
 ·refine⟨_,?_,BJ (ns:=ns) hN.1 qO,by show gQ n 4<=4;omega⟩
  refine aW Tryz.func5 ?_
  refine aa.pure (hw) ?_
  refine cJ ?_
  refine cJ ?_
  refine ir ?_
  refine aa.pure (hc) ?_
  exact ab.pure (.p _ (cw _))
 ·refine⟨_,?_,sv kind n 4 ns qD qD,by show gQ n 4<=4;omega⟩
  refine aW Tryz.func5 ?_
  refine aa.pure (hw) ?_
  refine cJ ?_
  refine cJ ?_
  refine cJ ?_
  refine cJ ?_
  refine cJ ?_
  refine aa.pure (h5) ?_
  exact ab.pure (.p _ (cw _))
 ·refine⟨_,?_,wk 5 (.inl rfl),by rw[DG];show gQ n 4<=4;omega⟩
  refine aW Tryz.func5 ?_
  refine aa.pure (hw) ?_
  refine cJ ?_
  refine cJ ?_
  refine cJ ?_
  refine ir ?_
  refine cJ ?_
  refine aa.pure (h13 false) ?_
  exact ab.pure (.p _ (cw _))
 ·refine⟨_,?_,sv kind n 4 ns qD qD,by show gQ n 4<=4;omega⟩
  refine aW Tryz.func5 ?_
  refine aa.pure (hw) ?_
  refine cJ ?_
  refine cJ ?_
  refine cJ ?_
  refine cJ ?_
  refine cJ ?_
  refine aa.pure (h5) ?_
  exact ab.pure (.p _ (cw _))
 ·refine⟨_,?_,wk 7 (.inr rfl),by rw[DG];show gQ n 4<=4;omega⟩
  refine aW Tryz.func5 ?_
  refine aa.pure (hw) ?_
  refine cJ ?_
  refine cJ ?_
  refine cJ ?_
  refine cJ ?_
  refine ir ?_
  refine ir ?_
  refine aa.pure (h13 true) ?_
  exact ab.pure (.p _ (cw _))
theorem xi (m m':Bool) (n:Nat) (A:Nat->Nat->Rat) {R:Nat->Nat} (hRB:RB R n n A) (hn:n<=900):
  ae Tryz.prog 10 [cn m m' n n A] (.p (aB (elim n A n).gR)) []:=by
 refine aW Tryz.func10 ?_
 refine SZ.mk (n:Int) qS ?_
 refine aa.aO (oW m m' n n A hRB (Nat.le_refl n) qO) (fun _=>rfl) ?_
 exact ab.pure (.p _ (aG _ _ _))
theorem l4 (m:Nat->Bool) (g:GV) {b c:Nat} (h:Wf g b c):ae Tryz.prog 11 [dP m g] (.p (cn false false g.n g.n (aQ g))) []:=by
 have h8:=h.n6
 refine aW Tryz.func11 ?_
 refine aJ.yu Nat (fun i=>([(1,.aC 0 0),(3,.vec 1 1 0 i),(4,.p (.int .i64 i))],[.box 26 (jF m g),.rows 24 (cO 2 g.n i id),.bu 31 3 (c9 i g.n (aQ g))]))
  (fun i=>i<=g.n) (fun i=>g.n-i) 0 [0,1,2] _ _ (.rows 3 24 rfl (.bu 31 3 (.done _ _))) (Nat.zero_le _) (aY ⟨rfl,rfl,rfl,aN fun i hi=>absurd hi (Nat.not_lt_zero _),trivial⟩) ?_
 intro i (hi:i<=g.n)
 by_cases hin:i<g.n
 ·refine bo ?_
  refine aJ.yu Nat (fun j=>([(1,.aC 0 0),(3,.vec 1 1 0 i),(4,.p (.int .i64 i)),(5,.vec 3 3 0 j),(6,.p (.int .i64 j))],[.box 26 (jF m g),.rows 24 (cO 2 g.n i id),.bu 31 3 (c9 i g.n (aQ g)),.vec 31 3 (a7 (aH j (aQ g i)))]))
   (fun j=>j<=g.n) (fun j=>g.n-j) 0 [0,1,2,3] _ _ (.step 5 31 3 rfl (.done _ _)) (Nat.zero_le _) (aY ⟨rfl,congrArg _ (aS 2 rfl qD),rfl,rfl,aN fun i hi=>by simpa[aD]using hi,trivial⟩) ?_
  intro j (hj:j<=g.n)
  by_cases hjn:j<g.n
  ·refine bo ?_
   refine aa.pure (tN m g h i j hin hjn) ?_
   refine iq.mk (by simp[aH])<|bl.all rfl<|cG.mk (by simp[aH];omega) (by simp[aH];omega)<|dp.mk (a7 (aH (j+1) (aQ g i))) (jR _ _ _ (rfl))<|pa.mk (j+1) (by simp[aH]) ?_
   refine a5 (j+1) ?_
   exact⟨j+1,[0,1,2,5],hjn,cA,aY ⟨rfl,congrArg _ (aS 2 rfl qD),rfl,rfl,aN fun i hi=>by simpa[aD]using hi,trivial⟩⟩
  ·refine bd ?_
   obtain rfl:j=g.n:=qO
   refine iq.mk qS ?_
   refine cG.mk (by simp;omega) (by simp;omega) ?_
   refine rR.mk _ rfl ?_
   refine pa.mk (i+1) qS ?_
   refine a5 (i+1) ?_
   exact⟨i+1,[0,5,4002],hin,cA,aY ⟨rfl,congrArg _ (gb rfl qD (by simp[aD])),⟨_,_,_,_,rfl,rfl,congrArg _ eW⟩,aN fun i hi=>by simpa[aD]using hi,trivial⟩⟩
 ·refine bd ?_
  obtain rfl:i=g.n:=qO
  exact ab.pure (yR (H:=[_,_,_]) (h:=1) (p:=2) rfl rfl fun i hi=>hi)
section
variable {n:Nat} {A:Nat->Nat->Rat} {x:Nat->Rat}
noncomputable abbrev lI (A:Nat->Nat->Rat) (i k:Nat):fC:=OJ (A i k)
noncomputable abbrev mI (x:Nat->Rat) (k:Nat):fC:=(AO x k,AO x k)
theorem qBt {q:Rat} {k:Nat} (h:Bz q k):q.abs<=tp k:=Rat.le_of_lt (oM h)
theorem qBu {a b:Nat} (h:a=b+1):tp a=2*tp b:=by subst h;exact rY b
theorem B4 (hx:∀i,i<n->Bz (x i) 830) {k:Nat} (hk:k<n):(fP x k).abs<=tp 831:=by
 have h1:=(dK ((hx k hk).mono qD:Bz (x k) 900) qD).2.1
 have h2:(x k).abs<=tp 830:=qBt (hx k hk)
 have h3:=l6 (fP x k-x k) (-(x k))
 rw[Rat.abs_neg,show fP x k-x k- -(x k)=fP x k by grind]at h3
 have h4:(1:Rat)<=tp 52:=by decide+kernel
 have h5:=Rat.mul_le_mul_of_nonneg_left h4 (Rat.abs_nonneg (x:=fP x k-x k))
 have h6:tp 831=2*tp 830:=qBu rfl
 generalize tp 831=a at*
 generalize tp 830=b at*
 generalize tp 52=c at*
 grind
theorem wV (n1:0<n) (n4:n<=4) (hA:∀i j,i<n->j<n->Bz (A i j) 163) (hx:∀i,i<n->Bz (x i) 830) {i:Nat} (hi:i<n):
  ∃s,ow s/\EO s (nw (A i) (fP x) n)/\∀b1 b2,ae Tryz.prog 21 [.sl b1 2 (Al n (lI A i)),.sl b2 2 (Al n (mI x))] (.bK [.p (oo s),.p (.int .i64 0)]) []:=by
 have hL:∀k,k<n->vY (lI A i k) 163:=fun k hk=>CD (hA i k hi hk) qD
 have hM:∀k,k<n->vY (mI x k) 831:=fun k hk=>IH (dK ((hx k hk).mono qD:Bz (x k) 900) qD).1 (B4 hx hk)
 obtain⟨s,h1,h2⟩:=Dl (e:=163+831) (fun k hk=>Dj (hL k hk) (hM k hk) qD) qO (n-1) qO
 have fL:∀k,k<n->gV (lI A i k) (iM (lI A i k).1) (iM (lI A i k).2):=fun k hk=>by
  obtain⟨a,b,h,_⟩:=hL k hk
  rw[h.lo.val,h.hi.val];exact h
 have fM:∀k,k<n->gV (mI x k) (fP x k) (fP x k):=fun k hk=>by
  obtain⟨a,b,h,_⟩:=hM k hk
  have e:=h.lo.val
  exact⟨h.lo.self,h.lo.self,Rat.le_refl⟩
 have hin:∀k,k<=n-1->iM (lI A i k).1<=A i k/\A i k<=iM (lI A i k).2:=fun k hk=>⟨(fL k qO).lo.JC.1 (wj _).le,(fL k qO).hi.LQ.1 (v9 _).ge⟩
 obtain⟨P,Q,hf,g1,g2⟩:=xU (fun k hk=>fL k qO) (fun k hk=>fM k qO) hin (fun k _=>⟨Rat.le_refl,Rat.le_refl⟩) (n-1) (Nat.le_refl _) s h1
 rw[show n-1+1=n by omega]at g1 g2
 refine⟨s,hf.ok,hf.P1 g1 g2,fun b1 b2=>?_⟩
 have:=zE b1 b2 (lI A i) (mI x) n n ⟨fL,fM⟩ qO
 rwa[qB qO h1]at this
theorem oK {a b:Nat->Rat} {p q n:Nat} (ha:∀i,i<n->Bz (a i) p) (hb:∀i,i<n->Bz (b i) q):∀k,k<=n->Bz (nw a b k) (k*(p+q+1)+1)
 |0,_=>cB.mono qO
 |k+1,h=>((oK ha hb k qO).add ((ha k qO).mul (hb k qO))).mono (by rw[Nat.succ_mul];omega)
theorem ll (m2 m3:Bool) (kind n:Int) (ns bs:List Int) (hkind:nB kind) (hn:nB n) (hns:kR ns) (hbs:kR bs):
  ae Tryz.prog 3 [.int .i64 kind,.int .i64 n,.sl m2 1 (dn ns),.sl m3 1 (dn bs)] (.p (.bool true)) []:=by
 obtain⟨g,hm,hw,h4⟩:=nZ m2 kind n ns hkind hn hns
 have n1:=hw.n1
 have hr:=CN m3 bs hbs g.n qO
 have hy:∀i,i<g.n->Bz (aZ bs i) 5:=fun i _=>gN bs i
 have hs:Sys g (aZ bs):=⟨hw,qO,hy⟩
 have tb:Bz qg 100:=.iW qD qD qD
 rcases tR lz false hs h4 tb with⟨x,hsol,h8,hc⟩|⟨hz,hc⟩
 ·have hx:∀i,i<g.n->Bz (x i) 900:=fun i hi=>(h8 i hi).mono qD
  have bv:∀i,i<g.n->Bz (fP x i) 1080:=fun i _=>wL _
  have he:nD g.n (aQ g) (aZ bs) (fP x)<=qg:=by
   have h1:=CG hx hsol
   have h2:qg*tp 51=2:=by decide+kernel
   have p:=dE 51
   rcases Rat.le_total (a:=nD g.n (aQ g) (aZ bs) (fP x)) (b:=qg)with c|c
   ·exact c
   ·have:=Rat.mul_le_mul_of_nonneg_right c (Rat.le_of_lt p)
    have h2:qg*((2^51:Nat):Rat)=2:=h2
    have h1:nD g.n (aQ g) (aZ bs) (fP x)*((2^51:Nat):Rat)<=1:=h1
    grind
  have hc:=hc he
  have c3:=xl false false false false g.n (aQ g) (aZ bs) (AO x) (fun i j hi hj=>hs.hA i j hi hj) hy (fun i hi=>(dK (hx i hi) qD).1) bv n1 qO
  have be:=Bx hs h4 bv
  obtain⟨eta,hE⟩:∃e,e=nD g.n (aQ g) (aZ bs) (fP x):=⟨_,rfl⟩
  rw[<-hE]at he hc c3 be
  have hsame:=oG eta eta be be qD
  rw[decide_eq_true rfl]at hsame
  have bS:=fun i (hi:i<g.n)=>oK (a:=aQ g i) (b:=fP x) (p:=163) (q:=1080) (n:=g.n) (fun j hj=>hs.hA i j hi hj) bv
  refine aW Tryz.func3 ?_
  refine aa.pure (nt) ?_
  refine cJ ?_
  refine aa.pure (hm) ?_
  refine aa.pure (hr) ?_
  refine aa.aO (oE) (fun _=>rfl) ?_
  refine aa.aO (hc) (fun _=>rfl) ?_
  refine cJ ?_
  refine aa.pure (eI lz g hw) ?_
  refine aa.aO (c3) (fun _=>rfl) ?_
  refine cJ ?_
  refine aa.pure (hsame) ?_
  refine cJ ?_
  refine aa.pure (yL eta qg be tb qD) ?_
  refine ao.no (decide_eq_false fun h=>by have:=fj.1 h;grind) ?_
  refine SZ.mk (g.n:Int) qS ?_
  refine ao.no qS ?_
  refine SZ.mk (g.n:Int) qS ?_
  refine ao.no qS ?_
  refine aJ.mk Nat (fun i=>([(9,.aC 0 0),(13,.p (.sl false 1 (vj g.n (AO x)))),(16,.p (cn false false g.n g.n (aQ g))),(19,.p (.int .i64 i))],[.box 26 (jF lz g)]))
   (fun i=>i<=g.n) (fun i=>g.n-i) 0 [0] (Nat.zero_le _) aY ?_
  intro i (hi:i<=g.n)
  by_cases hin:i<g.n
  ·refine bo ?_
   refine gx ?_
   repeat refine aq ?_
   refine ag (aF.mf i rfl hin af) ?_
   repeat refine aq ?_
   refine ag (SZ.mk (g.n:Int) (by simp[aH]) af) ?_
   repeat refine aq ?_
   refine ag (ao.no qS af) ?_
   repeat refine aq ?_
   refine aa.pure (js) ?_
   refine aJ.yu Nat (fun j=>([(9,.aC 0 0),(13,.p (.sl false 1 (vj g.n (AO x)))),(16,.p (cn false false g.n g.n (aQ g))),(19,.p (.int .i64 i)),(20,.vec 2 2 0 j),(21,.vec 3 2 0 j),(22,.aC 1 0),(23,.p (.int .i64 j))],
     [.box 26 (jF lz g),.box 31 (lr (nw (aQ g i) (fP x) j)),.vec 49 2 (Al j (lI (aQ g) i)),.vec 49 2 (Al j (mI x))]))
    (fun j=>j<=g.n) (fun j=>g.n-j) 0 [0,1,2,3] _ _ (.step 20 49 2 rfl (.step 21 49 2 rfl (.done _ _))) (Nat.zero_le _) aY ?_
   intro j (hj:j<=g.n)
   by_cases hjn:j<g.n
   ·refine bo ?_
    have zA:=hs.hA i j hin hjn
    have hf:=(dK (hx j hjn) qD).1
    refine cS ?_
    repeat refine aq ?_
    refine ag (aF.mf i rfl hin af) ?_
    repeat refine aq ?_
    refine ag (aF.rf j rfl hjn af) ?_
    repeat refine aq ?_
    refine ag (aa.pure (Dy (aQ g i j) zA qD) af) ?_
    repeat refine aq ?_
    refine ag (iq.mk qS (bl.all rfl (cG.mk (by simp;omega) (by simp;omega) (dp.mk _ (oI j (lI (aQ g) i)) (pa.mk (j+1) qS af))))) ?_
    repeat refine aq ?_
    refine ag (aF.fl j _ rfl hjn rfl af) ?_
    repeat refine aq ?_
    refine ag (aF.fl j _ rfl hjn rfl af) ?_
    repeat refine aq ?_
    refine ag (iq.mk qS (bl.all rfl (cG.mk (by simp;omega) (by simp;omega) (dp.mk _ (oI j (mI x)) (pa.mk (j+1) qS af))))) ?_
    repeat refine aq ?_
    refine cX ?_
    refine aF.fl j _ rfl hjn rfl ?_
    refine aa.aO (pR (AO x j) hf.lt hf.nan hf.inf) (fun _=>rfl) ?_
    refine cJ ?_
    refine cS ?_
    repeat refine aq ?_
    refine ag (aF.mf i rfl hin af) ?_
    repeat refine aq ?_
    refine ag (aF.rf j rfl hjn af) ?_
    repeat refine aq ?_
    refine ag (aa.pure (iI (aQ g i j) (fP x j) zA (bv j hjn) qD) af) ?_
    refine ag (aa.pure (jn (nw (aQ g i) (fP x) j) (aQ g i j*fP x j) (bS i hin j hj) (zA.mul (bv j hjn)) qO) af) ?_
    repeat refine aq ?_
    refine cX ?_
    refine a5 (j+1) ?_
    exact⟨j+1,[0,1,5,7],hjn,cA,aY⟩
   ·refine bd ?_
    obtain rfl:j=g.n:=qO
    obtain⟨s,so,si,sd⟩:=wV n1 h4 (fun a b ha hb=>hs.hA a b ha hb) h8 hin
    have hh:=yq s (nw (aQ g i) (fP x) g.n) so (bS i hin g.n (Nat.le_refl _)) qO
    rw[si.right,si.has]at hh
    refine bl.all qS<|bl.all qS ?_
    refine aa.aO (sd true true) (fun _=>rfl) ?_
    refine cJ ?_
    refine aa.pure (hh) ?_
    refine cJ ?_
    refine a5 (i+1) ?_
    exact⟨i+1,[0],hin,cA,aY⟩
  ·refine bd ?_
   exact ab.pure (.tf _)
 ·have hR:RB (bb 163) g.n g.n (aQ g):=.P7 (fun i j hi hj=>hs.hA i j hi hj) (Nat.le_refl _) (Nat.le_trans (mV h4) (by decide+kernel))
  have hd:=xi false false g.n (aQ g) hR qO
  have hz':=il 0
  rw[decide_eq_true rfl]at hz'
  rw[show(elim g.n (aQ g) g.n).gR=0 from hz]at hd
  refine aW Tryz.func3 ?_
  refine aa.pure (nt) ?_
  refine cJ ?_
  refine aa.pure (hm) ?_
  refine aa.pure (hr) ?_
  refine aa.aO (oE) (fun _=>rfl) ?_
  refine aa.aO (hc) (fun _=>rfl) ?_
  refine ir ?_
  refine ir ?_
  refine aa.pure (l4 lz g hw) ?_
  refine aa.pure (hd) ?_
  refine aa.pure (hz') ?_
  exact ab.pure (.p _ (.bool _))
end
section
open Go Go.ChangeShapes Go.WideShapes Go.ChangeAt Go.RowKit Go.WideElems
theorem Tryz.own:ownKnob Tryz.prog.godebug=none:=qK
theorem Tryz.laidOut:laidOutB Tryz.prog=true:=qK
theorem Tryz.BS:Tryz.prog.cellsOf 3=1:=qK
abbrev xW (W:World):Nat->Prop:=fun b=>b<W.heap.size
theorem z7 {P:Program} {f:FuncId} {pvs:List PV} (hc:ae P f pvs (.p (.bool true)) []) {W:World} {vs:List Value} (hl:vs.length=pvs.length) (hv:∀(i:Nat) p v,pvs[i]?=some p->vs[i]?=some v->PR W (aM fR (xW W)) p v):
  Calls P f vs.toArray W fun e W'=>e= .returned (.bool true)/\Below W.heap.size W W':=by
 refine(hc.run W (xW W) fR (fun _=>(none,0)) vs ⟨by simp[hl],fun i a v e1 e2=>?_,fun h=>by rw[bI];trivial,fun b h=>h,fun b h=>h.elim,fun h b hl=>?_,fun h h' b hl=>?_,fun a ha k hk=>?_,fun h k hk=>?_⟩).mono ?_
 ·rw[List.getElem?_map]at e1
  cases hp:pvs[i]? with
  |none=>rw[hp]at e1;cases e1
  |some p=>rw[hp]at e1;cases e1;exact .p (hv i p v hp e2)
 ·rw[bI]at hl;exact hl.elim
 ·rw[bI]at hl;exact hl.elim
 ·obtain⟨p,_,rfl⟩:=List.mem_map.1 ha;simp only[AV.aT]at hk
 ·rw[bI]at hk;exact hk.elim
 ·intro e W' ⟨v,F',β',he,hr⟩
  subst he
  refine⟨?_,hr.os,hr.tape,hr.output,hr.size,fun b hb=>hr.same b hb fun h hl=>?_⟩
  ·have:=hr.rel
   cases this with|p h=>cases h;rfl
  ·rw[bI]at hl;exact hl.elim
section
variable {H:Type} {enc:TypeId×Value->H} {P:Program} {W:World} {base:Nat} {sp:Nat->Bool} {held:Bool}
theorem xC {t:TypeId} {r:Go.Reach} {b0:Nat} {v:Value} {d:DataW H} {ps:List MemPlace} (ht:P.underlying t=some (.int .i64)) (hval:Value.okWide P W r b0 t v) (hd:DataW.Trod enc P W base sp held t v d ps):
  ∃n,v= .int .i64 n/\nB n:=by
 obtain⟨n,h1,h2,h3,h4⟩:=open_int ht hval hd
 refine⟨n,h1,?_⟩
 simp[Lit.wf,IntKind.min,IntKind.max,IntKind.signed,IntKind.bits]at h4
 exact⟨qO,qO⟩
theorem sZ {t e:TypeId} {r:Go.Reach} {b0:Nat} {v:Value} {d:DataW H} {ps:List MemPlace} (ht:P.underlying t=some (.slice e)) (he:P.underlying e=some (.int .i64)) (hc:P.cellsOf e=1) (hval:Value.okWide P W r b0 t v)
  (hd:DataW.Trod enc P W base sp held t v d ps) (hlt:∀x∈ps,x.block<W.heap.size):∃zs:List Int,kR zs/\PR W (aM fR (xW W)) (.sl false 1 (dn zs)) v:=by
 obtain⟨a0,len,cap,rfl⟩:=okWide_slice ht hval
 obtain⟨fuel,hf⟩:=hd
 rcases open_ints ht he hc hf with⟨hcs,hx⟩|⟨a,len',cap',zs,hcs,_,hl,hm,hz,hx,hcell,hwz⟩
 ·simp[Value.cells]at hcs
  obtain⟨rfl,rfl,rfl⟩:=hcs
  exact⟨[],fun i=>by simp[nB],.nil _ _ _⟩
 ·simp[Value.cells]at hcs
  obtain⟨rfl,rfl,rfl⟩:=hcs
  simp only[Prod.mk.injEq]at hx
  obtain⟨_,rfl⟩:=hx
  have hlen:len<=zs.length:=by rw[hz];split<;>omega
  have hspot:a.spot=none:=by
   simp only[Value.okWide,ht,Cell.okWide]at hval
   simp[Cell.ok,World.has]at hval
   first|exact hval.1.2.1|exact hval.2.1|(have:=hval;simp_all)
  obtain⟨b,off,spot⟩:=a
  simp only at hspot
  subst hspot
  refine⟨zs.take len,fun i=>?_,?_⟩
  ·by_cases hi:i<(zs.take len).length
   ·have hm:(zs.take len).getD i 0∈zs:=by
     have:(zs.take len).getD i 0=(zs.take len)[i]:=by simp only[List.getD,List.getElem?_eq_getElem hi,Option.getD_some]
     rw[this]
     exact List.mem_of_mem_take (List.getElem_mem hi)
    have h4:=hwz _ hm
    generalize(zs.take len).getD i 0=q at h4⊢
    simp[Lit.wf,IntKind.min,IntKind.max,IntKind.signed,IntKind.bits]at h4
    exact⟨qO,qO⟩
   ·rw[eJ _ 0 qO];simp[nB]
  ·have hll:(dn (zs.take len)).length=len:=by simp;omega
   have h:=PR.sl (w:=W) (FB:=aM fR (xW W)) false 1 (dn (zs.take len)) b off cap (fun i _=>.int .i64 (zs.getD i 0)) (by rw[hll];exact hl) (fun hne=>?_) (fun e he=>?_) (fun e he c hc=>?_) (fun i e j c e1 e2=>?_) (fun i e j c e1 e2=>?_)
   ·rw[hll]at h;exact h
   ·have hpos:0<zs.length:=by
     rcases Nat.eq_zero_or_pos zs.length with h0|h0
     ·exact(hne (by rw[List.length_eq_zero_iff.1 h0];simp)).elim
     ·exact h0
    exact hlt (.cell b off) (MemPlace.mem_row.2 ⟨0,hpos,qS⟩)
   ·obtain⟨z,_,rfl⟩:=List.mem_map.1 he;rfl
   ·obtain⟨z,_,rfl⟩:=List.mem_map.1 he
    have hc:c∈[PV.int .i64 z]:=hc
    simp at hc;subst hc;rfl
   all_goals
    have hi:i<len:=by have:=(List.getElem?_eq_some_iff.1 e1).1;rwa[hll]at this
    have he:e= .int .i64 (zs.getD i 0):=by
     rw[List.getElem?_map,List.getElem?_take_of_lt hi,List.getElem?_eq_getElem (show i<zs.length by omega)]at e1
     simp at e1
     simp[List.getD,show i<zs.length by omega,<-e1]
    subst he
    have hj:j=0:=by
     have:=(List.getElem?_eq_some_iff.1 e2).1
     simpa[PV.cells]using this
    subst hj
    first
     |(have:=hcell i qO
       rw[show off+i*1+0=off+i by omega]
       rwa[Addr.add_lit]at this)
     |(have hcv:c= .int .i64 (zs.getD i 0):=by simpa[PV.cells]using e2.symm
       subst hcv
       exact .int _ _)
end
end
end Go.Proofs.YtiakeknbdclaoaaGreat
