/- FTOwn: what its proof needs, part 7. -/
import Derived.Test.YtnilcfiemgmfdaaGreatMTOwn6
set_option linter.unusedVariables false
set_option linter.unusedSimpArgs false
namespace Go.Proofs.YtnilcfiemgmfdaaGreat
open Go
set_option maxRecDepth 10000
theorem ri (p:Rat) {j:Nat} (hp:Sz p j) (h:j<=137438953472):au Tryz.prog 62 [aJ p,aJ 0] (.bq [.p cu,.p (.int .i64 5)]) []:=by
 have h1:=hp.n
 have h2:=hp.d
 have z0:=(bS.mono (show 1<=1 by decide)).sz
 have z1:=z0.n
 have z2:=z0.d
 have hl:=AL (decide (p.num<0) !=decide ((0:Rat).num<0)) false false (p.num.natAbs*(0:Rat).den)
 refine aa (wr:=a9) a6 mixed Tryz.func62 (by kernel_rfl) rfl (by kernel_rfl) (af rfl) (by simp) ?_
 refine aO.mk (by kernel_rfl) ?_
 repeat refine aj.mk _ _ (And.intro rfl rfl) rfl ?_
 refine aj.mk _ _ (ag.sym (And.intro rfl rfl)) rfl ?_
 repeat refine aj.mk _ _ (And.intro rfl rfl) rfl ?_
 refine aj.mk _ _ (ab.pure (gF false false p.num.natAbs (0:Rat).den (by omega) (by omega)) (And.intro rfl rfl)) rfl ?_
 repeat refine aj.mk _ _ (And.intro rfl rfl) rfl ?_
 refine aj.mk _ _ (ab.pure (gF false false p.den (0:Rat).num.natAbs (by omega) (by omega)) (And.intro rfl rfl)) rfl ?_
 refine aj.mk _ _ (ab.bg hl (fun _=>rfl) (And.intro rfl rfl)) rfl ?_
 repeat refine aj.mk _ _ (And.intro rfl rfl) rfl ?_
 exact aq.pure (.bq rfl fun i c d e1 e2=>by
  match i,e1,e2 with
  |0,e1,e2=>cases e1;cases e2;exact .p _ (by have:=aS false 0 0;rw[fx]at this;exact this)
  |1,e1,e2=>cases e1;cases e2;exact .p _ (.int _ _))
theorem xg {a x:Nat->Rat} {s:Rat} {lo bs ba bx:Nat} {d:Nat} (hs:Bz s bs) (ha:∀j,lo<=j->j<lo+d->Bz (a j) ba) (hx:∀j,lo<=j->j<lo+d->Bz (x j) bx):Bz (sb a x s lo d) (bs+d*(ba+bx+1)):=by
 induction d with
 |zero=>exact hs.mono (by omega)
 |succ d ih=>
  have ih:=ih (fun j h1 h2=>ha j h1 (by omega)) fun j h1 h2=>hx j h1 (by omega)
  exact(ih.sub ((ha (lo+d) (by omega) (by omega)).mul (hx (lo+d) (by omega) (by omega)))).mono (by rw[Nat.succ_mul];omega)
theorem wU (m:Bool) (mx:Bool) (s:Rat) (n:Nat) (a x:Nat->Rat) (g:Nat->PV) (lo hi:Nat) {bs ba bx:Nat} (hn:n<=1000) (hlh:lo<=hi) (hhn:hi<=n) (hg:∀j,lo<=j->j<hi->g j=aJ (x j))
  (hs:Bz s bs) (ha:∀j,lo<=j->j<hi->Bz (a j) ba) (hx:∀j,lo<=j->j<hi->Bz (x j) bx) (hb:bs+n*(ba+bx+1)+ba+bx<=100000000000):
  au Tryz.prog 225 [aJ s,ah m (ar n a),.sl mx 3 (fl n g),.int .i64 lo,.int .i64 hi] (.p (aJ (sb a x s lo (hi-lo)))) []:=by
 have h0:s+0=s:=by grind
 refine aa (wr:=a9) a6 mixed Tryz.func225 (by kernel_rfl) rfl (by kernel_rfl) (af rfl) (by simp) ?_
 refine aO.cM (by kernel_rfl) ?_
 repeat refine aj.mk _ _ (And.intro rfl rfl) rfl ?_
 refine aj.mk _ _ (ab.pure (lD) (And.intro rfl rfl)) rfl ?_
 refine aj.mk _ _ (ab.pure (dZ s 0 hs.sz (bS.mono (show 1<=1 by decide)).sz (by omega)) (And.intro rfl rfl)) rfl ?_
 repeat refine aj.mk _ _ (And.intro rfl rfl) rfl ?_
 refine br.mk (by kernel_rfl) ?_
 rw[h0]
 refine aM.mk Nat (fun d=>([(1,.p (ah m (ar n a))),(2,.p (.sl mx 3 (fl n g))),(4,.p (.int .i64 hi)),(5,.aF 0 0),(10,.aF 1 0),(11,.p (.int .i64 ((lo+d:Nat):Int)))],[.box 38 (lW (sb a x s lo d)),.box 38 [.p (.bool false),.p (.sl false 1 []),.p (.sl false 1 [])]]))
  (fun d=>lo+d<=hi) (fun d=>hi-d) 0 [0,1] (by omega) ⟨rfl,by simp,rfl,rfl,rfl,⟨rfl,rfl,rfl,rfl,rfl,rfl,trivial⟩,⟨rfl,rfl,trivial⟩⟩ ?_
 intro d hd
 have hd:lo+d<=hi:=hd
 by_cases hdh:lo+d<hi
 ·refine ag.yes (decide_eq_true (by omega)) ?_
  have z1:=xg (d:=d) hs (fun j h1 h2=>ha j h1 (by omega)) fun j h1 h2=>hx j h1 (by omega)
  have z2:=(ha (lo+d) (by omega) hdh).mul (hx (lo+d) (by omega) hdh)
  have zd:d*(ba+bx+1)<=n*(ba+bx+1):=Nat.mul_le_mul_right _ (by omega)
  refine aO.cM (by kernel_rfl) ?_
  repeat refine aj.mk _ _ (And.intro rfl rfl) rfl ?_
  refine aj.mk _ _ (aG.rf (lo+d) rfl (by omega) (And.intro rfl rfl)) rfl ?_
  repeat refine aj.mk _ _ (And.intro rfl rfl) rfl ?_
  refine aj.mk _ _ (aG.fl (lo+d) (aJ (x (lo+d))) rfl (by omega) (hg (lo+d) (by omega) hdh) (And.intro rfl rfl)) rfl ?_
  repeat refine aj.mk _ _ (And.intro rfl rfl) rfl ?_
  refine aj.mk _ _ (ab.pure (b9 _ _ (ha (lo+d) (by omega) hdh).sz (hx (lo+d) (by omega) hdh).sz (by omega)) (And.intro rfl rfl)) rfl ?_
  refine aj.mk _ _ (ab.pure (cn _ _ z1.sz z2.sz (by omega)) (And.intro rfl rfl)) rfl ?_
  repeat refine aj.mk _ _ (And.intro rfl rfl) rfl ?_
  refine br.mk (by kernel_rfl) ?_
  refine ae.ao ((lo+(d+1):Nat):Int) (by omega) (by omega) ?_
  exact⟨d+1,[0,1],hdh,by show hi-(d+1)<hi-d;omega,⟨rfl,by simp,rfl,rfl,rfl,⟨rfl,rfl,rfl,rfl,rfl,rfl,trivial⟩,⟨rfl,rfl,trivial⟩⟩⟩
 ·refine ag.no (decide_eq_false (by omega)) ?_
  obtain rfl:d=hi-lo:=by omega
  exact aq.pure (.p _ (aS _ _ _))
def sK (A:Nat->Nat->Rat) (y:Nat->Rat):Nat->Nat->Rat
 |0=>y
 |i+1=>A i
def xy (m q:Bool) (n:Nat) (A:Nat->Nat->Rat) (y:Nat->Rat) (i:Nat):PV:=ah (if i=0 then q else m) (ar n (sK A y i))
theorem Af {m q:Bool} {n k:Nat} {A:Nat->Nat->Rat} {y:Nat->Rat}:[ah q (ar n y)]++(fl k fun i=>ah m (ar n (A i)))=fl (k+1) (xy m q n A y):=by
 apply List.ext_getElem?
 intro i
 match i with
 |0=>rw[cU (by omega)];rfl
 |i+1=>
  rw[List.getElem?_append_right (by simp)]
  show(fl k _)[i+1-1]?=_
  rw[Nat.add_sub_cancel]
  by_cases h:i<k
  ·rw[cU h,cU (by omega)];rfl
  ·rw[List.getElem?_eq_none (by simp;omega),List.getElem?_eq_none (by simp;omega)]
theorem qD (m m' q:Bool) (n:Nat) (A:Nat->Nat->Rat) (y:Nat->Rat) {b:Nat} (hn:n<=900) (hA:∀i j,i<n->j<n->Bz (A i j) b) (hy:∀i,i<n->Bz (y i) b) (hb:b<=100000000000):
  au Tryz.prog 224 [cm m m' n n A,ah q (ar n y)] (.p (.bool true)) []:=by
 have zR:∀i j,i<n+1->j<n->Bz (sK A y i j) b:=fun i j hi hj=>by
  match i with
  |0=>exact hy j hj
  |i+1=>exact hA i j (by omega) hj
 refine aa (wr:=a9) a6 mixed Tryz.func224 (by kernel_rfl) rfl (by kernel_rfl) (af rfl) (by simp) ?_
 refine ga.mk (by simp) ?_
 refine ck.mk (by simp;omega) (by simp;omega) ?_
 refine cH.mk (fl (n+1) (xy m' q n A y)) Af ?_
 refine mQ.mk (n+1) (by simp;omega) ?_
 refine SZ.mk ((n+1:Nat):Int) rfl ?_
 refine aM.mk Nat (fun i=>([(0,.p (cm m m' n n A)),(14,.vec 0 1 0 (n+1)),(15,.p (.int .i64 ((n+1:Nat):Int))),(16,.p (.int .i64 i))],[.vec 24 1 (fl (n+1) (xy m' q n A y))]))
  (fun i=>i<=n+1) (fun i=>n+1-i) 0 [1] (Nat.zero_le _) ⟨rfl,by simp,rfl,rfl,rfl,⟨rfl,rfl,rfl,rfl,trivial⟩,⟨rfl,trivial⟩⟩ ?_
 intro i hi
 have hi:i<=n+1:=hi
 by_cases hin:i<n+1
 ·refine ag.yes (decide_eq_true (by omega)) ?_
  refine aI.mk i rfl hin ?_
  refine aG.fl (i+0) (ah (if i=0 then q else m') (ar n (sK A y i))) rfl (by omega) rfl ?_
  generalize(if i=0 then q else m')=f
  refine SZ.mk (n:Int) (by simp[ar]) ?_
  refine SZ.mk (n:Int) (by simp) ?_
  refine ag.no (f0 rfl) ?_
  refine SZ.mk (n:Int) (by simp[ar]) ?_
  refine aM.mk Nat (fun j=>([(0,.p (cm m m' n n A)),(14,.vec 0 1 0 (n+1)),(15,.p (.int .i64 ((n+1:Nat):Int))),(16,.p (.int .i64 i)),(25,.p (ah f (ar n (sK A y i)))),(26,.p (.int .i64 n)),(27,.p (.int .i64 j))],[.vec 24 1 (fl (n+1) (xy m' q n A y))]))
   (fun j=>j<=n) (fun j=>n-j) 0 [0] (Nat.zero_le _) ⟨rfl,by simp,rfl,rfl,rfl,⟨rfl,rfl,rfl,rfl,rfl,rfl,rfl,trivial⟩,⟨rfl,trivial⟩⟩ ?_
  intro j hj
  have hj:j<=n:=hj
  by_cases hjn:j<n
  ·refine ag.yes (decide_eq_true (by omega)) ?_
   refine aG.rf j rfl hjn ?_
   refine ab.pure (dS (sK A y i j) (zR i j hin hjn).sz (by omega)) ?_
   refine ag.no (rfl) ?_
   refine ae.ao ((j+1:Nat):Int) (by omega) (by omega) ?_
   exact⟨j+1,[0],hjn,by show n-(j+1)<n-j;omega,⟨rfl,by simp,rfl,rfl,rfl,⟨rfl,rfl,rfl,rfl,rfl,rfl,rfl,trivial⟩,⟨rfl,trivial⟩⟩⟩
  ·refine ag.no (decide_eq_false (by omega)) ?_
   refine ae.ao ((i+1:Nat):Int) (by omega) (by omega) ?_
   exact⟨i+1,[0],hin,by show n+1-(i+1)<n+1-i;omega,⟨rfl,by simp,rfl,rfl,rfl,⟨rfl,rfl,rfl,rfl,trivial⟩,⟨rfl,trivial⟩⟩⟩
 ·refine ag.no (decide_eq_false (by omega)) ?_
  exact aq.pure (.tf _)
def np (L:Nat->Nat->Rat) (b:Nat->Rat):Nat->Nat->Rat
 |0=>fun _=>0
 |k+1=>bz (np L b k) k (sb (L k) (np L b k) (b k) 0 k)
theorem lY {n:Nat} {f:Nat->Rat}:bd (ar n f)=fl n fun k=>if k<n then aJ (f k)else cu:=by
 rw[bd,v5,qS];exact aX fun k hk=>(if_pos hk).symm
theorem Dy {L:Nat->Nat->Rat} {b:Nat->Rat} {n i:Nat} (hi:i<n):
  (fl n fun k=>if k<i then aJ (np L b i k)else cu).set (i+0) (aJ (sb (L i) (np L b i) (b i) 0 (i-0)))=fl n fun k=>if k<i+1 then aJ (np L b (i+1) k)else cu:=by
 rw[eX]
 refine aX fun k hk=>?_
 simp only[bz,np,Nat.add_zero,Nat.sub_zero]
 by_cases e:k=i
 ·rw[if_pos e,if_pos (by omega),if_pos e]
 ·rw[if_neg e,if_neg e]
  by_cases e2:k<i
  ·rw[if_pos e2,if_pos (by omega)]
  ·rw[if_neg e2,if_neg (by omega)]
theorem o6 (m m' q:Bool) (n:Nat) (L:Nat->Nat->Rat) (b:Nat->Rat) {D X:Nat} (hn:n<=900) (hL:∀i j,i<n->j<n->Bz (L i j) D) (hb:∀i,i<n->Bz (b i) D) (hX:∀k,k<=n->∀i,i<k->Bz (np L b k i) X) (hD:D+n*(D+X+1)+D+X<=100000000000):
  au Tryz.prog 206 [cm m m' n n L,ah q (ar n b)] (.p (ah false (ar n (np L b n)))) []:=by
 refine aa (wr:=a9) a6 mixed Tryz.func206 (by kernel_rfl) rfl (by kernel_rfl) (af rfl) (by simp) ?_
 refine ab.pure (qD m m' q n L b hn hL hb (by omega)) ?_
 refine ag.no (rfl) ?_
 refine SZ.mk (n:Int) (by simp[ar]) ?_
 refine SZ.mk (n:Int) rfl ?_
 refine bT.mk (by simp) ?_
 refine bV.rat n rfl (by omega) ?_
 refine SZ.mk (n:Int) rfl ?_
 refine aM.mk Nat (fun i=>([(0,.p (cm m m' n n L)),(1,.p (ah q (ar n b))),(5,.vec 0 3 0 n),(15,.p (.int .i64 n)),(16,.p (.int .i64 i))],[.vec 38 3 (fl n fun k=>if k<i then aJ (np L b i k)else cu)]))
  (fun i=>i<=n) (fun i=>n-i) 0 [0] (Nat.zero_le _) ⟨rfl,by simp,rfl,rfl,rfl,⟨rfl,rfl,rfl,rfl,rfl,trivial⟩,⟨congrArg _ ((aX fun k hk=>if_neg (by omega)).trans (bE n cu).symm),trivial⟩⟩ ?_
 intro i hi
 have hi:i<=n:=hi
 by_cases hin:i<n
 ·refine ag.yes (decide_eq_true (by omega)) ?_
  have hl:=wU m' true (b i) n (L i) (np L b i) (fun k=>if k<i then aJ (np L b i k)else cu) 0 i (by omega) (Nat.zero_le _) hi (fun j _ h=>if_pos h) (hb i hin) (fun j _ h=>hL i j hin (by omega)) (fun j _ h=>hX i hi j h) hD
  refine aO.cM (by kernel_rfl) ?_
  repeat refine aj.mk _ _ (And.intro rfl rfl) rfl ?_
  refine aj.mk _ _ (aG.rf i rfl hin (And.intro rfl rfl)) rfl ?_
  repeat refine aj.mk _ _ (And.intro rfl rfl) rfl ?_
  refine aj.mk _ _ (aG.mf i rfl hin (And.intro rfl rfl)) rfl ?_
  repeat refine aj.mk _ _ (And.intro rfl rfl) rfl ?_
  refine aj.mk _ _ (bp.all (by simp)<|ab.pure (pvs:=[aJ (b i),ah m' (ar n (L i)),.sl true 3 (fl n fun k=>if k<i then aJ (np L b i k)else cu),.int .i64 0,.int .i64 i]) hl (And.intro rfl rfl)) rfl ?_
  refine aj.mk _ _ (aI.mk i rfl hin (And.intro rfl rfl)) rfl ?_
  refine aj.mk _ _ (bT.mk (by simp;omega)<|cH.mk _ (Dy hin) (And.intro rfl rfl)) rfl ?_
  repeat refine aj.mk _ _ (And.intro rfl rfl) rfl ?_
  refine br.mk (by kernel_rfl) ?_
  refine ae.ao ((i+1:Nat):Int) (by omega) (by omega) ?_
  exact⟨i+1,[0],hin,by show n-(i+1)<n-i;omega,⟨rfl,by simp,rfl,rfl,rfl,⟨rfl,rfl,rfl,rfl,rfl,trivial⟩,⟨rfl,trivial⟩⟩⟩
 ·refine ag.no (decide_eq_false (by omega)) ?_
  obtain rfl:n=i:=by omega
  exact aq.pure (uZ (h:=0) (l:=ar n (np L b n)) (congrArg (aC.vec 38 3) lY.symm) (by simp[ar]))
def ph (U:Nat->Nat->Rat) (b:Nat->Rat) (n:Nat):Nat->Nat->Rat
 |0=>fun _=>0
 |t+1=>bz (ph U b n t) (n-1-t) (sb (U (n-1-t)) (ph U b n t) (b (n-1-t)) (n-t) t/U (n-1-t) (n-1-t))
theorem Dz {U:Nat->Nat->Rat} {b:Nat->Rat} {n t:Nat} (ht:t<n):
  (fl n fun k=>if n<=k+t then aJ (ph U b n t k)else cu).set (n-1-t+0) (aJ (sb (U (n-1-t)) (ph U b n t) (b (n-1-t)) (n-t) t/U (n-1-t) (n-1-t)))=fl n fun k=>if n<=k+(t+1)then aJ (ph U b n (t+1) k)else cu:=by
 rw[eX]
 refine aX fun k hk=>?_
 simp only[bz,ph,Nat.add_zero]
 by_cases e:k=n-1-t
 ·rw[if_pos e,if_pos (by omega),if_pos e]
 ·rw[if_neg e,if_neg e]
  by_cases e2:n<=k+t
  ·rw[if_pos e2,if_pos (by omega)]
  ·rw[if_neg e2,if_neg (by omega)]
abbrev Gx:FuncId->Bool:=fun f=>Nat.beq f 201||(Nat.beq f 202||Nat.beq f 203)
abbrev d8:List AV:=[.p (.raw (.slice none 0 0)),.p (.raw (.slice none 0 0)),.p (.raw (.slice none 0 0)),.p (.bool false),.p (.sl false 1 []),.p (.sl false 1 [])]
theorem wN {n:Nat}:List.replicate n (PV.int .i64 0)=cW n fun t=>if t<0 then t else 0:=(bE n _).trans (aX fun i _=>congrArg (fun x:Nat=>PV.int .i64 (x:Int)) (if_neg (Nat.not_lt_zero i)).symm)
theorem nu {n k:Nat} {A:Nat->Nat->Rat} {si:Nat->Nat} (hk:k<n) (hsi:∀r,r<n->si r<n/\(gk n A (k+1)).s (si r)=r):∀i j,i<n->j<n->(fun r j=>ld (kS n A k) k (si r) j) ((gk n A (k+1)).s i) j=(gk n A (k+1)).B i j:=fun i j hi hj=>by
 obtain⟨h1,h2,_⟩:=eE (n:=n) (A:=A) (k+1) hk
 obtain⟨a,b⟩:=hsi _ (h1 i hi)
 have e:=h2 _ _ a hi b
 show ld (kS n A k) k (si ((gk n A (k+1)).s i)) j=_
 rw[e,fK]
theorem sa {n k:Nat} {A G:Nat->Nat->Rat} (hk:k<n) (hG:∀i j,i<n->j<n->G ((gk n A k).s i) j=(gk n A k).B i j):∀i j,i<n->j<n->G ((gk n A (k+1)).s i) j=kS n A k i j:=fun i j hi hj=>by
 obtain⟨p1,p2,_⟩:=dQ (B:=(gk n A k).B) hk
 rw[fK]
 exact hG _ j (dH p2 hk hi) hj
theorem qX {n k:Nat} {A:Nat->Nat->Rat} (hk:k<=n):∃si:Nat->Nat,∀r,r<n->si r<n/\(gk n A k).s (si r)=r:=by
 obtain⟨_,_,h3⟩:=eE (n:=n) (A:=A) k hk
 refine⟨fun r=>if h:r<n then(h3 r h).choose else 0,fun r hr=>?_⟩
 show(if h:r<n then(h3 r h).choose else 0)<n/\(gk n A k).s (if h:r<n then(h3 r h).choose else 0)=r
 rw[dif_pos hr]
 exact(h3 r hr).choose_spec
theorem ua (m:Nat->Bool) (g:GV) {b c D K:Nat} (h:Wf g b c) (hk:g.k=5\/g.k=7) (hB:An g.n (aW g) D) (h1:1<=D) (hD:4*D+1<=1000000) (hK:K<g.n) (hp:∀t,t<K->kN g.n (aW g) t≠0) (hz:kN g.n (aW g) K=0):
  au Tryz.prog 156 [cG m g] (.bq [.p zo,.p (.int .i64 9)]) []:=by
 have h6:=h.n6
 have n1:=h.n1
 refine cw.Eu ?_ (VR.D2 wL) A7
 rcases hk with e|e
 ·refine aa (wr:=Gx) a6 mixed Tryz.func156 (by kernel_rfl) rfl (by kernel_rfl) (af rfl) (by simp) ?_
  refine ag.no (f0 (by rw[e];rfl)) ?_
  refine ab.GD (gR m g h) ?_
  refine m9.mk (fun _=>?_) (fun h=>absurd h (by omega))
  refine aO.cM (by kernel_rfl) ?_
  repeat refine aj.mk _ _ (And.intro rfl rfl) rfl ?_
  refine aj.mk _ _ (SZ.mk (g.n:Int) rfl (And.intro rfl rfl)) rfl ?_
  repeat refine aj.mk _ _ (And.intro rfl rfl) rfl ?_
  refine aj.mk _ _ (SZ.mk (g.n:Int) rfl<|bT.mk (by simp)<|bV.mk g.n rfl (by show g.n*8<=_;omega) (by omega) (And.intro rfl rfl)) rfl ?_
  repeat refine aj.mk _ _ (And.intro rfl rfl) rfl ?_
  refine aj.mk _ _ (ab.pure (fP) (And.intro rfl rfl)) rfl ?_
  repeat refine aj.mk _ _ (And.intro rfl rfl) rfl ?_
  refine br.mk (by kernel_rfl) ?_
  refine SZ.mk (g.n:Int) rfl ?_
  refine aM.mk (Nat×(Nat->Nat)) (fun(i,s)=>([(2,.aF 5 0),(5,.aF 0 0),(39,.p (.int .i64 g.n)),(40,.p (.int .i64 (i:Nat)))],
    [.box 213 (z7 g.n 0),.rows 24 (cZ 2 g.n g.n id),.bt 38 3 (cY g.n g.n (aW g)),.vec 3 1 (cW g.n s),.map [],.box 168 d8]))
   (fun(i,s)=>i<=g.n/\∀t,t<g.n->s t=if t<i then t else 0) (fun x=>g.n-x.1) (0,fun t=>if t<0 then t else 0) [6,2,3,4,5,1] ⟨Nat.zero_le _,fun t _=>rfl⟩
   ⟨rfl,by simp,rfl,rfl,rfl,⟨rfl,rfl,rfl,rfl,trivial⟩,⟨rfl,congrArg _ (aZ 3 rfl (by decide)),rfl,congrArg _ wN.symm,rfl,rfl,aV fun q hq=>by simpa[aN]using hq,trivial⟩⟩ ?_
  intro⟨i,s⟩ ⟨hi,hs⟩
  by_cases hin:i<g.n
  ·refine ag.yes (decide_eq_true (by omega)) ?_
   refine aI.mk i rfl hin ?_
   refine bT.perm hin ?_
   refine cH.perm ?_
   refine ae.ao ((i+1:Nat):Int) (by omega) (by omega) ?_
   refine⟨(i+1,_),[0,1,2,3,4,5],⟨hin,fun t ht=>?_⟩,by show g.n-(i+1)<g.n-i;omega,⟨rfl,by simp,rfl,rfl,rfl,⟨rfl,rfl,rfl,rfl,trivial⟩,⟨rfl,congrArg _ (aZ 2 rfl (by decide)),rfl,rfl,rfl,rfl,aV fun q hq=>by simpa[aN]using hq,trivial⟩⟩⟩
   show bz s (i+0) i t=_
   unfold bz
   by_cases e:t=i
   ·rw[if_pos (by omega),if_pos (by omega),e]
   ·rw[if_neg (by omega),hs t ht]
    by_cases e2:t<i
    ·rw[if_pos e2,if_pos (by omega)]
    ·rw[if_neg e2,if_neg (by omega)]
  refine ag.no (decide_eq_false (by omega)) ?_
  obtain rfl:i=g.n:=by omega
  have es:cW g.n s=cW g.n id:=g8 fun t ht=>by rw[hs t ht,if_pos ht];rfl
  refine ab.gw (ep g.n 0 (aW g) (aW g) id [] 0 (Nat.zero_le _) (by omega) (fun i hi=>hi) (fun _ _ _ _=>rfl) (hB 0 (Nat.zero_le _)) (bS.mono h1) (by omega) (fun e he=>by simp at he)) (fun _=>rfl) (by decide) ⟨rfl,fun _=>rfl⟩ ⟨rfl,fun _=>rfl⟩ ⟨rfl,fun _=>rfl⟩ ⟨congrArg (aC.vec 3 1) es,fun _=>rfl⟩ ⟨rfl,fun _=>rfl⟩ ?_
  refine SZ.mk (g.n:Int) rfl ?_
  refine aM.mk (Nat×(Nat->Nat->Rat)) (fun(k,G)=>([(2,.aF 5 0),(5,.aF 0 0),(7,.aF 6 0),(61,.p (.int .i64 g.n)),(62,.p (.int .i64 (k:Nat)))],
    ju g.n G (gk g.n (aW g) k).s (iS g.n (aW g) k) (fu g.n (aW g) k)++[.box 168 d8,.box 38 (lW (fu g.n (aW g) 0))]))
   (fun(k,G)=>k<=K/\∀i j,i<g.n->j<g.n->G ((gk g.n (aW g) k).s i) j=(gk g.n (aW g) k).B i j) (fun x=>g.n-x.1) (0,aW g) [0,1,2,3,4,5,6] ⟨Nat.zero_le _,fun _ _ _ _=>rfl⟩
   ⟨rfl,by simp,rfl,rfl,rfl,⟨rfl,rfl,rfl,rfl,rfl,trivial⟩,⟨rfl,congrArg _ (aZ 2 rfl (by decide)),rfl,rfl,rfl,rfl,rfl,aV (s:=id) fun q hq=>by simpa[aN]using hq,trivial⟩⟩ ?_
  intro⟨k,G⟩ ⟨hkn,hG⟩
  obtain⟨r1,r2,r3⟩:=eE (n:=g.n) (A:=aW g) k (by omega)
  have zr:=jt hB h1 k (by omega)
  refine ag.yes (decide_eq_true (by omega)) ?_
  by_cases e:k<K
  ·refine ab.gw (ep g.n k G (gk g.n (aW g) k).B (gk g.n (aW g) k).s (iS g.n (aW g) k) (fu g.n (aW g) k) (by omega) (by omega) r1 hG (hB k (by omega)) zr (by omega) (cX k).gP)
    (fun _=>rfl) (by decide) ⟨rfl,fun _=>rfl⟩ ⟨rfl,fun _=>rfl⟩ ⟨rfl,fun _=>rfl⟩ ⟨rfl,fun _=>rfl⟩ ⟨rfl,fun _=>rfl⟩ ?_
   refine ab.gw (iK g.n k G (gk g.n (aW g) k).B (gk g.n (aW g) k).s (iS g.n (aW g) k) (fu g.n (aW g) (k+1)) true (by omega) (by omega) r1 hG (hB k (by omega)) (by omega) (cX k).gP ((decide_eq_true (by rw[<-iT];exact hp k e)).symm))
    (fun _=>rfl) (by decide) ⟨rfl,fun _=>rfl⟩ ⟨rfl,fun _=>rfl⟩ ⟨rfl,fun _=>rfl⟩ ⟨rfl,fun _=>rfl⟩ ⟨rfl,fun _=>rfl⟩ ?_
   refine ag.no (rfl) ?_
   obtain⟨si,hsi⟩:=qX (n:=g.n) (A:=aW g) (k:=k+1) (by omega)
   obtain⟨q1,q2,_⟩:=eE (n:=g.n) (A:=aW g) (k+1) (by omega)
   refine ab.gw (jQ g.n k G (kS g.n (aW g) k) (gk g.n (aW g) (k+1)).s si (iS g.n (aW g) k) (fu g.n (aW g) (k+1)) (by omega) (by omega) q1 q2 hsi (sa (by omega) hG) (hB.P (by omega)) (by omega) (hp k e) (cX k))
    (fun _=>rfl) (by decide) ⟨rfl,fun _=>rfl⟩ ⟨rfl,fun _=>rfl⟩ ⟨rfl,fun _=>rfl⟩ ⟨rfl,fun _=>rfl⟩ ⟨rfl,fun _=>rfl⟩ ?_
   refine ae.ao ((k+1:Nat):Int) (by omega) (by omega) ?_
   exact⟨(k+1,fun r j=>ld (kS g.n (aW g) k) k (si r) j),[0,1,2,3,4,5,6],⟨by omega,nu (by omega) hsi⟩,by show g.n-(k+1)<g.n-k;omega,⟨rfl,by simp,rfl,rfl,rfl,⟨rfl,rfl,rfl,rfl,rfl,trivial⟩,⟨rfl,congrArg _ (aZ 2 rfl (by decide)),rfl,rfl,rfl,rfl,rfl,aV fun q hq=>by simpa[aN]using q1 q hq,trivial⟩⟩⟩
  ·obtain rfl:k=K:=by omega
   refine ab.gw (ep g.n k G (gk g.n (aW g) k).B (gk g.n (aW g) k).s (iS g.n (aW g) k) (fu g.n (aW g) k) (by omega) (by omega) r1 hG (hB k (by omega)) zr (by omega) (cX k).gP)
    (fun _=>rfl) (by decide) ⟨rfl,fun _=>rfl⟩ ⟨rfl,fun _=>rfl⟩ ⟨rfl,fun _=>rfl⟩ ⟨rfl,fun _=>rfl⟩ ⟨rfl,fun _=>rfl⟩ ?_
   refine ab.gw (iK g.n k G (gk g.n (aW g) k).B (gk g.n (aW g) k).s (iS g.n (aW g) k) (fu g.n (aW g) (k+1)) false (by omega) (by omega) r1 hG (hB k (by omega)) (by omega) (cX k).gP ((decide_eq_false (by rw[<-iT];exact fun h=>h hz)).symm))
    (fun _=>rfl) (by decide) ⟨rfl,fun _=>rfl⟩ ⟨rfl,fun _=>rfl⟩ ⟨rfl,fun _=>rfl⟩ ⟨rfl,fun _=>rfl⟩ ⟨rfl,fun _=>rfl⟩ ?_
   refine ag.yes (rfl) ?_
   refine aq.pure (.bq rfl fun i c d e1 e2=>?_)
   match i,e1,e2 with
   |0,e1,e2=>cases e1;cases e2;exact .p _ kH
   |1,e1,e2=>cases e1;cases e2;exact .p _ (.int _ _)
 ·refine aa (wr:=Gx) a6 mixed Tryz.func156 (by kernel_rfl) rfl (by kernel_rfl) (af rfl) (by simp) ?_
  refine ag.yes (vK (by rw[e];decide)) ?_
  refine ag.no (f0 (by rw[e];rfl)) ?_
  refine ab.GD (gR m g h) ?_
  refine m9.mk (fun _=>?_) (fun h=>absurd h (by omega))
  refine aO.cM (by kernel_rfl) ?_
  repeat refine aj.mk _ _ (And.intro rfl rfl) rfl ?_
  refine aj.mk _ _ (SZ.mk (g.n:Int) rfl (And.intro rfl rfl)) rfl ?_
  repeat refine aj.mk _ _ (And.intro rfl rfl) rfl ?_
  refine aj.mk _ _ (SZ.mk (g.n:Int) rfl<|bT.mk (by simp)<|bV.mk g.n rfl (by show g.n*8<=_;omega) (by omega) (And.intro rfl rfl)) rfl ?_
  repeat refine aj.mk _ _ (And.intro rfl rfl) rfl ?_
  refine aj.mk _ _ (ab.pure (fP) (And.intro rfl rfl)) rfl ?_
  repeat refine aj.mk _ _ (And.intro rfl rfl) rfl ?_
  refine br.mk (by kernel_rfl) ?_
  refine SZ.mk (g.n:Int) rfl ?_
  refine aM.mk (Nat×(Nat->Nat)) (fun(i,s)=>([(2,.aF 5 0),(5,.aF 0 0),(39,.p (.int .i64 g.n)),(40,.p (.int .i64 (i:Nat)))],
    [.box 213 (z7 g.n 0),.rows 24 (cZ 2 g.n g.n id),.bt 38 3 (cY g.n g.n (aW g)),.vec 3 1 (cW g.n s),.map [],.box 168 d8]))
   (fun(i,s)=>i<=g.n/\∀t,t<g.n->s t=if t<i then t else 0) (fun x=>g.n-x.1) (0,fun t=>if t<0 then t else 0) [6,2,3,4,5,1] ⟨Nat.zero_le _,fun t _=>rfl⟩
   ⟨rfl,by simp,rfl,rfl,rfl,⟨rfl,rfl,rfl,rfl,trivial⟩,⟨rfl,congrArg _ (aZ 3 rfl (by decide)),rfl,congrArg _ wN.symm,rfl,rfl,aV fun q hq=>by simpa[aN]using hq,trivial⟩⟩ ?_
  intro⟨i,s⟩ ⟨hi,hs⟩
  by_cases hin:i<g.n
  ·refine ag.yes (decide_eq_true (by omega)) ?_
   refine aI.mk i rfl hin ?_
   refine bT.perm hin ?_
   refine cH.perm ?_
   refine ae.ao ((i+1:Nat):Int) (by omega) (by omega) ?_
   refine⟨(i+1,_),[0,1,2,3,4,5],⟨hin,fun t ht=>?_⟩,by show g.n-(i+1)<g.n-i;omega,⟨rfl,by simp,rfl,rfl,rfl,⟨rfl,rfl,rfl,rfl,trivial⟩,⟨rfl,congrArg _ (aZ 2 rfl (by decide)),rfl,rfl,rfl,rfl,aV fun q hq=>by simpa[aN]using hq,trivial⟩⟩⟩
   show bz s (i+0) i t=_
   unfold bz
   by_cases e:t=i
   ·rw[if_pos (by omega),if_pos (by omega),e]
   ·rw[if_neg (by omega),hs t ht]
    by_cases e2:t<i
    ·rw[if_pos e2,if_pos (by omega)]
    ·rw[if_neg e2,if_neg (by omega)]
  refine ag.no (decide_eq_false (by omega)) ?_
  obtain rfl:i=g.n:=by omega
  have es:cW g.n s=cW g.n id:=g8 fun t ht=>by rw[hs t ht,if_pos ht];rfl
  refine ab.gw (ep g.n 0 (aW g) (aW g) id [] 0 (Nat.zero_le _) (by omega) (fun i hi=>hi) (fun _ _ _ _=>rfl) (hB 0 (Nat.zero_le _)) (bS.mono h1) (by omega) (fun e he=>by simp at he)) (fun _=>rfl) (by decide) ⟨rfl,fun _=>rfl⟩ ⟨rfl,fun _=>rfl⟩ ⟨rfl,fun _=>rfl⟩ ⟨congrArg (aC.vec 3 1) es,fun _=>rfl⟩ ⟨rfl,fun _=>rfl⟩ ?_
  refine SZ.mk (g.n:Int) rfl ?_
  refine aM.mk (Nat×(Nat->Nat->Rat)) (fun(k,G)=>([(2,.aF 5 0),(5,.aF 0 0),(7,.aF 6 0),(61,.p (.int .i64 g.n)),(62,.p (.int .i64 (k:Nat)))],
    ju g.n G (gk g.n (aW g) k).s (iS g.n (aW g) k) (fu g.n (aW g) k)++[.box 168 d8,.box 38 (lW (fu g.n (aW g) 0))]))
   (fun(k,G)=>k<=K/\∀i j,i<g.n->j<g.n->G ((gk g.n (aW g) k).s i) j=(gk g.n (aW g) k).B i j) (fun x=>g.n-x.1) (0,aW g) [0,1,2,3,4,5,6] ⟨Nat.zero_le _,fun _ _ _ _=>rfl⟩
   ⟨rfl,by simp,rfl,rfl,rfl,⟨rfl,rfl,rfl,rfl,rfl,trivial⟩,⟨rfl,congrArg _ (aZ 2 rfl (by decide)),rfl,rfl,rfl,rfl,rfl,aV (s:=id) fun q hq=>by simpa[aN]using hq,trivial⟩⟩ ?_
  intro⟨k,G⟩ ⟨hkn,hG⟩
  obtain⟨r1,r2,r3⟩:=eE (n:=g.n) (A:=aW g) k (by omega)
  have zr:=jt hB h1 k (by omega)
  refine ag.yes (decide_eq_true (by omega)) ?_
  by_cases e:k<K
  ·refine ab.gw (ep g.n k G (gk g.n (aW g) k).B (gk g.n (aW g) k).s (iS g.n (aW g) k) (fu g.n (aW g) k) (by omega) (by omega) r1 hG (hB k (by omega)) zr (by omega) (cX k).gP)
    (fun _=>rfl) (by decide) ⟨rfl,fun _=>rfl⟩ ⟨rfl,fun _=>rfl⟩ ⟨rfl,fun _=>rfl⟩ ⟨rfl,fun _=>rfl⟩ ⟨rfl,fun _=>rfl⟩ ?_
   refine ab.gw (iK g.n k G (gk g.n (aW g) k).B (gk g.n (aW g) k).s (iS g.n (aW g) k) (fu g.n (aW g) (k+1)) true (by omega) (by omega) r1 hG (hB k (by omega)) (by omega) (cX k).gP ((decide_eq_true (by rw[<-iT];exact hp k e)).symm))
    (fun _=>rfl) (by decide) ⟨rfl,fun _=>rfl⟩ ⟨rfl,fun _=>rfl⟩ ⟨rfl,fun _=>rfl⟩ ⟨rfl,fun _=>rfl⟩ ⟨rfl,fun _=>rfl⟩ ?_
   refine ag.no (rfl) ?_
   obtain⟨si,hsi⟩:=qX (n:=g.n) (A:=aW g) (k:=k+1) (by omega)
   obtain⟨q1,q2,_⟩:=eE (n:=g.n) (A:=aW g) (k+1) (by omega)
   refine ab.gw (jQ g.n k G (kS g.n (aW g) k) (gk g.n (aW g) (k+1)).s si (iS g.n (aW g) k) (fu g.n (aW g) (k+1)) (by omega) (by omega) q1 q2 hsi (sa (by omega) hG) (hB.P (by omega)) (by omega) (hp k e) (cX k))
    (fun _=>rfl) (by decide) ⟨rfl,fun _=>rfl⟩ ⟨rfl,fun _=>rfl⟩ ⟨rfl,fun _=>rfl⟩ ⟨rfl,fun _=>rfl⟩ ⟨rfl,fun _=>rfl⟩ ?_
   refine ae.ao ((k+1:Nat):Int) (by omega) (by omega) ?_
   exact⟨(k+1,fun r j=>ld (kS g.n (aW g) k) k (si r) j),[0,1,2,3,4,5,6],⟨by omega,nu (by omega) hsi⟩,by show g.n-(k+1)<g.n-k;omega,⟨rfl,by simp,rfl,rfl,rfl,⟨rfl,rfl,rfl,rfl,rfl,trivial⟩,⟨rfl,congrArg _ (aZ 2 rfl (by decide)),rfl,rfl,rfl,rfl,rfl,aV fun q hq=>by simpa[aN]using q1 q hq,trivial⟩⟩⟩
  ·obtain rfl:k=K:=by omega
   refine ab.gw (ep g.n k G (gk g.n (aW g) k).B (gk g.n (aW g) k).s (iS g.n (aW g) k) (fu g.n (aW g) k) (by omega) (by omega) r1 hG (hB k (by omega)) zr (by omega) (cX k).gP)
    (fun _=>rfl) (by decide) ⟨rfl,fun _=>rfl⟩ ⟨rfl,fun _=>rfl⟩ ⟨rfl,fun _=>rfl⟩ ⟨rfl,fun _=>rfl⟩ ⟨rfl,fun _=>rfl⟩ ?_
   refine ab.gw (iK g.n k G (gk g.n (aW g) k).B (gk g.n (aW g) k).s (iS g.n (aW g) k) (fu g.n (aW g) (k+1)) false (by omega) (by omega) r1 hG (hB k (by omega)) (by omega) (cX k).gP ((decide_eq_false (by rw[<-iT];exact fun h=>h hz)).symm))
    (fun _=>rfl) (by decide) ⟨rfl,fun _=>rfl⟩ ⟨rfl,fun _=>rfl⟩ ⟨rfl,fun _=>rfl⟩ ⟨rfl,fun _=>rfl⟩ ⟨rfl,fun _=>rfl⟩ ?_
   refine ag.yes (rfl) ?_
   refine aq.pure (.bq rfl fun i c d e1 e2=>?_)
   match i,e1,e2 with
   |0,e1,e2=>cases e1;cases e2;exact .p _ kH
   |1,e1,e2=>cases e1;cases e2;exact .p _ (.int _ _)
theorem uo (m:Nat->Bool) (g:GV) {b c D:Nat} (h:Wf g b c) (hk:g.k=5\/g.k=7) (hB:An g.n (aW g) D) (h1:1<=D) (hD:4*D+1<=1000000) (hp:∀t,t<g.n->kN g.n (aW g) t≠0):
  au Tryz.prog 156 [cG m g] (.bq [.p (D0 g.n (aW g)),.p (.int .i64 0)]) []:=by
 have h6:=h.n6
 have n1:=h.n1
 have zL:∀i j,i<g.n->Bz (gL g.n (aW g) i j) (D+D):=fun i j hi=>Em hB h1 g.n (Nat.le_refl _) i j hi
 rcases hk with e|e
 ·refine aa (wr:=Gx) a6 mixed Tryz.func156 (by kernel_rfl) rfl (by kernel_rfl) (af rfl) (by simp) ?_
  refine ag.no (f0 (by rw[e];rfl)) ?_
  refine ab.GD (gR m g h) ?_
  refine m9.mk (fun _=>?_) (fun h=>absurd h (by omega))
  refine aO.cM (by kernel_rfl) ?_
  repeat refine aj.mk _ _ (And.intro rfl rfl) rfl ?_
  refine aj.mk _ _ (SZ.mk (g.n:Int) rfl (And.intro rfl rfl)) rfl ?_
  repeat refine aj.mk _ _ (And.intro rfl rfl) rfl ?_
  refine aj.mk _ _ (SZ.mk (g.n:Int) rfl<|bT.mk (by simp)<|bV.mk g.n rfl (by show g.n*8<=_;omega) (by omega) (And.intro rfl rfl)) rfl ?_
  repeat refine aj.mk _ _ (And.intro rfl rfl) rfl ?_
  refine aj.mk _ _ (ab.pure (fP) (And.intro rfl rfl)) rfl ?_
  repeat refine aj.mk _ _ (And.intro rfl rfl) rfl ?_
  refine br.mk (by kernel_rfl) ?_
  refine SZ.mk (g.n:Int) rfl ?_
  refine aM.mk (Nat×(Nat->Nat)) (fun(i,s)=>([(2,.aF 5 0),(5,.aF 0 0),(39,.p (.int .i64 g.n)),(40,.p (.int .i64 (i:Nat)))],
    [.box 213 (z7 g.n 0),.rows 24 (cZ 2 g.n g.n id),.bt 38 3 (cY g.n g.n (aW g)),.vec 3 1 (cW g.n s),.map [],.box 168 d8]))
   (fun(i,s)=>i<=g.n/\∀t,t<g.n->s t=if t<i then t else 0) (fun x=>g.n-x.1) (0,fun t=>if t<0 then t else 0) [6,2,3,4,5,1] ⟨Nat.zero_le _,fun t _=>rfl⟩
   ⟨rfl,by simp,rfl,rfl,rfl,⟨rfl,rfl,rfl,rfl,trivial⟩,⟨rfl,congrArg _ (aZ 3 rfl (by decide)),rfl,congrArg _ wN.symm,rfl,rfl,aV fun q hq=>by simpa[aN]using hq,trivial⟩⟩ ?_
  intro⟨i,s⟩ ⟨hi,hs⟩
  by_cases hin:i<g.n
  ·refine ag.yes (decide_eq_true (by omega)) ?_
   refine aI.mk i rfl hin ?_
   refine bT.perm hin ?_
   refine cH.perm ?_
   refine ae.ao ((i+1:Nat):Int) (by omega) (by omega) ?_
   refine⟨(i+1,_),[0,1,2,3,4,5],⟨hin,fun t ht=>?_⟩,by show g.n-(i+1)<g.n-i;omega,⟨rfl,by simp,rfl,rfl,rfl,⟨rfl,rfl,rfl,rfl,trivial⟩,⟨rfl,congrArg _ (aZ 2 rfl (by decide)),rfl,rfl,rfl,rfl,aV fun q hq=>by simpa[aN]using hq,trivial⟩⟩⟩
   show bz s (i+0) i t=_
   unfold bz
   by_cases e:t=i
   ·rw[if_pos (by omega),if_pos (by omega),e]
   ·rw[if_neg (by omega),hs t ht]
    by_cases e2:t<i
    ·rw[if_pos e2,if_pos (by omega)]
    ·rw[if_neg e2,if_neg (by omega)]
  refine ag.no (decide_eq_false (by omega)) ?_
  obtain rfl:i=g.n:=by omega
  have es:cW g.n s=cW g.n id:=g8 fun t ht=>by rw[hs t ht,if_pos ht];rfl
  refine ab.gw (ep g.n 0 (aW g) (aW g) id [] 0 (Nat.zero_le _) (by omega) (fun i hi=>hi) (fun _ _ _ _=>rfl) (hB 0 (Nat.zero_le _)) (bS.mono h1) (by omega) (fun e he=>by simp at he)) (fun _=>rfl) (by decide) ⟨rfl,fun _=>rfl⟩ ⟨rfl,fun _=>rfl⟩ ⟨rfl,fun _=>rfl⟩ ⟨congrArg (aC.vec 3 1) es,fun _=>rfl⟩ ⟨rfl,fun _=>rfl⟩ ?_
  refine SZ.mk (g.n:Int) rfl ?_
  refine aM.mk (Nat×(Nat->Nat->Rat)) (fun(k,G)=>([(2,.aF 5 0),(5,.aF 0 0),(7,.aF 6 0),(61,.p (.int .i64 g.n)),(62,.p (.int .i64 (k:Nat)))],
    ju g.n G (gk g.n (aW g) k).s (iS g.n (aW g) k) (fu g.n (aW g) k)++[.box 168 d8,.box 38 (lW (fu g.n (aW g) 0))]))
   (fun(k,G)=>k<=g.n/\∀i j,i<g.n->j<g.n->G ((gk g.n (aW g) k).s i) j=(gk g.n (aW g) k).B i j) (fun x=>g.n-x.1) (0,aW g) [0,1,2,3,4,5,6] ⟨Nat.zero_le _,fun _ _ _ _=>rfl⟩
   ⟨rfl,by simp,rfl,rfl,rfl,⟨rfl,rfl,rfl,rfl,rfl,trivial⟩,⟨rfl,congrArg _ (aZ 2 rfl (by decide)),rfl,rfl,rfl,rfl,rfl,aV (s:=id) fun q hq=>by simpa[aN]using hq,trivial⟩⟩ ?_
  intro⟨k,G⟩ ⟨hkn,hG⟩
  obtain⟨r1,r2,r3⟩:=eE (n:=g.n) (A:=aW g) k (by omega)
  have zr:=jt hB h1 k (by omega)
  by_cases hkn2:k<g.n
  ·refine ag.yes (decide_eq_true (by omega)) ?_
   refine ab.gw (ep g.n k G (gk g.n (aW g) k).B (gk g.n (aW g) k).s (iS g.n (aW g) k) (fu g.n (aW g) k) (by omega) (by omega) r1 hG (hB k (by omega)) zr (by omega) (cX k).gP)
    (fun _=>rfl) (by decide) ⟨rfl,fun _=>rfl⟩ ⟨rfl,fun _=>rfl⟩ ⟨rfl,fun _=>rfl⟩ ⟨rfl,fun _=>rfl⟩ ⟨rfl,fun _=>rfl⟩ ?_
   refine ab.gw (iK g.n k G (gk g.n (aW g) k).B (gk g.n (aW g) k).s (iS g.n (aW g) k) (fu g.n (aW g) (k+1)) true (by omega) (by omega) r1 hG (hB k (by omega)) (by omega) (cX k).gP ((decide_eq_true (by rw[<-iT];exact hp k hkn2)).symm))
    (fun _=>rfl) (by decide) ⟨rfl,fun _=>rfl⟩ ⟨rfl,fun _=>rfl⟩ ⟨rfl,fun _=>rfl⟩ ⟨rfl,fun _=>rfl⟩ ⟨rfl,fun _=>rfl⟩ ?_
   refine ag.no (rfl) ?_
   obtain⟨si,hsi⟩:=qX (n:=g.n) (A:=aW g) (k:=k+1) (by omega)
   obtain⟨q1,q2,_⟩:=eE (n:=g.n) (A:=aW g) (k+1) (by omega)
   refine ab.gw (jQ g.n k G (kS g.n (aW g) k) (gk g.n (aW g) (k+1)).s si (iS g.n (aW g) k) (fu g.n (aW g) (k+1)) (by omega) (by omega) q1 q2 hsi (sa (by omega) hG) (hB.P (by omega)) (by omega) (hp k hkn2) (cX k))
    (fun _=>rfl) (by decide) ⟨rfl,fun _=>rfl⟩ ⟨rfl,fun _=>rfl⟩ ⟨rfl,fun _=>rfl⟩ ⟨rfl,fun _=>rfl⟩ ⟨rfl,fun _=>rfl⟩ ?_
   refine ae.ao ((k+1:Nat):Int) (by omega) (by omega) ?_
   exact⟨(k+1,fun r j=>ld (kS g.n (aW g) k) k (si r) j),[0,1,2,3,4,5,6],⟨by omega,nu (by omega) hsi⟩,by show g.n-(k+1)<g.n-k;omega,⟨rfl,by simp,rfl,rfl,rfl,⟨rfl,rfl,rfl,rfl,rfl,trivial⟩,⟨rfl,congrArg _ (aZ 2 rfl (by decide)),rfl,rfl,rfl,rfl,rfl,aV fun q hq=>by simpa[aN]using q1 q hq,trivial⟩⟩⟩
  ·refine ag.no (decide_eq_false (by omega)) ?_
   obtain rfl:k=g.n:=by omega
   have r1:∀i,i<g.n->gO g.n (aW g) i<g.n:=r1
   have own:=wj true true g.n (fun i=>G (gO g.n (aW g) i)) n1 (by omega) (fun i j hi hj=>by
    have e:G (gO g.n (aW g) i) j=(gk g.n (aW g) g.n).B i j:=hG i j hi hj
    rw[e];exact hB g.n (Nat.le_refl _) i j hi hj) (by omega)
   have eU:cm false false g.n g.n (fun i=>G (gO g.n (aW g) i))=cm false false g.n g.n (gU g.n (aW g)):=nW fun i j hi hj=>hG i j hi hj
   rw[eU]at own
   refine aO.cM (by kernel_rfl) ?_
   repeat refine aj.mk _ _ (And.intro rfl rfl) rfl ?_
   refine aj.mk _ _ (ea.cZ rfl r1<|ab.pure own (And.intro rfl rfl)) rfl ?_
   repeat refine aj.mk _ _ (And.intro rfl rfl) rfl ?_
   refine br.mk (by kernel_rfl) ?_
   refine SZ.mk (g.n:Int) rfl ?_
   refine aM.Cf Nat (fun i=>match i with
     |0=>([(2,.aF 5 0),(5,.aF 0 0),(7,.aF 6 0),(9,.aF 7 0),(91,.p (.int .i64 g.n)),(92,.p (.int .i64 0))],
      ju g.n G (gO g.n (aW g)) (iS g.n (aW g) g.n) (fu g.n (aW g) g.n)++([aC.box 168 d8,aC.box 38 (lW (fu g.n (aW g) 0)),aC.box 168 [.vec (.t 3) 1 0 g.n,.p (.raw (.slice none 0 0)),.p (cm false false g.n g.n (gU g.n (aW g))),.p (.bool false),.p (.sl false 1 []),.p (.sl false 1 [])],aC.bt 38 3 (cY 0 g.n (gL g.n (aW g)))]:List aC))
     |i+1=>([(2,.aF 5 0),(5,.aF 0 0),(7,.aF 6 0),(9,.aF 7 0),(91,.p (.int .i64 g.n)),(92,.p (.int .i64 ((i+1:Nat):Int)))],
      ju g.n G (gO g.n (aW g)) (iS g.n (aW g) g.n) (fu g.n (aW g) g.n)++([aC.box 168 d8,aC.box 38 (lW (fu g.n (aW g) 0)),aC.box 168 [.vec (.t 3) 1 0 g.n,.vec (.t 9) 1 0 (i+1),.p (cm false false g.n g.n (gU g.n (aW g))),.p (.bool false),.p (.sl false 1 []),.p (.sl false 1 [])],aC.bt 38 3 (cY (i+1) g.n (gL g.n (aW g))),aC.rows 24 (cZ 8 g.n (i+1) id)]:List aC)))
    (fun i=>i<=g.n) (fun i=>g.n-i) 0 [0,1,2,3,4,5,6,7,8] _ _ (.bt 38 3 (.done _ _)) (Nat.zero_le _) ⟨rfl,by simp,rfl,rfl,rfl,⟨rfl,rfl,rfl,rfl,rfl,rfl,trivial⟩,⟨rfl,congrArg _ (aZ 2 rfl (by decide)),rfl,rfl,rfl,rfl,rfl,rfl,rfl,aV fun q hq=>by simpa[aN]using r1 q hq,trivial⟩⟩ ?_
   intro i hi
   match i,hi with
   |0,hi=>
    refine ag.yes (decide_eq_true (by omega)) ?_
    refine SZ.mk (g.n:Int) rfl ?_
    refine SZ.mk (g.n:Int) rfl ?_
    refine bT.mk (by simp) ?_
    refine bV.rat g.n rfl (by omega) ?_
    refine SZ.mk (g.n:Int) rfl ?_
    refine aM.mk Nat (fun j=>([(2,.aF 5 0),(5,.aF 0 0),(7,.aF 6 0),(9,.aF 7 0),(10,.p (.int .i64 0)),(11,.vec 9 3 0 g.n),(91,.p (.int .i64 g.n)),(92,.p (.int .i64 0)),(102,.p (.int .i64 g.n)),(103,.p (.int .i64 (j:Nat)))],
      ju g.n G (gO g.n (aW g)) (iS g.n (aW g) g.n) (fu g.n (aW g) g.n)++([aC.box 168 d8,aC.box 38 (lW (fu g.n (aW g) 0)),aC.box 168 [.vec (.t 3) 1 0 g.n,.p (.raw (.slice none 0 0)),.p (cm false false g.n g.n (gU g.n (aW g))),.p (.bool false),.p (.sl false 1 []),.p (.sl false 1 [])],aC.bt 38 3 (cY 0 g.n (gL g.n (aW g))),aC.vec 38 3 (fl g.n fun k=>if k<j then aJ (gL g.n (aW g) (0) k)else cu)]:List aC)))
     (fun j=>j<=g.n) (fun j=>g.n-j) 0 [0,1,2,3,4,5,6,7,8,9] (Nat.zero_le _) ⟨rfl,by simp,rfl,rfl,rfl,⟨rfl,rfl,rfl,rfl,rfl,rfl,rfl,rfl,rfl,rfl,trivial⟩,⟨rfl,congrArg _ (aZ 2 rfl (by decide)),rfl,rfl,rfl,rfl,rfl,rfl,rfl,congrArg _ ((aX fun k hk=>if_neg (by omega)).trans (bE g.n cu).symm),aV fun q hq=>by simpa[aN]using r1 q hq,trivial⟩⟩ ?_
    intro j hj
    have hj:j<=g.n:=hj
    by_cases hjn:j<g.n
    ·refine ag.yes (decide_eq_true (by omega)) ?_
     have low:=j7 g.n (aW g) (fl g.n fun i=>ah true (ar g.n (G (gO g.n (aW g) i)))) (fu g.n (aW g) g.n) (0) j (by omega) hjn (zL (0) j (by omega)) (by omega)
     refine ea.cZ rfl r1 ?_
     refine bp.all (by simp) ?_
     refine ab.pure (low) ?_
     refine aI.mk j rfl hjn ?_
     refine bT.mk (by simp;omega)<|cH.mk _ (du hjn) ?_
     refine ae.ao ((j+1:Nat):Int) (by omega) (by omega) ?_
     exact⟨j+1,[0,1,2,3,4,5,6,7,8,9],hjn,by show g.n-(j+1)<g.n-j;omega,⟨rfl,by simp,rfl,rfl,rfl,⟨rfl,rfl,rfl,rfl,rfl,rfl,rfl,rfl,rfl,rfl,trivial⟩,⟨rfl,congrArg _ (aZ 2 rfl (by decide)),rfl,rfl,rfl,rfl,rfl,rfl,rfl,rfl,aV fun q hq=>by simpa[aN]using r1 q hq,trivial⟩⟩⟩
    ·refine ag.no (decide_eq_false (by omega)) ?_
     obtain rfl:j=g.n:=by omega
     refine ck.mk (by simp) (by simp) ?_
     refine ae.ao ((0+1:Nat):Int) (by omega) (by omega) ?_
     exact⟨1,[0,1,2,3,4,5,6,7,10008,11],n1,by show g.n-1<g.n-0;omega,⟨rfl,by simp,rfl,rfl,rfl,⟨rfl,rfl,rfl,rfl,rfl,rfl,trivial⟩,⟨rfl,congrArg _ (aZ 2 rfl (by decide)),rfl,rfl,rfl,rfl,rfl,rfl,⟨_,_,_,_,rfl,rfl,congrArg _ (dO.trans (congrArg (fun r=>cY 0 g.n (gL g.n (aW g))++[some r]) fN))⟩,congrArg _ (fA (p':=8) (q:=9) (c:=g.n) (k:=0) rfl (by decide) (by simp[aN])),aV fun q hq=>by simpa[aN]using r1 q hq,aV fun q hq=>by simpa[aN]using hq,trivial⟩⟩⟩
   |i+1,hi=>
    have hi:i+1<=g.n:=hi
    by_cases hin:i+1<g.n
    ·refine ag.yes (decide_eq_true (by omega)) ?_
     refine SZ.mk (g.n:Int) rfl ?_
     refine SZ.mk (g.n:Int) rfl ?_
     refine bT.mk (by simp) ?_
     refine bV.rat g.n rfl (by omega) ?_
     refine SZ.mk (g.n:Int) rfl ?_
     refine aM.mk Nat (fun j=>([(2,.aF 5 0),(5,.aF 0 0),(7,.aF 6 0),(9,.aF 7 0),(10,.p (.int .i64 ((i+1:Nat):Int))),(11,.vec 10 3 0 g.n),(91,.p (.int .i64 g.n)),(92,.p (.int .i64 ((i+1:Nat):Int))),(102,.p (.int .i64 g.n)),(103,.p (.int .i64 (j:Nat)))],
       ju g.n G (gO g.n (aW g)) (iS g.n (aW g) g.n) (fu g.n (aW g) g.n)++([aC.box 168 d8,aC.box 38 (lW (fu g.n (aW g) 0)),aC.box 168 [.vec (.t 3) 1 0 g.n,.vec (.t 9) 1 0 (i+1),.p (cm false false g.n g.n (gU g.n (aW g))),.p (.bool false),.p (.sl false 1 []),.p (.sl false 1 [])],aC.bt 38 3 (cY (i+1) g.n (gL g.n (aW g))),aC.rows 24 (cZ 8 g.n (i+1) id),aC.vec 38 3 (fl g.n fun k=>if k<j then aJ (gL g.n (aW g) (i+1) k)else cu)]:List aC)))
      (fun j=>j<=g.n) (fun j=>g.n-j) 0 [0,1,2,3,4,5,6,7,8,9,10] (Nat.zero_le _) ⟨rfl,by simp,rfl,rfl,rfl,⟨rfl,rfl,rfl,rfl,rfl,rfl,rfl,rfl,rfl,rfl,trivial⟩,⟨rfl,congrArg _ (aZ 2 rfl (by decide)),rfl,rfl,rfl,rfl,rfl,rfl,rfl,congrArg _ (aZ 8 rfl (by decide)),congrArg _ ((aX fun k hk=>if_neg (by omega)).trans (bE g.n cu).symm),aV fun q hq=>by simpa[aN]using r1 q hq,aV fun q hq=>by simpa[aN]using hq,trivial⟩⟩ ?_
     intro j hj
     have hj:j<=g.n:=hj
     by_cases hjn:j<g.n
     ·refine ag.yes (decide_eq_true (by omega)) ?_
      have low:=j7 g.n (aW g) (fl g.n fun i=>ah true (ar g.n (G (gO g.n (aW g) i)))) (fu g.n (aW g) g.n) (i+1) j (by omega) hjn (zL (i+1) j (by omega)) (by omega)
      refine ea.cZ rfl r1 ?_
      refine bp.all (by simp) ?_
      refine ab.pure (low) ?_
      refine aI.mk j rfl hjn ?_
      refine bT.mk (by simp;omega)<|cH.mk _ (du hjn) ?_
      refine ae.ao ((j+1:Nat):Int) (by omega) (by omega) ?_
      exact⟨j+1,[0,1,2,3,4,5,6,7,8,9,10],hjn,by show g.n-(j+1)<g.n-j;omega,⟨rfl,by simp,rfl,rfl,rfl,⟨rfl,rfl,rfl,rfl,rfl,rfl,rfl,rfl,rfl,rfl,trivial⟩,⟨rfl,congrArg _ (aZ 2 rfl (by decide)),rfl,rfl,rfl,rfl,rfl,rfl,rfl,congrArg _ (aZ 8 rfl (by decide)),rfl,aV fun q hq=>by simpa[aN]using r1 q hq,aV fun q hq=>by simpa[aN]using hq,trivial⟩⟩⟩
     ·refine ag.no (decide_eq_false (by omega)) ?_
      obtain rfl:j=g.n:=by omega
      refine ga.mk (by simp) ?_
      refine ck.mk (by simp;omega) (by simp;omega) ?_
      refine pT.mk _ rfl ?_
      refine mQ.mk (i+1+1) (by simp) ?_
      refine ae.ao ((i+1+1:Nat):Int) (by omega) (by omega) ?_
      exact⟨i+1+1,[0,1,2,3,4,5,6,7,11008,12],hin,by show g.n-(i+1+1)<g.n-(i+1);omega,⟨rfl,by simp,rfl,rfl,rfl,⟨rfl,rfl,rfl,rfl,rfl,rfl,trivial⟩,⟨rfl,congrArg _ (aZ 2 rfl (by decide)),rfl,rfl,rfl,rfl,rfl,rfl,⟨_,_,_,_,rfl,rfl,congrArg _ (dO.trans (congrArg (fun r=>cY (i+1) g.n (gL g.n (aW g))++[some r]) fN))⟩,congrArg _ (fA (p':=8) (q:=10) (c:=g.n) (k:=i+1) rfl (by decide) (by simp[aN])),aV fun q hq=>by simpa[aN]using r1 q hq,aV fun q hq=>by simpa[aN]using hq,trivial⟩⟩⟩
    ·refine ag.no (decide_eq_false (by omega)) ?_
     have hn:i+1=g.n:=by omega
     have z0:fu g.n (aW g) 0≠0:=fun e=>by have:=wE n1 (hp 0 n1);rw[e]at this;exact absurd this (by decide)
     have gq:=fY (fu g.n (aW g) g.n) (fu g.n (aW g) 0) z0 (jt hB h1 g.n (Nat.le_refl _)).sz (jt hB h1 0 (Nat.zero_le _)).sz (by omega)
     refine aO.cM (by kernel_rfl) ?_
     repeat refine aj.mk _ _ (And.intro rfl rfl) rfl ?_
     refine aj.mk _ _ (ab.bg (gq) (fun _=>rfl) (And.intro rfl rfl)) rfl ?_
     repeat refine aj.mk _ _ (And.intro rfl rfl) rfl ?_
     refine br.mk (by kernel_rfl) ?_
     have eL:cm false false g.n g.n (gL g.n (aW g))=cm false false (i+1) g.n (gL g.n (aW g)):=by rw[hn]
     refine aq.pure (.bq rfl fun a c d e1 e2=>?_)
     match a,e1,e2 with
     |0,e1,e2=>
      cases e1;cases e2
      refine .mJ (ps:=tm g.n (aW g)) (fun d hd=>by simp only[tm,List.mem_cons,List.not_mem_nil,or_false]at hd;rcases hd with rfl|rfl|rfl|rfl|rfl|rfl<;>rfl) rfl fun a c d e1 e2=>?_
      match a,e1,e2 with
      |0,e1,e2=>cases e1;cases e2;exact .ze (h:=.t 3) rfl (by simp) (by simp) mH (by rw[List.drop_zero];exact List.take_of_length_le (by simp))
      |1,e1,e2=>cases e1;cases e2;rw[eL];exact x6 (h:=9) (p:=8) rfl rfl fun q hq=>hq
      |2,e1,e2=>cases e1;cases e2;exact .p _ dr
      |3,e1,e2=>cases e1;cases e2;exact .p _ (.bool _)
      |4,e1,e2=>cases e1;cases e2;exact .p _ (.sl _ _ (aP _))
      |5,e1,e2=>cases e1;cases e2;exact .p _ (.sl _ _ (aP _))
     |1,e1,e2=>cases e1;cases e2;exact .p _ (.int _ _)
 ·refine aa (wr:=Gx) a6 mixed Tryz.func156 (by kernel_rfl) rfl (by kernel_rfl) (af rfl) (by simp) ?_
  refine ag.yes (vK (by rw[e];decide)) ?_
  refine ag.no (f0 (by rw[e];rfl)) ?_
  refine ab.GD (gR m g h) ?_
  refine m9.mk (fun _=>?_) (fun h=>absurd h (by omega))
  refine aO.cM (by kernel_rfl) ?_
  repeat refine aj.mk _ _ (And.intro rfl rfl) rfl ?_
  refine aj.mk _ _ (SZ.mk (g.n:Int) rfl (And.intro rfl rfl)) rfl ?_
  repeat refine aj.mk _ _ (And.intro rfl rfl) rfl ?_
  refine aj.mk _ _ (SZ.mk (g.n:Int) rfl<|bT.mk (by simp)<|bV.mk g.n rfl (by show g.n*8<=_;omega) (by omega) (And.intro rfl rfl)) rfl ?_
  repeat refine aj.mk _ _ (And.intro rfl rfl) rfl ?_
  refine aj.mk _ _ (ab.pure (fP) (And.intro rfl rfl)) rfl ?_
  repeat refine aj.mk _ _ (And.intro rfl rfl) rfl ?_
  refine br.mk (by kernel_rfl) ?_
  refine SZ.mk (g.n:Int) rfl ?_
  refine aM.mk (Nat×(Nat->Nat)) (fun(i,s)=>([(2,.aF 5 0),(5,.aF 0 0),(39,.p (.int .i64 g.n)),(40,.p (.int .i64 (i:Nat)))],
    [.box 213 (z7 g.n 0),.rows 24 (cZ 2 g.n g.n id),.bt 38 3 (cY g.n g.n (aW g)),.vec 3 1 (cW g.n s),.map [],.box 168 d8]))
   (fun(i,s)=>i<=g.n/\∀t,t<g.n->s t=if t<i then t else 0) (fun x=>g.n-x.1) (0,fun t=>if t<0 then t else 0) [6,2,3,4,5,1] ⟨Nat.zero_le _,fun t _=>rfl⟩
   ⟨rfl,by simp,rfl,rfl,rfl,⟨rfl,rfl,rfl,rfl,trivial⟩,⟨rfl,congrArg _ (aZ 3 rfl (by decide)),rfl,congrArg _ wN.symm,rfl,rfl,aV fun q hq=>by simpa[aN]using hq,trivial⟩⟩ ?_
  intro⟨i,s⟩ ⟨hi,hs⟩
  by_cases hin:i<g.n
  ·refine ag.yes (decide_eq_true (by omega)) ?_
   refine aI.mk i rfl hin ?_
   refine bT.perm hin ?_
   refine cH.perm ?_
   refine ae.ao ((i+1:Nat):Int) (by omega) (by omega) ?_
   refine⟨(i+1,_),[0,1,2,3,4,5],⟨hin,fun t ht=>?_⟩,by show g.n-(i+1)<g.n-i;omega,⟨rfl,by simp,rfl,rfl,rfl,⟨rfl,rfl,rfl,rfl,trivial⟩,⟨rfl,congrArg _ (aZ 2 rfl (by decide)),rfl,rfl,rfl,rfl,aV fun q hq=>by simpa[aN]using hq,trivial⟩⟩⟩
   show bz s (i+0) i t=_
   unfold bz
   by_cases e:t=i
   ·rw[if_pos (by omega),if_pos (by omega),e]
   ·rw[if_neg (by omega),hs t ht]
    by_cases e2:t<i
    ·rw[if_pos e2,if_pos (by omega)]
    ·rw[if_neg e2,if_neg (by omega)]
  refine ag.no (decide_eq_false (by omega)) ?_
  obtain rfl:i=g.n:=by omega
  have es:cW g.n s=cW g.n id:=g8 fun t ht=>by rw[hs t ht,if_pos ht];rfl
  refine ab.gw (ep g.n 0 (aW g) (aW g) id [] 0 (Nat.zero_le _) (by omega) (fun i hi=>hi) (fun _ _ _ _=>rfl) (hB 0 (Nat.zero_le _)) (bS.mono h1) (by omega) (fun e he=>by simp at he)) (fun _=>rfl) (by decide) ⟨rfl,fun _=>rfl⟩ ⟨rfl,fun _=>rfl⟩ ⟨rfl,fun _=>rfl⟩ ⟨congrArg (aC.vec 3 1) es,fun _=>rfl⟩ ⟨rfl,fun _=>rfl⟩ ?_
  refine SZ.mk (g.n:Int) rfl ?_
  refine aM.mk (Nat×(Nat->Nat->Rat)) (fun(k,G)=>([(2,.aF 5 0),(5,.aF 0 0),(7,.aF 6 0),(61,.p (.int .i64 g.n)),(62,.p (.int .i64 (k:Nat)))],
    ju g.n G (gk g.n (aW g) k).s (iS g.n (aW g) k) (fu g.n (aW g) k)++[.box 168 d8,.box 38 (lW (fu g.n (aW g) 0))]))
   (fun(k,G)=>k<=g.n/\∀i j,i<g.n->j<g.n->G ((gk g.n (aW g) k).s i) j=(gk g.n (aW g) k).B i j) (fun x=>g.n-x.1) (0,aW g) [0,1,2,3,4,5,6] ⟨Nat.zero_le _,fun _ _ _ _=>rfl⟩
   ⟨rfl,by simp,rfl,rfl,rfl,⟨rfl,rfl,rfl,rfl,rfl,trivial⟩,⟨rfl,congrArg _ (aZ 2 rfl (by decide)),rfl,rfl,rfl,rfl,rfl,aV (s:=id) fun q hq=>by simpa[aN]using hq,trivial⟩⟩ ?_
  intro⟨k,G⟩ ⟨hkn,hG⟩
  obtain⟨r1,r2,r3⟩:=eE (n:=g.n) (A:=aW g) k (by omega)
  have zr:=jt hB h1 k (by omega)
  by_cases hkn2:k<g.n
  ·refine ag.yes (decide_eq_true (by omega)) ?_
   refine ab.gw (ep g.n k G (gk g.n (aW g) k).B (gk g.n (aW g) k).s (iS g.n (aW g) k) (fu g.n (aW g) k) (by omega) (by omega) r1 hG (hB k (by omega)) zr (by omega) (cX k).gP)
    (fun _=>rfl) (by decide) ⟨rfl,fun _=>rfl⟩ ⟨rfl,fun _=>rfl⟩ ⟨rfl,fun _=>rfl⟩ ⟨rfl,fun _=>rfl⟩ ⟨rfl,fun _=>rfl⟩ ?_
   refine ab.gw (iK g.n k G (gk g.n (aW g) k).B (gk g.n (aW g) k).s (iS g.n (aW g) k) (fu g.n (aW g) (k+1)) true (by omega) (by omega) r1 hG (hB k (by omega)) (by omega) (cX k).gP ((decide_eq_true (by rw[<-iT];exact hp k hkn2)).symm))
    (fun _=>rfl) (by decide) ⟨rfl,fun _=>rfl⟩ ⟨rfl,fun _=>rfl⟩ ⟨rfl,fun _=>rfl⟩ ⟨rfl,fun _=>rfl⟩ ⟨rfl,fun _=>rfl⟩ ?_
   refine ag.no (rfl) ?_
   obtain⟨si,hsi⟩:=qX (n:=g.n) (A:=aW g) (k:=k+1) (by omega)
   obtain⟨q1,q2,_⟩:=eE (n:=g.n) (A:=aW g) (k+1) (by omega)
   refine ab.gw (jQ g.n k G (kS g.n (aW g) k) (gk g.n (aW g) (k+1)).s si (iS g.n (aW g) k) (fu g.n (aW g) (k+1)) (by omega) (by omega) q1 q2 hsi (sa (by omega) hG) (hB.P (by omega)) (by omega) (hp k hkn2) (cX k))
    (fun _=>rfl) (by decide) ⟨rfl,fun _=>rfl⟩ ⟨rfl,fun _=>rfl⟩ ⟨rfl,fun _=>rfl⟩ ⟨rfl,fun _=>rfl⟩ ⟨rfl,fun _=>rfl⟩ ?_
   refine ae.ao ((k+1:Nat):Int) (by omega) (by omega) ?_
   exact⟨(k+1,fun r j=>ld (kS g.n (aW g) k) k (si r) j),[0,1,2,3,4,5,6],⟨by omega,nu (by omega) hsi⟩,by show g.n-(k+1)<g.n-k;omega,⟨rfl,by simp,rfl,rfl,rfl,⟨rfl,rfl,rfl,rfl,rfl,trivial⟩,⟨rfl,congrArg _ (aZ 2 rfl (by decide)),rfl,rfl,rfl,rfl,rfl,aV fun q hq=>by simpa[aN]using q1 q hq,trivial⟩⟩⟩
  ·refine ag.no (decide_eq_false (by omega)) ?_
   obtain rfl:k=g.n:=by omega
   have r1:∀i,i<g.n->gO g.n (aW g) i<g.n:=r1
   have own:=wj true true g.n (fun i=>G (gO g.n (aW g) i)) n1 (by omega) (fun i j hi hj=>by
    have e:G (gO g.n (aW g) i) j=(gk g.n (aW g) g.n).B i j:=hG i j hi hj
    rw[e];exact hB g.n (Nat.le_refl _) i j hi hj) (by omega)
   have eU:cm false false g.n g.n (fun i=>G (gO g.n (aW g) i))=cm false false g.n g.n (gU g.n (aW g)):=nW fun i j hi hj=>hG i j hi hj
   rw[eU]at own
   refine aO.cM (by kernel_rfl) ?_
   repeat refine aj.mk _ _ (And.intro rfl rfl) rfl ?_
   refine aj.mk _ _ (ea.cZ rfl r1<|ab.pure own (And.intro rfl rfl)) rfl ?_
   repeat refine aj.mk _ _ (And.intro rfl rfl) rfl ?_
   refine br.mk (by kernel_rfl) ?_
   refine SZ.mk (g.n:Int) rfl ?_
   refine aM.Cf Nat (fun i=>match i with
     |0=>([(2,.aF 5 0),(5,.aF 0 0),(7,.aF 6 0),(9,.aF 7 0),(91,.p (.int .i64 g.n)),(92,.p (.int .i64 0))],
      ju g.n G (gO g.n (aW g)) (iS g.n (aW g) g.n) (fu g.n (aW g) g.n)++([aC.box 168 d8,aC.box 38 (lW (fu g.n (aW g) 0)),aC.box 168 [.vec (.t 3) 1 0 g.n,.p (.raw (.slice none 0 0)),.p (cm false false g.n g.n (gU g.n (aW g))),.p (.bool false),.p (.sl false 1 []),.p (.sl false 1 [])],aC.bt 38 3 (cY 0 g.n (gL g.n (aW g)))]:List aC))
     |i+1=>([(2,.aF 5 0),(5,.aF 0 0),(7,.aF 6 0),(9,.aF 7 0),(91,.p (.int .i64 g.n)),(92,.p (.int .i64 ((i+1:Nat):Int)))],
      ju g.n G (gO g.n (aW g)) (iS g.n (aW g) g.n) (fu g.n (aW g) g.n)++([aC.box 168 d8,aC.box 38 (lW (fu g.n (aW g) 0)),aC.box 168 [.vec (.t 3) 1 0 g.n,.vec (.t 9) 1 0 (i+1),.p (cm false false g.n g.n (gU g.n (aW g))),.p (.bool false),.p (.sl false 1 []),.p (.sl false 1 [])],aC.bt 38 3 (cY (i+1) g.n (gL g.n (aW g))),aC.rows 24 (cZ 8 g.n (i+1) id)]:List aC)))
    (fun i=>i<=g.n) (fun i=>g.n-i) 0 [0,1,2,3,4,5,6,7,8] _ _ (.bt 38 3 (.done _ _)) (Nat.zero_le _) ⟨rfl,by simp,rfl,rfl,rfl,⟨rfl,rfl,rfl,rfl,rfl,rfl,trivial⟩,⟨rfl,congrArg _ (aZ 2 rfl (by decide)),rfl,rfl,rfl,rfl,rfl,rfl,rfl,aV fun q hq=>by simpa[aN]using r1 q hq,trivial⟩⟩ ?_
   intro i hi
   match i,hi with
   |0,hi=>
    refine ag.yes (decide_eq_true (by omega)) ?_
    refine SZ.mk (g.n:Int) rfl ?_
    refine SZ.mk (g.n:Int) rfl ?_
    refine bT.mk (by simp) ?_
    refine bV.rat g.n rfl (by omega) ?_
    refine SZ.mk (g.n:Int) rfl ?_
    refine aM.mk Nat (fun j=>([(2,.aF 5 0),(5,.aF 0 0),(7,.aF 6 0),(9,.aF 7 0),(10,.p (.int .i64 0)),(11,.vec 9 3 0 g.n),(91,.p (.int .i64 g.n)),(92,.p (.int .i64 0)),(102,.p (.int .i64 g.n)),(103,.p (.int .i64 (j:Nat)))],
      ju g.n G (gO g.n (aW g)) (iS g.n (aW g) g.n) (fu g.n (aW g) g.n)++([aC.box 168 d8,aC.box 38 (lW (fu g.n (aW g) 0)),aC.box 168 [.vec (.t 3) 1 0 g.n,.p (.raw (.slice none 0 0)),.p (cm false false g.n g.n (gU g.n (aW g))),.p (.bool false),.p (.sl false 1 []),.p (.sl false 1 [])],aC.bt 38 3 (cY 0 g.n (gL g.n (aW g))),aC.vec 38 3 (fl g.n fun k=>if k<j then aJ (gL g.n (aW g) (0) k)else cu)]:List aC)))
     (fun j=>j<=g.n) (fun j=>g.n-j) 0 [0,1,2,3,4,5,6,7,8,9] (Nat.zero_le _) ⟨rfl,by simp,rfl,rfl,rfl,⟨rfl,rfl,rfl,rfl,rfl,rfl,rfl,rfl,rfl,rfl,trivial⟩,⟨rfl,congrArg _ (aZ 2 rfl (by decide)),rfl,rfl,rfl,rfl,rfl,rfl,rfl,congrArg _ ((aX fun k hk=>if_neg (by omega)).trans (bE g.n cu).symm),aV fun q hq=>by simpa[aN]using r1 q hq,trivial⟩⟩ ?_
    intro j hj
    have hj:j<=g.n:=hj
    by_cases hjn:j<g.n
    ·refine ag.yes (decide_eq_true (by omega)) ?_
     have low:=j7 g.n (aW g) (fl g.n fun i=>ah true (ar g.n (G (gO g.n (aW g) i)))) (fu g.n (aW g) g.n) (0) j (by omega) hjn (zL (0) j (by omega)) (by omega)
     refine ea.cZ rfl r1 ?_
     refine bp.all (by simp) ?_
     refine ab.pure (low) ?_
     refine aI.mk j rfl hjn ?_
     refine bT.mk (by simp;omega)<|cH.mk _ (du hjn) ?_
     refine ae.ao ((j+1:Nat):Int) (by omega) (by omega) ?_
     exact⟨j+1,[0,1,2,3,4,5,6,7,8,9],hjn,by show g.n-(j+1)<g.n-j;omega,⟨rfl,by simp,rfl,rfl,rfl,⟨rfl,rfl,rfl,rfl,rfl,rfl,rfl,rfl,rfl,rfl,trivial⟩,⟨rfl,congrArg _ (aZ 2 rfl (by decide)),rfl,rfl,rfl,rfl,rfl,rfl,rfl,rfl,aV fun q hq=>by simpa[aN]using r1 q hq,trivial⟩⟩⟩
    ·refine ag.no (decide_eq_false (by omega)) ?_
     obtain rfl:j=g.n:=by omega
     refine ck.mk (by simp) (by simp) ?_
     refine ae.ao ((0+1:Nat):Int) (by omega) (by omega) ?_
     exact⟨1,[0,1,2,3,4,5,6,7,10008,11],n1,by show g.n-1<g.n-0;omega,⟨rfl,by simp,rfl,rfl,rfl,⟨rfl,rfl,rfl,rfl,rfl,rfl,trivial⟩,⟨rfl,congrArg _ (aZ 2 rfl (by decide)),rfl,rfl,rfl,rfl,rfl,rfl,⟨_,_,_,_,rfl,rfl,congrArg _ (dO.trans (congrArg (fun r=>cY 0 g.n (gL g.n (aW g))++[some r]) fN))⟩,congrArg _ (fA (p':=8) (q:=9) (c:=g.n) (k:=0) rfl (by decide) (by simp[aN])),aV fun q hq=>by simpa[aN]using r1 q hq,aV fun q hq=>by simpa[aN]using hq,trivial⟩⟩⟩
   |i+1,hi=>
    have hi:i+1<=g.n:=hi
    by_cases hin:i+1<g.n
    ·refine ag.yes (decide_eq_true (by omega)) ?_
     refine SZ.mk (g.n:Int) rfl ?_
     refine SZ.mk (g.n:Int) rfl ?_
     refine bT.mk (by simp) ?_
     refine bV.rat g.n rfl (by omega) ?_
     refine SZ.mk (g.n:Int) rfl ?_
     refine aM.mk Nat (fun j=>([(2,.aF 5 0),(5,.aF 0 0),(7,.aF 6 0),(9,.aF 7 0),(10,.p (.int .i64 ((i+1:Nat):Int))),(11,.vec 10 3 0 g.n),(91,.p (.int .i64 g.n)),(92,.p (.int .i64 ((i+1:Nat):Int))),(102,.p (.int .i64 g.n)),(103,.p (.int .i64 (j:Nat)))],
       ju g.n G (gO g.n (aW g)) (iS g.n (aW g) g.n) (fu g.n (aW g) g.n)++([aC.box 168 d8,aC.box 38 (lW (fu g.n (aW g) 0)),aC.box 168 [.vec (.t 3) 1 0 g.n,.vec (.t 9) 1 0 (i+1),.p (cm false false g.n g.n (gU g.n (aW g))),.p (.bool false),.p (.sl false 1 []),.p (.sl false 1 [])],aC.bt 38 3 (cY (i+1) g.n (gL g.n (aW g))),aC.rows 24 (cZ 8 g.n (i+1) id),aC.vec 38 3 (fl g.n fun k=>if k<j then aJ (gL g.n (aW g) (i+1) k)else cu)]:List aC)))
      (fun j=>j<=g.n) (fun j=>g.n-j) 0 [0,1,2,3,4,5,6,7,8,9,10] (Nat.zero_le _) ⟨rfl,by simp,rfl,rfl,rfl,⟨rfl,rfl,rfl,rfl,rfl,rfl,rfl,rfl,rfl,rfl,trivial⟩,⟨rfl,congrArg _ (aZ 2 rfl (by decide)),rfl,rfl,rfl,rfl,rfl,rfl,rfl,congrArg _ (aZ 8 rfl (by decide)),congrArg _ ((aX fun k hk=>if_neg (by omega)).trans (bE g.n cu).symm),aV fun q hq=>by simpa[aN]using r1 q hq,aV fun q hq=>by simpa[aN]using hq,trivial⟩⟩ ?_
     intro j hj
     have hj:j<=g.n:=hj
     by_cases hjn:j<g.n
     ·refine ag.yes (decide_eq_true (by omega)) ?_
      have low:=j7 g.n (aW g) (fl g.n fun i=>ah true (ar g.n (G (gO g.n (aW g) i)))) (fu g.n (aW g) g.n) (i+1) j (by omega) hjn (zL (i+1) j (by omega)) (by omega)
      refine ea.cZ rfl r1 ?_
      refine bp.all (by simp) ?_
      refine ab.pure (low) ?_
      refine aI.mk j rfl hjn ?_
      refine bT.mk (by simp;omega)<|cH.mk _ (du hjn) ?_
      refine ae.ao ((j+1:Nat):Int) (by omega) (by omega) ?_
      exact⟨j+1,[0,1,2,3,4,5,6,7,8,9,10],hjn,by show g.n-(j+1)<g.n-j;omega,⟨rfl,by simp,rfl,rfl,rfl,⟨rfl,rfl,rfl,rfl,rfl,rfl,rfl,rfl,rfl,rfl,trivial⟩,⟨rfl,congrArg _ (aZ 2 rfl (by decide)),rfl,rfl,rfl,rfl,rfl,rfl,rfl,congrArg _ (aZ 8 rfl (by decide)),rfl,aV fun q hq=>by simpa[aN]using r1 q hq,aV fun q hq=>by simpa[aN]using hq,trivial⟩⟩⟩
     ·refine ag.no (decide_eq_false (by omega)) ?_
      obtain rfl:j=g.n:=by omega
      refine ga.mk (by simp) ?_
      refine ck.mk (by simp;omega) (by simp;omega) ?_
      refine pT.mk _ rfl ?_
      refine mQ.mk (i+1+1) (by simp) ?_
      refine ae.ao ((i+1+1:Nat):Int) (by omega) (by omega) ?_
      exact⟨i+1+1,[0,1,2,3,4,5,6,7,11008,12],hin,by show g.n-(i+1+1)<g.n-(i+1);omega,⟨rfl,by simp,rfl,rfl,rfl,⟨rfl,rfl,rfl,rfl,rfl,rfl,trivial⟩,⟨rfl,congrArg _ (aZ 2 rfl (by decide)),rfl,rfl,rfl,rfl,rfl,rfl,⟨_,_,_,_,rfl,rfl,congrArg _ (dO.trans (congrArg (fun r=>cY (i+1) g.n (gL g.n (aW g))++[some r]) fN))⟩,congrArg _ (fA (p':=8) (q:=10) (c:=g.n) (k:=i+1) rfl (by decide) (by simp[aN])),aV fun q hq=>by simpa[aN]using r1 q hq,aV fun q hq=>by simpa[aN]using hq,trivial⟩⟩⟩
    ·refine ag.no (decide_eq_false (by omega)) ?_
     have hn:i+1=g.n:=by omega
     have z0:fu g.n (aW g) 0≠0:=fun e=>by have:=wE n1 (hp 0 n1);rw[e]at this;exact absurd this (by decide)
     have gq:=fY (fu g.n (aW g) g.n) (fu g.n (aW g) 0) z0 (jt hB h1 g.n (Nat.le_refl _)).sz (jt hB h1 0 (Nat.zero_le _)).sz (by omega)
     refine aO.cM (by kernel_rfl) ?_
     repeat refine aj.mk _ _ (And.intro rfl rfl) rfl ?_
     refine aj.mk _ _ (ab.bg (gq) (fun _=>rfl) (And.intro rfl rfl)) rfl ?_
     repeat refine aj.mk _ _ (And.intro rfl rfl) rfl ?_
     refine br.mk (by kernel_rfl) ?_
     have eL:cm false false g.n g.n (gL g.n (aW g))=cm false false (i+1) g.n (gL g.n (aW g)):=by rw[hn]
     refine aq.pure (.bq rfl fun a c d e1 e2=>?_)
     match a,e1,e2 with
     |0,e1,e2=>
      cases e1;cases e2
      refine .mJ (ps:=tm g.n (aW g)) (fun d hd=>by simp only[tm,List.mem_cons,List.not_mem_nil,or_false]at hd;rcases hd with rfl|rfl|rfl|rfl|rfl|rfl<;>rfl) rfl fun a c d e1 e2=>?_
      match a,e1,e2 with
      |0,e1,e2=>cases e1;cases e2;exact .ze (h:=.t 3) rfl (by simp) (by simp) mH (by rw[List.drop_zero];exact List.take_of_length_le (by simp))
      |1,e1,e2=>cases e1;cases e2;rw[eL];exact x6 (h:=9) (p:=8) rfl rfl fun q hq=>hq
      |2,e1,e2=>cases e1;cases e2;exact .p _ dr
      |3,e1,e2=>cases e1;cases e2;exact .p _ (.bool _)
      |4,e1,e2=>cases e1;cases e2;exact .p _ (.sl _ _ (aP _))
      |5,e1,e2=>cases e1;cases e2;exact .p _ (.sl _ _ (aP _))
     |1,e1,e2=>cases e1;cases e2;exact .p _ (.int _ _)
theorem a5.Ha {b:PV->Bool} {A:Nat->Nat->Rat} {n k:Nat} {K:Prop} (hk:k<=n) (hb:∀i k:Nat,b (cg i k)=true) (hK:K):a5 b (kT A n k) K:=
 .mk (fun e he=>by obtain⟨i,j,rfl,_⟩:=mu k hk e he;exact hb _ _) hK
theorem cd.tk {A:Nat->Nat->Rat} {n i j:Nat} {K:Option PV->Prop} (hji:j<i) (hin:i<n) (hK:K (some (aJ (EP A i j)))):cd (kT A n n) (cg i j) K:=by
 obtain⟨a,h1,h2⟩:=Fp hji hin n (Nat.le_refl _) (show j<n by omega)
 exact .yes a _ h1 (by rw[cF];exact decide_eq_true ⟨rfl,rfl⟩) h2 hK
theorem cd.GW {A:Nat->Nat->Rat} {n i j:Nat} {K:Option PV->Prop} (hij:i<=j) (hK:K Option.none):cd (kT A n n) (cg i j) K:=
 .no (fun e he=>by
  obtain⟨i',j',rfl,_,h3,_⟩:=mu n (Nat.le_refl _) e he
  rw[cF];exact decide_eq_false fun h=>by omega) hK
abbrev GJ (n:Nat) (A:Nat->Nat->Rat):PV:=.eT true (.agg [.int .i64 (n:Int),.mp true (dK n (gs A n) (n*n)),.mp true (kT A n n)])
theorem xW (A:Nat->Nat->Rat) (n i j:Nat) (hi:i<n) (hj:j<n):au Tryz.prog 241 [GJ n A,cg i j] (.p (aJ (jf A i j))) []:=by
 have hc:=ye i j
 by_cases e:i=j
 ·rw[decide_eq_true e]at hc
  have:jf A i j=1:=if_pos e
  rw[this]
  refine aa (wr:=a9) a6 mixed Tryz.func241 (by kernel_rfl) rfl (by kernel_rfl) (af rfl) (by simp) ?_
  refine ab.pure (hc) ?_
  refine a8.mk (fun _=>?_) (fun h=>by cases h)
  refine ab.pure (Cv) ?_
  exact aq.pure (.p _ (aS _ _ _))
 ·rw[decide_eq_false e]at hc
  by_cases c:j<i
  ·have:jf A i j=EP A i j:=by unfold jf;rw[if_neg e,if_pos c];rfl
   rw[this]
   refine aa (wr:=a9) a6 mixed Tryz.func241 (by kernel_rfl) rfl (by kernel_rfl) (af rfl) (by simp) ?_
   refine ab.pure (hc) ?_
   refine a8.mk (fun h=>by cases h) (fun _=>?_)
   refine aO.cM (by kernel_rfl) ?_
   repeat refine aj.mk _ _ (And.intro rfl rfl) rfl ?_
   refine aj.mk _ _ (a5.Ha (Nat.le_refl _) (fun _ _=>rfl)<|cd.tk c hi (And.intro rfl rfl)) rfl ?_
   repeat refine aj.mk _ _ (And.intro rfl rfl) rfl ?_
   refine br.mk (by kernel_rfl) ?_
   exact aq.pure (.p _ (aS _ _ _))
  ·have:jf A i j=0:=by unfold jf;rw[if_neg e,if_neg c]
   rw[this]
   refine aa (wr:=a9) a6 mixed Tryz.func241 (by kernel_rfl) rfl (by kernel_rfl) (af rfl) (by simp) ?_
   refine ab.pure (hc) ?_
   refine a8.mk (fun h=>by cases h) (fun _=>?_)
   refine aO.cM (by kernel_rfl) ?_
   repeat refine aj.mk _ _ (And.intro rfl rfl) rfl ?_
   refine aj.mk _ _ (a5.Ha (Nat.le_refl _) (fun _ _=>rfl)<|cd.GW (by omega) (And.intro rfl rfl)) rfl ?_
   repeat refine aj.mk _ _ (And.intro rfl rfl) rfl ?_
   refine br.mk (by kernel_rfl) ?_
   refine ab.pure (lD) ?_
   exact aq.pure (.p _ (aS _ _ _))
theorem y5 (A:Nat->Nat->Rat) (n i j:Nat) (hi:i<n) (hj:j<n):au Tryz.prog 242 [GJ n A,cg i j] (.p (aJ (mi A i j))) []:=by
 by_cases c:j<i
 ·have:mi A i j=0:=if_pos c
  rw[this]
  refine aa (wr:=a9) a6 mixed Tryz.func242 (by kernel_rfl) rfl (by kernel_rfl) (af rfl) (by simp) ?_
  refine aI.mk 0 rfl (by decide) ?_
  refine aI.mk 1 rfl (by decide) ?_
  refine ag.yes (decide_eq_true (by omega)) ?_
  refine ab.pure (lD) ?_
  exact aq.pure (.p _ (aS _ _ _))
 ·have:mi A i j=gs A n i j:=by unfold mi;rw[if_neg c];exact(C3 (by omega)).symm
  rw[this]
  refine aa (wr:=a9) a6 mixed Tryz.func242 (by kernel_rfl) rfl (by kernel_rfl) (af rfl) (by simp) ?_
  refine aI.mk 0 rfl (by decide) ?_
  refine aI.mk 1 rfl (by decide) ?_
  refine ag.no (decide_eq_false (by omega)) ?_
  refine aO.cM (by kernel_rfl) ?_
  repeat refine aj.mk _ _ (And.intro rfl rfl) rfl ?_
  refine aj.mk _ _ (a5.kB (fun _ _=>rfl)<|cd.kB hi hj (And.intro rfl rfl)) rfl ?_
  repeat refine aj.mk _ _ (And.intro rfl rfl) rfl ?_
  refine br.mk (by kernel_rfl) ?_
  exact aq.pure (.p _ (aS _ _ _))
theorem sW (f:FuncId) (p:PV) (n:Nat) (F:Nat->Nat->Rat) {b:Nat} (hF:∀i j,i<n->j<n->au Tryz.prog f [p,cg i j] (.p (aJ (F i j))) []) (hB:∀i j,i<n->j<n->Bz (F i j) b) (hb:b<=1000000) (hn:n<=1000):
  au Tryz.prog 240 [.int .i64 n,.je f [p]] (.p (cm false false n n F)) []:=by
 refine aa (wr:=a9) a6 mixed Tryz.func240 (by kernel_rfl) rfl (by kernel_rfl) (af rfl) (by simp) ?_
 refine SZ.mk (n:Int) rfl ?_
 refine bT.mk (by simp) ?_
 refine bV.mk n rfl (by simp;omega) (by omega) ?_
 refine FG.rows ?_
 refine SZ.mk (n:Int) rfl ?_
 refine aM.Cf Nat (fun i=>([(0,.p (.int .i64 n)),(1,.p (.je f [p])),(5,.vec 0 1 0 n),(11,.p (.int .i64 n)),(12,.p (.int .i64 i))],[.rows 24 (half 1 n n i),.bt 38 3 (cY i n F)]))
  (fun i=>i<=n) (fun i=>n-i) 0 [0,1] _ _ (.bt 38 3 (.done _ _)) (Nat.zero_le _) ⟨rfl,by simp,rfl,rfl,rfl,⟨rfl,rfl,rfl,rfl,rfl,trivial⟩,⟨congrArg _ iF,rfl,ez fun i hi=>absurd hi (Nat.not_lt_zero _),trivial⟩⟩ ?_
 intro i hi
 have hi:i<=n:=hi
 by_cases hin:i<n
 ·refine ag.yes (decide_eq_true (by omega)) ?_
  refine SZ.mk (n:Int) rfl ?_
  refine bT.mk (by simp) ?_
  refine bV.rat n rfl (by omega) ?_
  refine aI.mk i rfl hin ?_
  refine bT.mk (by simp;omega) ?_
  refine pT.mk (mq 1 n n i 2) ou ?_
  refine aI.mk i rfl hin ?_
  refine cq.mk i _ rfl (iv hin) ?_
  refine SZ.mk (n:Int) rfl ?_
  refine aM.mk Nat (fun j=>([(0,.p (.int .i64 n)),(1,.p (.je f [p])),(5,.vec 0 1 0 n),(6,.p (.int .i64 i)),(11,.p (.int .i64 n)),(12,.p (.int .i64 i)),(24,.p (.int .i64 n)),(25,.p (.int .i64 j))],[.rows 24 (mq 1 n n i 2),.bt 38 3 (cY i n F),.vec 38 3 (fl n fun k=>if k<j then aJ (F i k)else cu)]))
   (fun j=>j<=n) (fun j=>n-j) 0 [0,1,2] (Nat.zero_le _) ⟨rfl,by simp,rfl,rfl,rfl,⟨rfl,rfl,rfl,rfl,rfl,rfl,rfl,rfl,trivial⟩,⟨congrArg _ (iA 1 2 rfl (by decide) rfl (by decide)),rfl,congrArg _ ((aX fun k hk=>if_neg (by omega)).trans (bE n cu).symm),jM (fun i hi=>by simpa[aN]using hi) (fun e=>by cases e),trivial⟩⟩ ?_
  intro j hj
  have hj:j<=n:=hj
  by_cases hjn:j<n
  ·refine ag.yes (decide_eq_true (by omega)) ?_
   have hFij:=hF i j hin hjn
   refine aO.cM (by kernel_rfl) ?_
   repeat refine aj.mk _ _ (And.intro rfl rfl) rfl ?_
   refine aj.mk _ _ (aI.mk i rfl hin (And.intro rfl rfl)) rfl ?_
   refine aj.mk _ _ (cq.mk i _ rfl (iv hin) (And.intro rfl rfl)) rfl ?_
   repeat refine aj.mk _ _ (And.intro rfl rfl) rfl ?_
   refine aj.mk _ _ (ab.pure (pvs:=[p,cg i j]) hFij (And.intro rfl rfl)) rfl ?_
   refine aj.mk _ _ (ab.pure (lD) (And.intro rfl rfl)) rfl ?_
   refine aj.mk _ _ (ab.pure (gy (hB i j hin hjn) hb) (And.intro rfl rfl)) rfl ?_
   refine aj.mk _ _ (aI.mk j rfl hjn (And.intro rfl rfl)) rfl ?_
   refine aj.mk _ _ (bT.mk (by simp;omega)<|cH.mk _ (du hjn) (And.intro rfl rfl)) rfl ?_
   repeat refine aj.mk _ _ (And.intro rfl rfl) rfl ?_
   refine br.mk (by kernel_rfl) ?_
   refine ae.ao ((j+1:Nat):Int) (by omega) (by omega) ?_
   exact⟨j+1,[0,1,2],hjn,by show n-(j+1)<n-j;omega,⟨rfl,by simp,rfl,rfl,rfl,⟨rfl,rfl,rfl,rfl,rfl,rfl,rfl,rfl,trivial⟩,⟨congrArg _ (iA 1 2 rfl (by decide) rfl (by decide)),rfl,rfl,jM (fun i hi=>by simpa[aN]using hi) (fun e=>by cases e),trivial⟩⟩⟩
  ·refine ag.no (decide_eq_false (by omega)) ?_
   obtain rfl:j=n:=by omega
   refine ae.ao ((i+1:Nat):Int) (by omega) (by omega) ?_
   exact⟨i+1,[0,3001],hin,by show j-(i+1)<j-i;omega,⟨rfl,by simp,rfl,rfl,rfl,⟨rfl,rfl,rfl,rfl,rfl,trivial⟩,⟨congrArg _ (fM rfl (by decide) (by simp[aN])),⟨_,_,_,_,rfl,rfl,congrArg _ (dO.trans (congrArg (fun r=>cY i j F++[some r]) fN))⟩,ez fun i hi=>by simpa[aN]using hi,trivial⟩⟩⟩
 ·refine ag.no (decide_eq_false (by omega)) ?_
  obtain rfl:i=n:=by omega
  exact aq.pure (x6 (H:=[_,_]) (h:=0) (p:=1) (congrArg (aC.rows _) iE) rfl fun i hi=>hi)
abbrev G7:FuncId->Bool:=fun f=>Nat.beq f 239
theorem sI (m:Nat->Bool) (g:GV) {b c D:Nat} (h:Wf g b c) (hB:Fs (aW g) g.n D) (hD:4*D<=1048576) (hz:sR (aW g) g.n<g.n):
  au Tryz.prog 213 [cG m g] (.bq [.p (.sl false 1 []),.p (.sl false 1 []),.p (.int .i64 ((sR (aW g) g.n+1:Nat):Int)),.p (.int .i64 8)]) []:=by
 have h6:=h.n6
 have n1:=h.n1
 obtain⟨b1,b2,b3⟩:=qs (aW g) g.n
 obtain⟨K,hK⟩:∃K,K=sR (aW g) g.n:=⟨_,rfl⟩
 rw[<-hK]at b1 b2 b3 hz⊢
 have b3:=b3 hz
 refine aa (wr:=G7) a6 mixed Tryz.func213 (by kernel_rfl) rfl (by kernel_rfl) (af rfl) (by simp) ?_
 refine ab.pure (eH m g h) ?_
 refine m9.mk (fun _=>?_) (fun h=>absurd h (by simp;omega))
 refine ab.news (zY false false g.n (aW g) (by omega)) (fun B hB=>by simp only[Aj,List.mem_cons,List.not_mem_nil,or_false]at hB;rcases hB with rfl|rfl|rfl<;>exact fun e=>by cases e) ?_
 refine aM.mk Nat (fun k=>([(7,.aF 0 0),(18,.p (.int .i64 g.n)),(19,.p (.int .i64 k))],Aj g.n (dK g.n (gs (aW g) k) (g.n*g.n)) (kT (aW g) g.n k)))
  (fun k=>k<=K) (fun k=>g.n-k) 0 [1,2,3] (Nat.zero_le _) ⟨rfl,by simp,rfl,rfl,rfl,⟨rfl,rfl,rfl,trivial⟩,⟨rfl,rfl,rfl,trivial⟩⟩ ?_
 intro k hk
 have hk:k<=K:=hk
 refine ag.yes (decide_eq_true (by omega)) ?_
 by_cases e:k<K
 ·refine ab.three 0 1 2 (w6 (aW g) g.n k (by omega) (by omega) (b2 k e) hB hD)
   (by decide) (by decide) (by decide) (by decide) rfl ⟨rfl,fun _=>rfl⟩ ⟨rfl,fun _=>rfl⟩ ⟨rfl,fun _=>rfl⟩
    (fun B hB=>by simp only[List.mem_cons,List.not_mem_nil,or_false]at hB;rcases hB with rfl|rfl|rfl<;>exact⟨fun e=>by(cases e),fun e=>by(cases e)⟩)
    (fun B hB k hk=>by
     simp only[List.mem_cons,List.not_mem_nil,or_false]at hB
     rcases hB with rfl|rfl|rfl
     ·simp only[aC.aU,AV.bo,AV.aU,or_false,false_or]at hk
      rcases hk with rfl|rfl<;>decide
     ·exact hk.elim
     ·exact hk.elim)
    (fun B hB=>by simp only[List.mem_cons,List.not_mem_nil,or_false]at hB;rcases hB with rfl|rfl|rfl<;>exact fun e=>by(cases e))
    (fun a ha k hk=>by
     simp only[List.mem_cons,List.not_mem_nil,or_false]at ha
     rcases ha with rfl|rfl
     ·simp only[AV.aU]at hk;subst hk;decide
     ·simp only[AV.aU]at hk) ?_
  refine ag.no (rfl) ?_
  refine ae.ao ((k+1:Nat):Int) (by omega) (by omega) ?_
  exact⟨k+1,[0,1,2],e,by show g.n-(k+1)<g.n-k;omega,⟨rfl,by simp,rfl,rfl,rfl,⟨rfl,rfl,rfl,trivial⟩,⟨rfl,rfl,rfl,trivial⟩⟩⟩
 ·obtain rfl:k=K:=by omega
  refine ab.three 0 1 2 (Bc (aW g) g.n k (by omega) (by omega) b3)
   (by decide) (by decide) (by decide) (by decide) rfl ⟨rfl,fun _=>rfl⟩ ⟨rfl,fun _=>rfl⟩ ⟨rfl,fun _=>rfl⟩
    (fun B hB=>by simp only[List.mem_cons,List.not_mem_nil,or_false]at hB;rcases hB with rfl|rfl|rfl<;>exact⟨fun e=>by(cases e),fun e=>by(cases e)⟩)
    (fun B hB k hk=>by
     simp only[List.mem_cons,List.not_mem_nil,or_false]at hB
     rcases hB with rfl|rfl|rfl
     ·simp only[aC.aU,AV.bo,AV.aU,or_false,false_or]at hk
      rcases hk with rfl|rfl<;>decide
     ·exact hk.elim
     ·exact hk.elim)
    (fun B hB=>by simp only[List.mem_cons,List.not_mem_nil,or_false]at hB;rcases hB with rfl|rfl|rfl<;>exact fun e=>by(cases e))
    (fun a ha k hk=>by
     simp only[List.mem_cons,List.not_mem_nil,or_false]at ha
     rcases ha with rfl|rfl
     ·simp only[AV.aU]at hk;subst hk;decide
     ·simp only[AV.aU]at hk) ?_
  refine ag.yes (rfl) ?_
  refine ae.ao ((k+1:Nat):Int) (by omega) (by omega) ?_
  exact aq.pure (.bq rfl fun i c d e1 e2=>by
   match i,e1,e2 with
   |0,e1,e2=>cases e1;cases e2;exact .emp 1
   |1,e1,e2=>cases e1;cases e2;exact .emp 1
   |2,e1,e2=>cases e1;cases e2;exact .p _ (.int _ _)
   |3,e1,e2=>cases e1;cases e2;exact .p _ (.int _ _))
theorem u5 (m:Nat->Bool) (g:GV) {b c D:Nat} (h:Wf g b c) (hB:Fs (aW g) g.n D) (hD:4*D<=1000000) (hp:∀t,t<g.n->xL (aW g) t≠0):
  au Tryz.prog 213 [cG m g] (.bq [.p (cm false false g.n g.n (jf (aW g))),.p (cm false false g.n g.n (mi (aW g))),.p (.int .i64 0),.p (.int .i64 0)]) []:=by
 have h6:=h.n6
 have n1:=h.n1
 have zL:∀i j,i<g.n->j<g.n->Bz (jf (aW g) i j) (D+D+1):=fun i j hi hj=>by
  unfold jf
  split
  ·exact cR.mono (by omega)
  ·split
   ·exact((hB j (by omega) i j hi hj).div (hB j (by omega) j j hj hj)).mono (by omega)
   ·exact bS.mono (by omega)
 have zU:∀i j,i<g.n->j<g.n->Bz (mi (aW g) i j) (D+D+1):=fun i j hi hj=>by
  unfold mi
  split
  ·exact bS.mono (by omega)
  ·exact(hB i (by omega) i j hi hj).mono (by omega)
 refine aa (wr:=G7) a6 mixed Tryz.func213 (by kernel_rfl) rfl (by kernel_rfl) (af rfl) (by simp) ?_
 refine ab.pure (eH m g h) ?_
 refine m9.mk (fun _=>?_) (fun h=>absurd h (by simp;omega))
 refine ab.news (zY false false g.n (aW g) (by omega)) (fun B hB=>by simp only[Aj,List.mem_cons,List.not_mem_nil,or_false]at hB;rcases hB with rfl|rfl|rfl<;>exact fun e=>by cases e) ?_
 refine aM.mk Nat (fun k=>([(7,.aF 0 0),(18,.p (.int .i64 g.n)),(19,.p (.int .i64 k))],Aj g.n (dK g.n (gs (aW g) k) (g.n*g.n)) (kT (aW g) g.n k)))
  (fun k=>k<=g.n) (fun k=>g.n-k) 0 [1,2,3] (Nat.zero_le _) ⟨rfl,by simp,rfl,rfl,rfl,⟨rfl,rfl,rfl,trivial⟩,⟨rfl,rfl,rfl,trivial⟩⟩ ?_
 intro k hk
 have hk:k<=g.n:=hk
 by_cases hkn:k<g.n
 ·refine ag.yes (decide_eq_true (by omega)) ?_
  refine ab.three 0 1 2 (w6 (aW g) g.n k hkn (by omega) (hp k hkn) hB (by omega))
   (by decide) (by decide) (by decide) (by decide) rfl ⟨rfl,fun _=>rfl⟩ ⟨rfl,fun _=>rfl⟩ ⟨rfl,fun _=>rfl⟩
    (fun B hB=>by simp only[List.mem_cons,List.not_mem_nil,or_false]at hB;rcases hB with rfl|rfl|rfl<;>exact⟨fun e=>by(cases e),fun e=>by(cases e)⟩)
    (fun B hB k hk=>by
     simp only[List.mem_cons,List.not_mem_nil,or_false]at hB
     rcases hB with rfl|rfl|rfl
     ·simp only[aC.aU,AV.bo,AV.aU,or_false,false_or]at hk
      rcases hk with rfl|rfl<;>decide
     ·exact hk.elim
     ·exact hk.elim)
    (fun B hB=>by simp only[List.mem_cons,List.not_mem_nil,or_false]at hB;rcases hB with rfl|rfl|rfl<;>exact fun e=>by(cases e))
    (fun a ha k hk=>by
     simp only[List.mem_cons,List.not_mem_nil,or_false]at ha
     rcases ha with rfl|rfl
     ·simp only[AV.aU]at hk;subst hk;decide
     ·simp only[AV.aU]at hk) ?_
  refine ag.no (rfl) ?_
  refine ae.ao ((k+1:Nat):Int) (by omega) (by omega) ?_
  exact⟨k+1,[0,1,2],hkn,by show g.n-(k+1)<g.n-k;omega,⟨rfl,by simp,rfl,rfl,rfl,⟨rfl,rfl,rfl,trivial⟩,⟨rfl,rfl,rfl,trivial⟩⟩⟩
 ·refine ag.no (decide_eq_false (by omega)) ?_
  obtain rfl:k=g.n:=by omega
  have c1:=sW 241 (GJ g.n (aW g)) g.n (jf (aW g)) (fun i j hi hj=>xW (aW g) g.n i j hi hj) zL (by omega) (by omega)
  have c2:=sW 242 (GJ g.n (aW g)) g.n (mi (aW g)) (fun i j hi hj=>y5 (aW g) g.n i j hi hj) zU (by omega) (by omega)
  refine aO.cM (by kernel_rfl) ?_
  repeat refine aj.mk _ _ (And.intro rfl rfl) rfl ?_
  refine aj.mk _ _ (ab.pure (c1) (And.intro rfl rfl)) rfl ?_
  repeat refine aj.mk _ _ (And.intro rfl rfl) rfl ?_
  refine aj.mk _ _ (ab.pure (c2) (And.intro rfl rfl)) rfl ?_
  repeat refine aj.mk _ _ (And.intro rfl rfl) rfl ?_
  refine br.mk (by kernel_rfl) ?_
  exact aq.pure (.bq rfl fun i c d e1 e2=>by
   match i,e1,e2 with
   |0,e1,e2=>cases e1;cases e2;exact .p _ dr
   |1,e1,e2=>cases e1;cases e2;exact .p _ dr
   |2,e1,e2=>cases e1;cases e2;exact .p _ (.int _ _)
   |3,e1,e2=>cases e1;cases e2;exact .p _ (.int _ _))
theorem fy.GX {g:GV} {b c:Nat} (h:fy g b c) (ha:kR g.A g.n) (hb:kR g.B g.n):vX g.n g.A g.B:=⟨ha,hb,fun i k hi hk=>h.Hj hi hk⟩
theorem Cn {g:GV} {b c:Nat} (h:fy g b c) {i k:Nat} (hi:i<g.n) (hk:k<g.n):∀m,m<=g.n->Bz (xa g.A g.B i k m) (300+m*850):=by
 intro m
 induction m with
 |zero=>intro _;simp only[xa];exact(cR.div (h.D6 hk hi)).mono (by omega)
 |succ m ih=>
  intro hm
  have zm:=(ih (by omega)).mul ((h.D6 hk (show m<g.n by omega)).mul (h.D6 (show m<g.n by omega) hi))
  simp only[xa]
  have z1:=zm.div (h.GL hk (show m<g.n by omega))
  have z2:=z1.div (h.FO (show m<g.n by omega) hi)
  have z3:=zm.div (h.FO (show m<g.n by omega) hi)
  split<;>split
  ·exact zm.mono (by omega)
  ·exact z1.mono (by omega)
  ·exact z3.mono (by omega)
  ·exact z2.mono (by omega)
theorem qJ (g:GV) {b c:Nat} (h:fy g b c) (ha:kR g.A g.n) (hb:kR g.B g.n) (i k:Nat) (hi:i<g.n) (hk:k<g.n):
  au Tryz.prog 257 [.agg (ks g.n g.A g.B false false),.int .i64 i,.int .i64 k] (.p (aJ (xa g.A g.B i k g.n))) []:=by
 have h6:=h.n6
 have H:=h.GX ha hb
 refine aa (wr:=a9) a6 mixed Tryz.func257 (by kernel_rfl) rfl (by kernel_rfl) (af rfl) (by simp) ?_
 refine aO.cM (by kernel_rfl) ?_
 repeat refine aj.mk _ _ (And.intro rfl rfl) rfl ?_
 refine aj.mk _ _ (ab.pure (CR) (And.intro rfl rfl)) rfl ?_
 repeat refine aj.mk _ _ (And.intro rfl rfl) rfl ?_
 refine aj.mk _ _ (a5.kB (fun _ _=>rfl)<|cd.kB hk hi (And.intro rfl rfl)) rfl ?_
 repeat refine aj.mk _ _ (And.intro rfl rfl) rfl ?_
 refine aj.mk _ _ (ab.pure (lP _ _ (H.dx hk hi) cR (h.D6 hk hi) (by omega)) (And.intro rfl rfl)) rfl ?_
 repeat refine aj.mk _ _ (And.intro rfl rfl) rfl ?_
 refine br.mk (by kernel_rfl) ?_
 refine aM.mk (Nat×Rat) (fun(m,q)=>([(1,.p (.int .i64 i)),(2,.p (.int .i64 k)),(3,.aF 0 0),(6,.aF 1 0),(7,.aF 2 0),(18,.p (.int .i64 g.n)),(19,.p (.int .i64 m))],[.box 261 (r8 g.n g.A g.B false false),.box 38 ub,.box 38 (lW q)]))
  (fun(m,q)=>m<=g.n/\q=xa g.A g.B i k m) (fun x=>g.n-x.1) (0,_) [0,1,2] ⟨Nat.zero_le _,rfl⟩ ⟨rfl,by simp,rfl,rfl,rfl,⟨rfl,rfl,rfl,rfl,rfl,rfl,rfl,trivial⟩,⟨rfl,rfl,rfl,trivial⟩⟩ ?_
 intro⟨m,q⟩ ⟨hm,hq⟩
 by_cases hmn:m<g.n
 ·refine ag.yes (decide_eq_true (by omega)) ?_
  have zq:Bz q (300+m*850):=by rw[hq];exact Cn h hi hk m hm
  have z1:=(h.D6 hk hmn).mul (h.D6 hmn hi)
  have z2:=zq.mul z1
  refine aO.cM (by kernel_rfl) ?_
  repeat refine aj.mk _ _ (And.intro rfl rfl) rfl ?_
  refine aj.mk _ _ (a5.kB (fun _ _=>rfl)<|cd.kB hk hmn (And.intro rfl rfl)) rfl ?_
  repeat refine aj.mk _ _ (And.intro rfl rfl) rfl ?_
  refine aj.mk _ _ (a5.kB (fun _ _=>rfl)<|cd.kB hmn hi (And.intro rfl rfl)) rfl ?_
  repeat refine aj.mk _ _ (And.intro rfl rfl) rfl ?_
  refine aj.mk _ _ (ab.pure (b9 _ _ (h.D6 hk hmn).sz (h.D6 hmn hi).sz (by omega)) (And.intro rfl rfl)) rfl ?_
  refine aj.mk _ _ (ab.pure (b9 _ _ zq.sz z1.sz (by omega)) (And.intro rfl rfl)) rfl ?_
  repeat refine aj.mk _ _ (And.intro rfl rfl) rfl ?_
  refine br.mk (by kernel_rfl) ?_
  by_cases e2:m=k
  ·refine ag.no (f0 (by omega)) ?_
   by_cases e1:m=i
   ·refine ag.no (f0 (by omega)) ?_
    refine ae.ao ((m+1:Nat):Int) (by omega) (by omega) ?_
    exact⟨(m+1,_),[0,1,2],⟨hmn,by rw[hq];simp only[xa];rw[if_pos e1,if_pos e2]⟩,by show g.n-(m+1)<g.n-m;omega,⟨rfl,by simp,rfl,rfl,rfl,⟨rfl,rfl,rfl,rfl,rfl,rfl,rfl,trivial⟩,⟨rfl,rfl,rfl,trivial⟩⟩⟩
   ·refine ag.yes (vK (by omega)) ?_
    refine aO.cM (by kernel_rfl) ?_
    repeat refine aj.mk _ _ (And.intro rfl rfl) rfl ?_
    refine aj.mk _ _ (a5.kB (fun _ _=>rfl)<|cd.kB hmn hi (And.intro rfl rfl)) rfl ?_
    repeat refine aj.mk _ _ (And.intro rfl rfl) rfl ?_
    refine aj.mk _ _ (ab.pure (lP _ _ (H.db hmn hi e1) z2 (h.FO hmn hi) (by omega)) (And.intro rfl rfl)) rfl ?_
    repeat refine aj.mk _ _ (And.intro rfl rfl) rfl ?_
    refine br.mk (by kernel_rfl) ?_
    refine ae.ao ((m+1:Nat):Int) (by omega) (by omega) ?_
    exact⟨(m+1,_),[0,1,2],⟨hmn,by rw[hq];simp only[xa];rw[if_neg e1,if_pos e2]⟩,by show g.n-(m+1)<g.n-m;omega,⟨rfl,by simp,rfl,rfl,rfl,⟨rfl,rfl,rfl,rfl,rfl,rfl,rfl,trivial⟩,⟨rfl,rfl,rfl,trivial⟩⟩⟩
  ·refine ag.yes (vK (by omega)) ?_
   refine aO.cM (by kernel_rfl) ?_
   repeat refine aj.mk _ _ (And.intro rfl rfl) rfl ?_
   refine aj.mk _ _ (a5.kB (fun _ _=>rfl)<|cd.kB hk hmn (And.intro rfl rfl)) rfl ?_
   repeat refine aj.mk _ _ (And.intro rfl rfl) rfl ?_
   refine aj.mk _ _ (ab.pure (lP _ _ (H.da hk hmn (Ne.symm e2)) z2 (h.GL hk hmn) (by omega)) (And.intro rfl rfl)) rfl ?_
   repeat refine aj.mk _ _ (And.intro rfl rfl) rfl ?_
   refine br.mk (by kernel_rfl) ?_
   by_cases e1:m=i
   ·refine ag.no (f0 (by omega)) ?_
    refine ae.ao ((m+1:Nat):Int) (by omega) (by omega) ?_
    exact⟨(m+1,_),[0,1,2],⟨hmn,by rw[hq];simp only[xa];rw[if_pos e1,if_neg e2]⟩,by show g.n-(m+1)<g.n-m;omega,⟨rfl,by simp,rfl,rfl,rfl,⟨rfl,rfl,rfl,rfl,rfl,rfl,rfl,trivial⟩,⟨rfl,rfl,rfl,trivial⟩⟩⟩
   ·refine ag.yes (vK (by omega)) ?_
    have z3:=z2.div (h.GL hk hmn)
    refine aO.cM (by kernel_rfl) ?_
    repeat refine aj.mk _ _ (And.intro rfl rfl) rfl ?_
    refine aj.mk _ _ (a5.kB (fun _ _=>rfl)<|cd.kB hmn hi (And.intro rfl rfl)) rfl ?_
    repeat refine aj.mk _ _ (And.intro rfl rfl) rfl ?_
    refine aj.mk _ _ (ab.pure (lP _ _ (H.db hmn hi e1) z3 (h.FO hmn hi) (by omega)) (And.intro rfl rfl)) rfl ?_
    repeat refine aj.mk _ _ (And.intro rfl rfl) rfl ?_
    refine br.mk (by kernel_rfl) ?_
    refine ae.ao ((m+1:Nat):Int) (by omega) (by omega) ?_
    exact⟨(m+1,_),[0,1,2],⟨hmn,by rw[hq];simp only[xa];rw[if_neg e1,if_neg e2]⟩,by show g.n-(m+1)<g.n-m;omega,⟨rfl,by simp,rfl,rfl,rfl,⟨rfl,rfl,rfl,rfl,rfl,rfl,rfl,trivial⟩,⟨rfl,rfl,rfl,trivial⟩⟩⟩
 ·refine ag.no (decide_eq_false (by omega)) ?_
  obtain rfl:m=g.n:=by omega
  rw[<-hq]
  exact aq.pure (.p _ (aS _ _ _))
theorem uj (m:Nat->Bool) (g:GV) {b c:Nat} (h:fy g b c) (ht:¬(kR g.A g.n/\kR g.B g.n)):au Tryz.prog 236 [cG m g] (.bq [.p (.sl false 1 []),.p (.int .i64 9)]) []:=by
 have hb:=sL m g h
 refine aa (wr:=a9) a6 mixed Tryz.func236 (by kernel_rfl) rfl (by kernel_rfl) (af rfl) (by simp) ?_
 by_cases hA:kR g.A g.n
 ·rw[show kP g= .agg (ks g.n g.A g.B false true) by rw[kP,mg hA,qf fun hB=>ht ⟨hA,hB⟩]]at hb
  refine ab.bg (hb) (fun _=>rfl) ?_
  refine ag.yes (rfl) ?_
  refine a8.mk (fun h=>by cases h) (fun _=>?_)
  refine a8.mk (fun _=>?_) (fun h=>by cases h)
  refine ag.yes (rfl) ?_
  exact aq.pure (.bq rfl fun i c d e1 e2=>by
   match i,e1,e2 with
   |0,e1,e2=>cases e1;cases e2;exact .emp 1
   |1,e1,e2=>cases e1;cases e2;exact .p _ (.int _ _))
 ·rw[show kP g= .agg (ks g.n g.A g.B true (iq g.B g.n)) by rw[kP,qf hA]]at hb
  refine ab.bg (hb) (fun _=>rfl) ?_
  refine ag.yes (rfl) ?_
  refine a8.mk (fun _=>?_) (fun h=>by cases h)
  refine ag.yes (rfl) ?_
  exact aq.pure (.bq rfl fun i c d e1 e2=>by
   match i,e1,e2 with
   |0,e1,e2=>cases e1;cases e2;exact .emp 1
   |1,e1,e2=>cases e1;cases e2;exact .p _ (.int _ _))
abbrev oS (p c n k q l:Nat):List AV:=fl n fun i=>if i<k then .vec (.r p i) 3 0 c else if i=k then .vec (.t q) 3 0 l else .emp
theorem yD {p c n k q l:Nat}:(half p c n k).set k (.vec (.t q) 3 0 l)=oS p c n k q l:=by
 rw[eX]
 refine aX fun i _=>?_
 unfold bz
 by_cases e:i=k
 ·rw[if_pos e,if_neg (by omega),if_pos e]
 ·rw[if_neg e]
  show(if i<k then AV.vec (.r p i) 3 0 c else .emp)=_
  by_cases e2:i<k
  ·rw[if_pos e2,if_pos e2]
  ·rw[if_neg e2,if_neg e2,if_neg e]
theorem Aw {p c n k q l q' l':Nat}:(oS p c n k q l).set k (.vec (.t q') 3 0 l')=oS p c n k q' l':=by
 rw[eX]
 refine aX fun i _=>?_
 unfold bz
 by_cases e:i=k
 ·rw[if_pos e,if_neg (by omega),if_pos e]
 ·rw[if_neg e]
  show(if i<k then AV.vec (.r p i) 3 0 c else if i=k then _ else .emp)=_
  by_cases e2:i<k
  ·rw[if_pos e2,if_pos e2]
  ·rw[if_neg e2,if_neg e2,if_neg e,if_neg e]
theorem BL {p c n k q l:Nat} (h:k<n):(oS p c n k q l)[k]?=some (.vec (.t q) 3 0 l):=by
 rw[cU h,if_neg (Nat.lt_irrefl k),if_pos rfl]
theorem tZ {hs:List Nat} {P:Hp} {p c n k q l:Nat} (p' q':Nat) (hp:hs.getD p 0=p') (hp':p'<1000) (hq:hs.getD q 0=q') (hq':q'<1000):AV.cz (cO hs P) (oS p c n k q l)=oS p' c n k q' l:=by
 rw[eu]
 refine aX fun i hi=>?_
 have eb:Nat.blt p' 1000=true:=b8.2 hp'
 have ec:Nat.blt q' 1000=true:=b8.2 hq'
 by_cases e:i<k
 ·rw[if_pos e,if_pos e];simp only[AV.cE,cO,hp,eb,cond_true]
 ·rw[if_neg e,if_neg e]
  by_cases e2:i=k
  ·rw[if_pos e2,if_pos e2];simp only[AV.cE,cO,hq,ec,cond_true];rw[show pM q'=q' from Nat.mod_eq_of_lt hq']
  ·rw[if_neg e2,if_neg e2];simp only[AV.cE]
theorem wQ {P:Hp} {p c n k q l:Nat} (h:∀i,i<k->i<aN P p) (hq:look P (.t q)≠ .free):∀x∈oS p c n k q l,∀h,x.aU h->look P h≠ .free:=by
 intro x hx g hg
 obtain⟨i,hi,rfl⟩:=dq hx
 by_cases e:i<k
 ·rw[if_pos e]at hg
  simp only[AV.aU]at hg
  subst hg
  exact iH (h i e)
 ·rw[if_neg e]at hg
  by_cases e2:i=k
  ·rw[if_pos e2]at hg
   simp only[AV.aU]at hg
   subst hg;exact hq
  ·rw[if_neg e2]at hg;exact hg.elim
abbrev ud (g:GV):Nat->Nat->Rat:=fun i k=>xa g.A g.B i k g.n
theorem DI (m:Nat->Bool) (g:GV) {b c:Nat} (h:fy g b c) (ha:kR g.A g.n) (hb:kR g.B g.n):au Tryz.prog 236 [cG m g] (.bq [.p (cm false false g.n g.n (ud g)),.p (.int .i64 0)]) []:=by
 have h6:=h.n6
 have n1:=h.n1
 have hbg:=sL m g h
 rw[show kP g= .agg (ks g.n g.A g.B false false) by rw[kP,mg ha,mg hb]]at hbg
 refine aa (wr:=a9) a6 mixed Tryz.func236 (by kernel_rfl) rfl (by kernel_rfl) (af rfl) (by simp) ?_
 refine ab.bg (hbg) (fun _=>rfl) ?_
 refine ag.yes (rfl) ?_
 refine a8.mk (fun h=>by cases h) (fun _=>?_)
 refine a8.mk (fun h=>by cases h) (fun _=>?_)
 refine ag.no (rfl) ?_
 refine SZ.mk (g.n:Int) rfl ?_
 refine bT.mk (by simp) ?_
 refine bV.mk g.n rfl (by simp;omega) (by omega) ?_
 refine FG.rows ?_
 refine SZ.mk (g.n:Int) rfl ?_
 refine aM.Cf Nat (fun i=>([(4,.aF 0 0),(6,.vec 1 1 0 g.n),(31,.p (.int .i64 g.n)),(32,.p (.int .i64 i))],[.box 261 (r8 g.n g.A g.B false false),.rows 24 (half 2 g.n g.n i),.bt 38 3 (cY i g.n (ud g))]))
  (fun i=>i<=g.n) (fun i=>g.n-i) 0 [1,2,3] _ _ (.bt 38 3 (.done _ _)) (Nat.zero_le _) ⟨rfl,by simp,rfl,rfl,rfl,⟨rfl,rfl,rfl,rfl,trivial⟩,⟨rfl,congrArg _ iF,rfl,ez fun i hi=>absurd hi (Nat.not_lt_zero _),trivial⟩⟩ ?_
 intro i hi
 have hi:i<=g.n:=hi
 by_cases hin:i<g.n
 ·refine ag.yes (decide_eq_true (by omega)) ?_
  refine aM.mk Nat (fun k=>match k with
   |0=>([(4,.aF 0 0),(6,.vec 1 1 0 g.n),(7,.p (.int .i64 i)),(31,.p (.int .i64 g.n)),(32,.p (.int .i64 i)),(36,.p (.int .i64 g.n)),(37,.p (.int .i64 (0:Nat)))],[.box 261 (r8 g.n g.A g.B false false),.rows 24 (half 2 g.n g.n i),.bt 38 3 (cY i g.n (ud g))])
   |k+1=>([(4,.aF 0 0),(6,.vec 1 1 0 g.n),(7,.p (.int .i64 i)),(31,.p (.int .i64 g.n)),(32,.p (.int .i64 i)),(36,.p (.int .i64 g.n)),(37,.p (.int .i64 ((k+1:Nat):Int)))],[.box 261 (r8 g.n g.A g.B false false),.rows 24 (oS 2 g.n g.n i 3 (k+1)),.bt 38 3 (cY i g.n (ud g)),.vec 38 3 (bd (ar (k+1) (ud g i)))]))
   (fun k=>k<=g.n) (fun k=>g.n-k) 0 [0,1,2] (Nat.zero_le _) ⟨rfl,by simp,rfl,rfl,rfl,⟨rfl,rfl,rfl,rfl,rfl,rfl,rfl,trivial⟩,⟨rfl,congrArg _ (sS 2 rfl (by decide)),rfl,ez fun i hi=>by simpa[aN]using hi,trivial⟩⟩ ?_
  intro k hk
  have hk:k<=g.n:=hk
  cases k with
  |zero=>
   have hkn:0<g.n:=n1
   refine ag.yes (decide_eq_true (by omega)) ?_
   refine aO.cM (by kernel_rfl) ?_
   repeat refine aj.mk _ _ (And.intro rfl rfl) rfl ?_
   refine aj.mk _ _ (aI.mk i rfl hin (And.intro rfl rfl)) rfl ?_
   refine aj.mk _ _ (cq.mk i _ rfl (sf hin) (And.intro rfl rfl)) rfl ?_
   repeat refine aj.mk _ _ (And.intro rfl rfl) rfl ?_
   refine aj.mk _ _ (ab.pure (qJ g h ha hb i 0 hin hkn) (And.intro rfl rfl)) rfl ?_
   repeat refine aj.mk _ _ (And.intro rfl rfl) rfl ?_
   refine aj.mk _ _ (bp.all rfl<|ck.mk (by simp) (by simp) (And.intro rfl rfl)) rfl ?_
   refine aj.mk _ _ (aI.mk i rfl hin (And.intro rfl rfl)) rfl ?_
   refine aj.mk _ _ (bT.mk (by simp;omega)<|pT.mk (oS 2 g.n g.n i 4 1) yD (And.intro rfl rfl)) rfl ?_
   repeat refine aj.mk _ _ (And.intro rfl rfl) rfl ?_
   refine br.mk (by kernel_rfl) ?_
   refine ae.ao ((0+1:Nat):Int) (by omega) (by omega) ?_
   exact⟨0+1,[0,1,2,4],hkn,by show g.n-(0+1)<g.n-0;omega,⟨rfl,by simp,rfl,rfl,rfl,⟨rfl,rfl,rfl,rfl,rfl,rfl,rfl,trivial⟩,⟨rfl,congrArg _ (tZ 2 4 rfl (by decide) rfl (by decide)),rfl,rfl,wQ (fun i hi=>by simpa[aN]using hi) (fun e=>by cases e),trivial⟩⟩⟩
  |succ k=>
   by_cases hkn:k+1<g.n
   ·refine ag.yes (decide_eq_true (by omega)) ?_
    refine aO.cM (by kernel_rfl) ?_
    repeat refine aj.mk _ _ (And.intro rfl rfl) rfl ?_
    refine aj.mk _ _ (aI.mk i rfl hin (And.intro rfl rfl)) rfl ?_
    refine aj.mk _ _ (cq.mk i _ rfl (BL hin) (And.intro rfl rfl)) rfl ?_
    repeat refine aj.mk _ _ (And.intro rfl rfl) rfl ?_
    refine aj.mk _ _ (ab.pure (qJ g h ha hb i (k+1) hin hkn) (And.intro rfl rfl)) rfl ?_
    repeat refine aj.mk _ _ (And.intro rfl rfl) rfl ?_
    refine aj.mk _ _ (ga.mk (by simp[ar])<|bp.all rfl<|ck.mk (by simp[ar];omega) (by simp[ar];omega)<|cH.mk (bd (ar (k+1+1) (ud g i))) (j4 _ _ _ (rfl))<|mQ.mk (k+1+1) (by simp[ar]) (And.intro rfl rfl)) rfl ?_
    refine aj.mk _ _ (aI.mk i rfl hin (And.intro rfl rfl)) rfl ?_
    refine aj.mk _ _ (bT.mk (by simp;omega)<|pT.mk (oS 2 g.n g.n i 5 (k+1+1)) Aw (And.intro rfl rfl)) rfl ?_
    repeat refine aj.mk _ _ (And.intro rfl rfl) rfl ?_
    refine br.mk (by kernel_rfl) ?_
    refine ae.ao ((k+1+1:Nat):Int) (by omega) (by omega) ?_
    exact⟨k+1+1,[0,1,2,5],hkn,by show g.n-(k+1+1)<g.n-(k+1);omega,⟨rfl,by simp,rfl,rfl,rfl,⟨rfl,rfl,rfl,rfl,rfl,rfl,rfl,trivial⟩,⟨rfl,congrArg _ (tZ 2 5 rfl (by decide) rfl (by decide)),rfl,rfl,wQ (fun i hi=>by simpa[aN]using hi) (fun e=>by cases e),trivial⟩⟩⟩
   ·refine ag.no (decide_eq_false (by omega)) ?_
    have hkn:k+1=g.n:=by omega
    have e1:oS 2 g.n g.n i 3 (k+1)=mq 2 g.n g.n i 3:=by rw[hkn]
    have e2:bd (ar (k+1) (ud g i))=bd (ar g.n (ud g i)):=by rw[hkn]
    refine ae.ao ((i+1:Nat):Int) (by omega) (by omega) ?_
    exact⟨i+1,[0,1,4002],hin,by show g.n-(i+1)<g.n-i;omega,⟨rfl,by simp,rfl,rfl,rfl,⟨rfl,rfl,rfl,rfl,trivial⟩,⟨rfl,congrArg _ ((fM rfl (by decide) (by simp[aN])).trans e1.symm),⟨_,_,_,_,rfl,rfl,congrArg _ (dO.trans (congrArg (fun r=>cY i g.n (ud g)++[some r]) e2.symm))⟩,ez fun i hi=>by simpa[aN]using hi,trivial⟩⟩⟩
 ·refine ag.no (decide_eq_false (by omega)) ?_
  obtain rfl:i=g.n:=by omega
  exact aq.pure (.bq rfl fun i c d e1 e2=>by
   match i,e1,e2 with
   |0,e1,e2=>cases e1;cases e2;exact x6 (H:=[_,_,_]) (h:=1) (p:=2) (congrArg (aC.rows _) iE) rfl fun i hi=>hi
   |1,e1,e2=>cases e1;cases e2;exact .p _ (.int _ _))
abbrev FF (n:Nat) (F:Nat->Rat) (i:Nat) (s:Rat):List PV:=fl n fun j=>if j<i then aJ (F j)else if j=i then aJ s else cu
theorem Bk {n i:Nat} {F:Nat->Rat} {s:Rat}:(fl n fun j=>if j<i then aJ (F j)else cu).set (i+0) (aJ s)=FF n F i s:=by
 rw[eX]
 refine aX fun j _=>?_
 simp only[bz,Nat.add_zero]
 by_cases e:j=i
 ·rw[if_pos e,if_neg (by omega),if_pos e]
 ·rw[if_neg e]
  by_cases e2:j<i
  ·rw[if_pos e2,if_pos e2]
  ·rw[if_neg e2,if_neg e2,if_neg e]
theorem Dh {n i:Nat} {F:Nat->Rat} {s s':Rat}:(FF n F i s).set (i+0) (aJ s')=FF n F i s':=by
 rw[eX]
 refine aX fun j _=>?_
 simp only[bz,Nat.add_zero]
 by_cases e:j=i
 ·rw[if_pos e,if_neg (by omega),if_pos e]
 ·rw[if_neg e]
  by_cases e2:j<i
  ·rw[if_pos e2,if_pos e2]
  ·rw[if_neg e2,if_neg e2,if_neg e,if_neg e]
theorem zJ {n i:Nat} {F:Nat->Rat}:FF n F i (F i)=fl n fun j=>if j<i+1 then aJ (F j)else cu:=aX fun j _=>by
 by_cases e:j=i
 ·rw[if_neg (by omega),if_pos e,if_pos (by omega),e]
 ·by_cases e2:j<i
  ·rw[if_pos e2,if_pos (by omega)]
  ·rw[if_neg e2,if_neg e,if_neg (by omega)]
theorem DT {n i:Nat} {F:Nat->Rat} {s:Rat} (h:i<n):(FF n F i s)[i+0]?=some (aJ s):=by
 rw[Nat.add_zero,cU h,if_neg (Nat.lt_irrefl i),if_pos rfl]
theorem BT {n:Nat} {F:Nat->Rat}:(fl n fun j=>if j<n then aJ (F j)else cu)=bd (ar n F):=by
 rw[bd,v5,qS];exact aX fun j hj=>if_pos hj
def Gi (g:GV) (y:Nat->Rat) (i:Nat):Rat:=sm g.n fun k=>ud g i k*y k
theorem rA (m:Nat->Bool) (m':Bool) (g:GV) {b c:Nat} (h:fy g b c) (y:Nat->Rat) (ht:¬(kR g.A g.n/\kR g.B g.n)):au Tryz.prog 212 [cG m g,ah m' (ar g.n y)] (.bq [.p (ah false []),.p (.int .i64 9)]) []:=by
 have hk:=h.k5
 have h6:=h.n6
 refine aa (wr:=a9) a6 mixed Tryz.func212 (by kernel_rfl) rfl (by kernel_rfl) (af rfl) (by simp) ?_
 refine ag.yes (kV (by omega)) ?_
 refine SZ.mk (g.n:Int) (by simp[ar]) ?_
 refine ag.no (f0 rfl) ?_
 refine ab.bg (uj m g h ht) (fun _=>rfl) ?_
 refine ag.yes (rfl) ?_
 exact aq.pure (.bq rfl fun i c d e1 e2=>by
  match i,e1,e2 with
  |0,e1,e2=>cases e1;cases e2;exact .emp 3
  |1,e1,e2=>cases e1;cases e2;exact .p _ (.int _ _))
theorem vM {g:GV} {b c:Nat} (h:fy g b c) {i k:Nat} (hi:i<g.n) (hk:k<g.n):Bz (ud g i k) 5400:=(Cn h hi hk g.n (Nat.le_refl _)).mono (by have:=h.n6;omega)
abbrev B7 (n:Nat) (q:Rat):List AV:=[.vec (.t 1) 1 0 n,.p (.bool (decide (q.num<0))),.p (bC q.num.natAbs),.p (bC q.den)]
abbrev jb (n w:Nat) (G:Nat->Nat->Rat) (s:Nat->Nat) (q:Rat):List aC:=[.box 209 (B7 n q),.rows 24 (cZ 2 w n s),.bt 38 3 (cY n w G)]
theorem wR {n w:Nat} {G':Nat->Nat->Rat} {s':Nat->Nat} {q':Rat} {H:Hp} (hH:H.take 3=jb n w G' s' q'):∀(i h:Nat) B,[0,1,2][i]?=some h->(jb n w G' s' q')[i]?=some B->g7 [0,1,2] H (H.getD h .free) B:=fun i h B e1 e2=>by
 have get:∀i,i<3->H.getD i .free=(jb n w G' s' q').getD i .free:=fun i hi=>by
  rw[<-hH];simp[List.getD,List.getElem?_take_of_lt hi]
 have g0:H.getD 0 .free= .box 209 (B7 n q'):=get 0 (by decide)
 have g1:H.getD 1 .free= .rows 24 (cZ 2 w n s'):=get 1 (by decide)
 have g2:H.getD 2 .free= .bt 38 3 (cY n w G'):=get 2 (by decide)
 match i,e1,e2 with
 |0,e1,e2=>
  cases e1;cases e2;rw[g0]
  refine .box (fun d hd=>by simp only[B7,List.mem_cons,List.not_mem_nil,or_false]at hd;rcases hd with rfl|rfl|rfl|rfl<;>rfl) rfl fun b c d e1 e2=>?_
  match b,e1,e2 with
  |0,e1,e2=>cases e1;cases e2;exact .vec rfl
  |1,e1,e2=>cases e1;cases e2;exact .p _ (.bool _)
  |2,e1,e2=>cases e1;cases e2;exact .p _ (.sl _ _ (aP _))
  |3,e1,e2=>cases e1;cases e2;exact .p _ (.sl _ _ (aP _))
 |1,e1,e2=>
  cases e1;cases e2;rw[g1]
  refine .rows (fun d hd=>by obtain⟨i,_,rfl⟩:=dq hd;rfl) rfl fun b c d e1 e2=>?_
  obtain⟨hb,rfl⟩:=bX.1 e1
  obtain⟨_,rfl⟩:=bX.1 e2
  exact .Ba rfl
 |2,e1,e2=>
  cases e1;cases e2;rw[g2]
  exact .bt fun k es hk=>by
   obtain⟨_,h⟩:=bX.1 hk
   cases h;exact aB _
theorem aq.dw {n w:Nat} {G G':Nat->Nat->Rat} {s s':Nat->Nat} {q q':Rat} {H:Hp} {av r:AV} (hH:H.take 3=jb n w G' s' q') (hv:Conv [0,1,2] H av r):aq (jb n w G s q) av H r (jb n w G' s' q'):=by
 have get:∀i,i<3->H.getD i .free=(jb n w G' s' q').getD i .free:=fun i hi=>by
  rw[<-hH];simp[List.getD,List.getElem?_take_of_lt hi]
 have g0:H.getD 0 .free= .box 209 (B7 n q'):=get 0 (by decide)
 have g1:H.getD 1 .free= .rows 24 (cZ 2 w n s'):=get 1 (by decide)
 have g2:H.getD 2 .free= .bt 38 3 (cY n w G'):=get 2 (by decide)
 have key:∀h:Hd,look (jb n w G s q) h≠ .free->(look H h).live\/(h= .t 2/\look H h≠ .free):=fun h hh=>by
  have hk:=cD hh
  have hk:h.key<3:=hk
  cases h with
  |t i=>
   simp only[look]
   have hk:i<3:=hk
   match i,hk with
   |0,_=>rw[g0];exact .inl trivial
   |1,_=>rw[g1];exact .inl trivial
   |2,_=>rw[g2];exact .inr ⟨rfl,fun e=>by cases e⟩
  |r i k=>
   have hk:i<3:=hk
   match i,hk with
   |0,_=>exact absurd rfl hh
   |1,_=>exact absurd rfl hh
   |2,_=>
    have hkn:k<n:=by
     apply Classical.byContradiction
     intro hkn
     refine hh ?_
     show(aC.bt 38 3 (cY n w G)).row k= .free
     simp only[aC.row]
     rw[List.getElem?_eq_none (by simp;omega)]
    left
    simp only[look]
    rw[g2]
    simp only[aC.row]
    rw[cU hkn];trivial
 refine .mk [0,1,2] rfl (by decide) rfl (Nat.le_refl _) (fun h hh=>?_) (fun h hh=>?_) (wR hH) hv
 ·rcases key h (aC.bQ hh)with h1|⟨rfl,_⟩
  ·exact h1
  ·exact hh.elim
 ·rcases key h hh with h1|⟨_,h1⟩
  ·exact aC.bQ h1
  ·exact h1
theorem ab.dw {P:Program} {f:FuncId} {L:Hd->aC} {base n w:Nat} {K:AV->List (Hd×aC)->Prop} {G G':Nat->Nat->Rat} {s s':Nat->Nat} {q q':Rat} {r:AV} {pvs:List PV}
  (hc:cw P f (.aF 0 0::pvs.map .p) (jb n w G s q) r (jb n w G' s' q')) (hr:∀ρ,r.cE ρ=r) (hb:3<=base)
  (e0:L (.t 0)= .box 209 (B7 n q)/\∀k,L (.r 0 k)= .free) (e1:L (.t 1)= .rows 24 (cZ 2 w n s)/\∀k,L (.r 1 k)= .free) (e2:L (.t 2)= .dead/\∀k,L (.r 2 k)=(aC.bt 38 3 (cY n w G)).row k)
  (hk:K r [(.t 0,.box 209 (B7 n q')),(.t 1,.rows 24 (cZ 2 w n s')),(.t 2,.bt 38 3 (cY n w G'))]) {raw:List AV}:ab P true f raw (.aF 0 0::pvs.map .p) L base K:=by
 have hρ:∀k,bn [0,1,2] base (.r 2 k)= .r 2 k:=fun k=>rfl
 refine .mk [0,1,2] (.aF 0 0::pvs.map .p) r (jb n w G s q) (jb n w G' s' q') (fun e=>by cases e) (by decide) (fun h hh=>by simp only[List.mem_cons,List.not_mem_nil,or_false]at hh;omega) (by
   show AV.aF 0 0::AV.cz _ (pvs.map .p)=_
   rw[AV.bJ,List.map_map];exact congrArg _ (List.map_congr_left fun _ _=>rfl)) rfl (fun i h B g1 g2=>?_)
  (fun B hB=>by simp only[jb,List.mem_cons,List.not_mem_nil,or_false]at hB;rcases hB with rfl|rfl|rfl<;>exact⟨fun e=>by(cases e),fun e=>by(cases e)⟩)
  (fun B hB k hk=>?_) (Nat.le_refl _) (fun B hB=>by simp only[jb,List.mem_cons,List.not_mem_nil,or_false]at hB;rcases hB with rfl|rfl|rfl<;>exact fun e=>by(cases e))
  (fun a ha k hk=>by
   rcases List.mem_cons.1 ha with rfl|ha
   ·simp only[AV.aU]at hk;subst hk;decide
   ·obtain⟨v,_,rfl⟩:=List.mem_map.1 ha;simp only[AV.aU]at hk) hc ?_
 ·match i,g1,g2 with
  |0,g1,g2=>cases g1;cases g2;exact e0
  |1,g1,g2=>
   cases g1;cases g2
   refine⟨?_,e1.2⟩
   show _=aC.rows _ (AV.cz _ _)
   rw[ru hρ];exact e1.1
  |2,g1,g2=>cases g1;cases g2;exact e2
 ·simp only[jb,List.mem_cons,List.not_mem_nil,or_false]at hB
  rcases hB with rfl|rfl|rfl
  ·simp only[aC.aU,B7,AV.bo,AV.aU,or_false,false_or]at hk
   subst hk;decide
  ·simp only[aC.aU,AV.cp]at hk
   obtain⟨c,hc,hk⟩:=hk
   obtain⟨i,_,rfl⟩:=dq hc
   simp only[AV.aU]at hk
   subst hk;exact(by decide:2<3)
  ·exact hk.elim
 ·rw[hr]
  show K r [_,(_,aC.rows _ (AV.cz _ _)),_]
  rw[ru hρ]
  exact hk
abbrev CK (n:Nat) (q:Rat):List AV:=[.vec (.t 2) 1 0 n,.p (.bool (decide (q.num<0))),.p (bC q.num.natAbs),.p (bC q.den)]
theorem ab.Hm {P:Program} {f:FuncId} {L:Hd->aC} {base n w:Nat} {K:AV->List (Hd×aC)->Prop} {G G':Nat->Nat->Rat} {s s':Nat->Nat} {q q':Rat} {r:AV} {pvs:List PV}
  (hc:cw P f (.aF 0 0::pvs.map .p) (jb n w G s q) r (jb n w G' s' q')) (hr:∀ρ,r.cE ρ=r) (hb:4<=base)
  (e0:L (.t 1)= .box 209 (CK n q)/\∀k,L (.r 1 k)= .free) (e1:L (.t 2)= .rows 24 (cZ 3 w n s)/\∀k,L (.r 2 k)= .free) (e2:L (.t 3)= .dead/\∀k,L (.r 3 k)=(aC.bt 38 3 (cY n w G)).row k)
  (hk:K r [(.t 1,.box 209 (CK n q')),(.t 2,.rows 24 (cZ 3 w n s')),(.t 3,.bt 38 3 (cY n w G'))]) {raw:List AV}:ab P true f raw (.aF 1 0::pvs.map .p) L base K:=by
 have hρ:∀s,AV.cz (bn [1,2,3] base) (cZ 2 w n s)=cZ 3 w n s:=fun s=>by
  rw[eu];exact aX fun i _=>rfl
 refine .mk [1,2,3] (.aF 0 0::pvs.map .p) r (jb n w G s q) (jb n w G' s' q') (fun e=>by cases e) (by decide) (fun h hh=>by simp only[List.mem_cons,List.not_mem_nil,or_false]at hh;omega) (by
   show AV.aF 1 0::AV.cz _ (pvs.map .p)=_
   rw[AV.bJ,List.map_map];exact congrArg _ (List.map_congr_left fun _ _=>rfl)) rfl (fun i h B g1 g2=>?_)
  (fun B hB=>by simp only[jb,List.mem_cons,List.not_mem_nil,or_false]at hB;rcases hB with rfl|rfl|rfl<;>exact⟨fun e=>by(cases e),fun e=>by(cases e)⟩)
  (fun B hB k hk=>?_) (Nat.le_refl _) (fun B hB=>by simp only[jb,List.mem_cons,List.not_mem_nil,or_false]at hB;rcases hB with rfl|rfl|rfl<;>exact fun e=>by(cases e))
  (fun a ha k hk=>by
   rcases List.mem_cons.1 ha with rfl|ha
   ·simp only[AV.aU]at hk;subst hk;decide
   ·obtain⟨v,_,rfl⟩:=List.mem_map.1 ha;simp only[AV.aU]at hk) hc ?_
 ·match i,g1,g2 with
  |0,g1,g2=>cases g1;cases g2;exact e0
  |1,g1,g2=>
   cases g1;cases g2
   refine⟨?_,e1.2⟩
   show _=aC.rows _ (AV.cz _ _)
   rw[hρ];exact e1.1
  |2,g1,g2=>cases g1;cases g2;exact e2
 ·simp only[jb,List.mem_cons,List.not_mem_nil,or_false]at hB
  rcases hB with rfl|rfl|rfl
  ·simp only[aC.aU,B7,AV.bo,AV.aU,or_false,false_or]at hk
   subst hk;decide
  ·simp only[aC.aU,AV.cp]at hk
   obtain⟨c,hc,hk⟩:=hk
   obtain⟨i,_,rfl⟩:=dq hc
   simp only[AV.aU]at hk
   subst hk;exact(by decide:2<3)
  ·exact hk.elim
 ·rw[hr]
  show K r [_,(_,aC.rows _ (AV.cz _ _)),_]
  rw[hρ]
  exact hk
theorem gH (q:Rat):au Tryz.prog 243 [aJ q] (.p (.bool (decide (q=0)))) []:=by
 refine aa (wr:=a9) a6 mixed Tryz.func243 (by kernel_rfl) rfl (by kernel_rfl) (af rfl) (by simp) ?_
 refine SZ.mk (aL q.num.natAbs:Int) (by simp) ?_
 by_cases h:q=0
 ·refine ag.yes (kV (by rw[BQ h];rfl)) ?_
  rw[decide_eq_true h]
  exact aq.pure (.tf _)
 ·refine ag.no (kL (by have:=zF h;omega)) ?_
  rw[decide_eq_false h]
  exact aq.pure (.tf _)
theorem AW:au Tryz.prog 219 [] (.p (aJ 1)) []:=by
 refine aa (wr:=a9) a6 mixed Tryz.func219 (by kernel_rfl) rfl (by kernel_rfl) (af rfl) (by simp) ?_
 refine aq.pure ?_
 rw[gv]
 exact f8 ⟨rfl,rfl,rfl⟩ (.p _ (.bool _)) (iu rfl) (iu rfl)
theorem AO (n w at' j:Nat) (G B:Nat->Nat->Rat) (s:Nat->Nat) (q:Rat) (ha:at'<=n) (hj:j<w) (hn:n<=1000) (hs:∀i,i<n->s i<n) (hG:∀i k,i<n->k<w->G (s i) k=B i k) (hp:pv B j n at'=n):
  cw Tryz.prog 220 [.aF 0 0,.p (.int .i64 (at':Int)),.p (.int .i64 (j:Int))] (jb n w G s q) (.p (.bool false)) (jb n w G s q):=by
 obtain⟨_,_,p3,_⟩:=nr (A:=B) (j:=j) ha
 rw[hp]at p3
 refine aa (wr:=a9) a6 mixed Tryz.func220 (by kernel_rfl) rfl (by kernel_rfl) (af rfl) (by simp) ?_
 refine aM.mk Nat (fun i=>([(0,.aF 0 0),(1,.p (.int .i64 at')),(2,.p (.int .i64 j)),(7,.p (.int .i64 (i:Nat)))],jb n w G s q))
  (fun i=>at'<=i/\i<=n) (fun i=>n-i) at' [0,1,2] ⟨Nat.le_refl _,ha⟩ ⟨rfl,by simp,rfl,rfl,rfl,⟨rfl,rfl,rfl,rfl,trivial⟩,⟨rfl,congrArg _ (aZ 2 rfl (by decide)),rfl,aV fun q hq=>by simpa[aN]using hs q hq,by simp,trivial⟩⟩ ?_
 intro i ⟨h1,h2⟩
 refine SZ.mk (n:Int) rfl ?_
 by_cases hin:i<n
 ·refine ag.yes (decide_eq_true (by omega)) ?_
  refine aI.mk i rfl hin ?_
  refine cq.cZ (i+0) rfl hin ?_
  refine aI.mk j rfl hj ?_
  refine fX.cY (hs _ hin)<|aG.rv (j+0) (B i j) rfl hj (hG i j hin hj) ?_
  have hz:au Tryz.prog 243 [aJ (B i j)] (.p (.bool true)) []:=by
   have:=gH (B i j)
   rwa[decide_eq_true (p3 i h1 hin)]at this
  refine ab.pure (hz) ?_
  refine a8.mk (fun _=>?_) (fun h=>by cases h)
  refine ae.ao ((i+1:Nat):Int) (by omega) (by omega) ?_
  exact⟨i+1,[0,1,2],⟨by omega,hin⟩,by show n-(i+1)<n-i;omega,⟨rfl,by simp,rfl,rfl,rfl,⟨rfl,rfl,rfl,rfl,trivial⟩,⟨rfl,congrArg _ (aZ 2 rfl (by decide)),rfl,aV fun q hq=>by simpa[aN]using hs q hq,by simp,trivial⟩⟩⟩
 ·refine ag.no (decide_eq_false (by omega)) ?_
  exact aq.dw rfl (.tf _)
theorem BM (n w at' j p:Nat) (G B:Nat->Nat->Rat) (s:Nat->Nat) (q:Rat) {D Q:Nat} (ha:at'<=n) (hj:j<w) (hn:n<=1000) (hs:∀i,i<n->s i<n) (hG:∀i k,i<n->k<w->G (s i) k=B i k) (hp:pv B j n at'=p) (hpn:p<n)
  (hB:∀i k,i<n->k<w->Bz (B i k) D) (hq:Bz q Q) (hD:D+Q<=1000000000):
  cw Tryz.prog 220 [.aF 0 0,.p (.int .i64 (at':Int)),.p (.int .i64 (j:Int))] (jb n w G s q) (.p (.bool true)) (jb n w G (nG s at' p) ((if p=at' then q else-q)*B p j)):=by
 obtain⟨p1,_,p3,p4⟩:=nr (A:=B) (j:=j) ha
 rw[hp]at p1 p3 p4
 have p4:B p j≠0:=p4.resolve_left (by omega)
 have haN:at'<n:=by omega
 have zp:=hB p j hpn hj
 refine aa (wr:=a9) a6 mixed Tryz.func220 (by kernel_rfl) rfl (by kernel_rfl) (af rfl) (by simp) ?_
 refine aM.mk Nat (fun i=>([(0,.aF 0 0),(1,.p (.int .i64 at')),(2,.p (.int .i64 j)),(7,.p (.int .i64 (i:Nat)))],jb n w G s q))
  (fun i=>at'<=i/\i<=p) (fun i=>n-i) at' [0,1,2] ⟨Nat.le_refl _,p1⟩ ⟨rfl,by simp,rfl,rfl,rfl,⟨rfl,rfl,rfl,rfl,trivial⟩,⟨rfl,congrArg _ (aZ 2 rfl (by decide)),rfl,aV fun q hq=>by simpa[aN]using hs q hq,by simp,trivial⟩⟩ ?_
 intro i ⟨h1,h2⟩
 refine SZ.mk (n:Int) rfl ?_
 have hin:i<n:=by omega
 refine ag.yes (decide_eq_true (by omega)) ?_
 refine aI.mk i rfl hin ?_
 refine cq.cZ (i+0) rfl hin ?_
 refine aI.mk j rfl hj ?_
 refine fX.cY (hs _ hin)<|aG.rv (j+0) (B i j) rfl hj (hG i j hin hj) ?_
 by_cases hip:i<p
 ·have hz:au Tryz.prog 243 [aJ (B i j)] (.p (.bool true)) []:=by
   have:=gH (B i j)
   rwa[decide_eq_true (p3 i h1 hip)]at this
  refine ab.pure (hz) ?_
  refine a8.mk (fun _=>?_) (fun h=>by cases h)
  refine ae.ao ((i+1:Nat):Int) (by omega) (by omega) ?_
  exact⟨i+1,[0,1,2],⟨by omega,hip⟩,by show n-(i+1)<n-i;omega,⟨rfl,by simp,rfl,rfl,rfl,⟨rfl,rfl,rfl,rfl,trivial⟩,⟨rfl,congrArg _ (aZ 2 rfl (by decide)),rfl,aV fun q hq=>by simpa[aN]using hs q hq,by simp,trivial⟩⟩⟩
 ·obtain rfl:i=p:=by omega
  have hz:au Tryz.prog 243 [aJ (B i j)] (.p (.bool false)) []:=by
   have:=gH (B i j)
   rwa[decide_eq_false p4]at this
  refine ab.pure (hz) ?_
  refine a8.mk (fun h=>by cases h) (fun _=>?_)
  by_cases e:i=at'
  ·subst e
   rw[if_pos rfl,Ch]
   refine ag.no (f0 rfl) ?_
   refine aO.cM (by kernel_rfl) ?_
   repeat refine aj.mk _ _ (And.intro rfl rfl) rfl ?_
   refine aj.mk _ _ (aI.mk i rfl hin (And.intro rfl rfl)) rfl ?_
   refine aj.mk _ _ (cq.cZ (i+0) rfl hin (And.intro rfl rfl)) rfl ?_
   repeat refine aj.mk _ _ (And.intro rfl rfl) rfl ?_
   refine aj.mk _ _ (aI.mk j rfl hj (And.intro rfl rfl)) rfl ?_
   refine aj.mk _ _ (fX.cY (hs _ hin)<|aG.rv (j+0) (B i j) rfl hj (hG i j hin hj) (And.intro rfl rfl)) rfl ?_
   refine aj.mk _ _ (ab.pure (b9 _ _ hq.sz zp.sz (by omega)) (And.intro rfl rfl)) rfl ?_
   repeat refine aj.mk _ _ (And.intro rfl rfl) rfl ?_
   refine br.mk (by kernel_rfl) ?_
   exact aq.dw rfl (.tf _)
  ·rw[if_neg e]
   have hs':=vB (p:=at') (k:=i) hs haN hin
   have eg:G (bz (bz s i (s at')) at' (s i) at') j=B i j:=by
    rw[iU]
    show G (s (if at'=at' then i else if at'=i then at' else at')) j=_
    rw[if_pos rfl];exact hG i j hin hj
   have el:bz (bz s i (s at')) at' (s i) at'<n:=by rw[iU];exact hs' at' haN
   refine ag.yes (vK (by omega)) ?_
   refine aO.cM (by kernel_rfl) ?_
   repeat refine aj.mk _ _ (And.intro rfl rfl) rfl ?_
   refine aj.mk _ _ (aI.mk at' rfl haN (And.intro rfl rfl)) rfl ?_
   refine aj.mk _ _ (cq.cZ (at'+0) rfl haN (And.intro rfl rfl)) rfl ?_
   repeat refine aj.mk _ _ (And.intro rfl rfl) rfl ?_
   refine aj.mk _ _ (aI.mk i rfl hin (And.intro rfl rfl)) rfl ?_
   refine aj.mk _ _ (cq.cZ (i+0) rfl hin (And.intro rfl rfl)) rfl ?_
   refine aj.mk _ _ (aI.mk i rfl hin (And.intro rfl rfl)) rfl ?_
   refine aj.mk _ _ (bT.cZ hin<|pT.cZ (And.intro rfl rfl)) rfl ?_
   refine aj.mk _ _ (aI.mk at' rfl haN (And.intro rfl rfl)) rfl ?_
   refine aj.mk _ _ (bT.cZ haN<|pT.cZ (And.intro rfl rfl)) rfl ?_
   refine br.mk (by kernel_rfl) ?_
   refine ab.pure (rF q (by have:=hq.sz.1;omega) (by have:=hq.sz.2;omega)) ?_
   rw[<-iU]
   refine aO.cM (by kernel_rfl) ?_
   repeat refine aj.mk _ _ (And.intro rfl rfl) rfl ?_
   refine aj.mk _ _ (aI.mk at' rfl haN (And.intro rfl rfl)) rfl ?_
   refine aj.mk _ _ (cq.cZ (at'+0) rfl haN (And.intro rfl rfl)) rfl ?_
   repeat refine aj.mk _ _ (And.intro rfl rfl) rfl ?_
   refine aj.mk _ _ (aI.mk j rfl hj (And.intro rfl rfl)) rfl ?_
   refine aj.mk _ _ (fX.cY el<|aG.rv (j+0) (B i j) rfl hj eg (And.intro rfl rfl)) rfl ?_
   refine aj.mk _ _ (ab.pure (b9 _ _ hq.neg.sz zp.sz (by omega)) (And.intro rfl rfl)) rfl ?_
   repeat refine aj.mk _ _ (And.intro rfl rfl) rfl ?_
   refine br.mk (by kernel_rfl) ?_
   exact aq.dw rfl (.tf _)
structure kq (n:Nat) (s:Nat->Nat):Prop where
 lt:∀i,i<n->s i<n
 inj:∀i j,i<n->j<n->s i=s j->i=j
 Gw:∀r,r<n->∃t,t<n/\s t=r
theorem kq.sw {n p k:Nat} {s:Nat->Nat} (h:kq n s) (hp:p<n) (hk:k<n):kq n (nG s p k) where
 lt:=vB h.lt hp hk
 inj:=fun i j hi hj e=>by
  have:=h.inj _ _ (dH hp hk hi) (dH hp hk hj) e
  split at this<;>split at this<;>(try split at this)<;>(try split at this)<;>omega
 Gw:=fun r hr=>by
  obtain⟨t,ht,e⟩:=h.Gw r hr
  refine⟨if t=p then k else if t=k then p else t,dH hp hk ht,?_⟩
  rw[<-e]
  unfold nG
  congr 1
  (repeat' split)<;>omega
theorem kq.id (n:Nat):kq n _root_.id:=⟨fun _ h=>h,fun _ _ _ _ e=>e,fun r h=>⟨r,h,rfl⟩⟩
def iN (B:Nat->Nat->Rat) (r j i:Nat) (k:Nat):Rat:=if j<=k then B i k-B i j/B r j*B r k else B i k
def DB (B:Nat->Nat->Rat) (s:Nat->Nat) (r j:Nat) (G:Nat->Nat->Rat):Nat->Nat->Nat->Rat
 |0=>G
 |i+1=>if i=r then DB B s r j G i else bz (DB B s r j G i) (s i) (iN B r j i)
theorem AX {n w r j:Nat} {B G:Nat->Nat->Rat} {s:Nat->Nat} (hs:kq n s) (hG:∀t x,t<n->x<w->G (s t) x=B t x):∀i,i<=n->∀t x,t<n->x<w->DB B s r j G i (s t) x=if t<i/\t≠r then iN B r j t x else B t x:=by
 intro i
 induction i with
 |zero=>intro _ t x ht hx;rw[if_neg (by omega)];exact hG t x ht hx
 |succ i ih=>
  intro hi t x ht hx
  unfold DB
  by_cases e:i=r
  ·rw[if_pos e,ih (by omega) t x ht hx]
   by_cases c:t<i/\t≠r
   ·rw[if_pos c,if_pos (by omega)]
   ·rw[if_neg c,if_neg (by omega)]
  ·rw[if_neg e]
   unfold bz
   by_cases e2:s t=s i
   ·obtain rfl:=hs.inj t i ht (by omega) e2
    rw[if_pos rfl,if_pos (by omega)]
   ·have e3:t≠i:=fun h=>e2 (by rw[h])
    rw[if_neg e2,ih (by omega) t x ht hx]
    by_cases c:t<i/\t≠r
    ·rw[if_pos c,if_pos (by omega)]
    ·rw[if_neg c,if_neg (by omega)]
structure Ew where
 B:Nat->Nat->Rat
 G:Nat->Nat->Rat
 s:Nat->Nat
 q:Rat
 r:Nat
def tJ (B:Nat->Nat->Rat) (r j:Nat) (i k:Nat):Rat:=if i=r then B i k else iN B r j i k
def Fz (n j:Nat) (t:Ew):Ew:=
 if n<=pv t.B j n t.r then t else
  ⟨tJ (dU t.B (pv t.B j n t.r) t.r) t.r j,DB (dU t.B (pv t.B j n t.r) t.r) (nG t.s t.r (pv t.B j n t.r)) t.r j t.G n,nG t.s t.r (pv t.B j n t.r),(if pv t.B j n t.r=t.r then t.q else-t.q)*t.B (pv t.B j n t.r) j,t.r+1⟩
def Ct (n:Nat) (A:Nat->Nat->Rat):Nat->Ew
 |0=>⟨A,A,id,1,0⟩
 |j+1=>Fz n j (Ct n A j)
structure FI (n w j:Nat) (t:Ew) (D Q:Nat):Prop where
 ps:kq n t.s
 hG:∀i x,i<n->x<w->t.G (t.s i) x=t.B i x
 hB:∀i x,i<n->x<w->Bz (t.B i x) D
 hq:Bz t.q Q
 rj:t.r<=j
 rn:t.r<=n
 nz:t.r=j->∀i,i<j->t.B i i≠0
theorem FI.sw {n w j p:Nat} {t:Ew} {D Q:Nat} (h:FI n w j t D Q) (hr:t.r<n) (hp:p<n):kq n (nG t.s t.r p)/\∀i x,i<n->x<w->t.G (nG t.s t.r p i) x=dU t.B p t.r i x:=by
 refine⟨h.ps.sw hr hp,fun i x hi hx=>?_⟩
 unfold nG dU
 rw[h.hG _ x (dH hr hp hi) hx]
 congr 1
 split
 ·split<;>omega
 ·split<;>(try split)<;>omega
theorem FI.next {n w j:Nat} {t:Ew} {D Q:Nat} (h:FI n w j t D Q) (hj:j<w) (hjn:j<n) (d1:1<=D):FI n w (j+1) (Fz n j t) (4*D+1) (Q+D):=by
 have hr:t.r<n:=by have:=h.rj;omega
 obtain⟨p1,p2,p3,p4⟩:=nr (A:=t.B) (j:=j) h.rn
 unfold Fz
 by_cases hp:n<=pv t.B j n t.r
 ·rw[if_pos hp]
  exact⟨h.ps,h.hG,fun i x hi hx=>(h.hB i x hi hx).mono (by omega),h.hq.mono (by omega),by have:=h.rj;omega,h.rn,fun e=>by have:=h.rj;omega⟩
 ·rw[if_neg hp]
  generalize hpe:pv t.B j n t.r=p at p1 p2 p3 p4 hp
  have hpn:p<n:=by omega
  obtain⟨q1,q2⟩:=h.sw hr hpn
  have p4:t.B p j≠0:=p4.resolve_left (by omega)
  have zs:∀i x,i<n->x<w->Bz (dU t.B p t.r i x) D:=fun i x hi hx=>h.hB _ x (dH hpn hr hi) hx
  have er:∀x,dU t.B p t.r t.r x=t.B p x:=fun x=>by rw[rU]
  refine⟨q1,fun i x hi hx=>?_,fun i x hi hx=>?_,?_,by have:=h.rj;show t.r+1<=j+1;omega,hr,fun e i hi=>?_⟩
  ·show DB _ _ _ _ _ n (nG t.s t.r p i) x=tJ _ _ _ i x
   rw[AX q1 q2 n (Nat.le_refl _) i x hi hx]
   unfold tJ
   by_cases e:i=t.r
   ·rw[if_neg (by omega),if_pos e]
   ·rw[if_pos ⟨hi,e⟩,if_neg e]
  ·show Bz (tJ _ _ _ i x) _
   unfold tJ iN
   split
   ·exact(zs i x hi hx).mono (by omega)
   ·split
    ·exact((zs i x hi hx).sub (((zs i j hi hj).div (zs t.r j hr hj)).mul (zs t.r x hr hx))).mono (by omega)
    ·exact(zs i x hi hx).mono (by omega)
  ·show Bz ((if p=t.r then t.q else-t.q)*t.B p j) _
   split
   ·exact h.hq.mul (h.hB p j hpn hj)
   ·exact h.hq.neg.mul (h.hB p j hpn hj)
  ·have e:t.r+1=j+1:=e
   have er':t.r=j:=by omega
   show tJ _ _ _ i i≠0
   unfold tJ
   by_cases ei:i=t.r
   ·rw[if_pos ei,ei,er];rw[er'];exact p4
   ·rw[if_neg ei]
    unfold iN
    rw[if_neg (by omega)]
    unfold dU
    rw[if_neg (by omega),if_neg ei]
    exact h.nz er' i (by omega)
def zj (D:Nat):Nat->Nat
 |0=>D
 |j+1=>4*zj D j+1
def GC (D:Nat):Nat->Nat
 |0=>1
 |j+1=>GC D j+zj D j
theorem By {D:Nat}:∀j,D<=zj D j
 |0=>Nat.le_refl _
 |j+1=>by have:=By (D:=D) j;simp only[zj];omega
theorem jZ {n w D:Nat} {A:Nat->Nat->Rat} (hA:∀i x,i<n->x<w->Bz (A i x) D) (d1:1<=D) (hw:n<=w):∀j,j<=n->FI n w j (Ct n A j) (zj D j) (GC D j):=by
 intro j
 induction j with
 |zero=>exact fun _=>⟨kq.id n,fun i x _ _=>rfl,hA,cR,Nat.le_refl _,Nat.zero_le _,fun _ i hi=>absurd hi (Nat.not_lt_zero _)⟩
 |succ j ih=>exact fun hj=>(ih (by omega)).next (by omega) (by omega) (Nat.le_trans d1 (By j))
theorem x7 (n w i r j:Nat) (G B:Nat->Nat->Rat) (s:Nat->Nat) (q:Rat) {D:Nat} (hi:i<n) (hr:r<n) (hir:i≠r) (hj:j<w) (hn:n<=1000) (hw:w<=1000) (ps:kq n s) (hG:∀t x,t<n->x<w->G (s t) x=B t x) (hB:∀t x,t<n->x<w->Bz (B t x) D) (hD:D<=100000000) (hp:B r j≠0):
  cw Tryz.prog 221 [.aF 0 0,.p (.int .i64 (i:Int)),.p (.int .i64 (r:Int)),.p (.int .i64 (j:Int))] (jb n w G s q) (.bq []) (jb n w (bz G (s i) (iN B r j i)) s q):=by
 obtain⟨hs,inj,Gw⟩:=id ps
 have fin:∀G2:Nat->Nat->Rat,(∀t x,t<n->x<w->G2 (s t) x=if t=i then iN B r j i x else B t x)->cY n w G2=cY n w (bz G (s i) (iN B r j i)):=fun G2 h=>p9 fun a x ha hx=>by
  obtain⟨t,ht,rfl⟩:=Gw a ha
  rw[h t x ht hx]
  unfold bz
  by_cases e:t=i
  ·rw[if_pos e,if_pos (by rw[e])]
  ·rw[if_neg e,if_neg (fun h=>e (inj t i ht hi h)),hG t x ht hx]
 have z1:=hB i j hi hj
 have z2:=hB r j hr hj
 have zq:=z1.div z2
 have hq:=fY (B i j) (B r j) hp z1.sz z2.sz (by omega)
 obtain⟨Q,hQ⟩:∃Q,Q=B i j/B r j:=⟨_,rfl⟩
 rw[<-hQ]at zq hq
 refine aa (wr:=a9) a6 mixed Tryz.func221 (by kernel_rfl) rfl (by kernel_rfl) (af rfl) (by simp) ?_
 refine aO.cM (by kernel_rfl) ?_
 repeat refine aj.mk _ _ (And.intro rfl rfl) rfl ?_
 refine aj.mk _ _ (aI.mk i rfl hi (And.intro rfl rfl)) rfl ?_
 refine aj.mk _ _ (cq.cZ (i+0) rfl hi (And.intro rfl rfl)) rfl ?_
 repeat refine aj.mk _ _ (And.intro rfl rfl) rfl ?_
 refine aj.mk _ _ (aI.mk j rfl hj (And.intro rfl rfl)) rfl ?_
 refine aj.mk _ _ (fX.cY (hs _ hi)<|aG.rv (j+0) (B i j) rfl hj (hG i j hi hj) (And.intro rfl rfl)) rfl ?_
 repeat refine aj.mk _ _ (And.intro rfl rfl) rfl ?_
 refine aj.mk _ _ (aI.mk r rfl hr (And.intro rfl rfl)) rfl ?_
 refine aj.mk _ _ (cq.cZ (r+0) rfl hr (And.intro rfl rfl)) rfl ?_
 repeat refine aj.mk _ _ (And.intro rfl rfl) rfl ?_
 refine aj.mk _ _ (aI.mk j rfl hj (And.intro rfl rfl)) rfl ?_
 refine aj.mk _ _ (fX.cY (hs _ hr)<|aG.rv (j+0) (B r j) rfl hj (hG r j hr hj) (And.intro rfl rfl)) rfl ?_
 repeat refine aj.mk _ _ (And.intro rfl rfl) rfl ?_
 refine aj.mk _ _ (ab.bg (hq) (fun _=>rfl) (And.intro rfl rfl)) rfl ?_
 repeat refine aj.mk _ _ (And.intro rfl rfl) rfl ?_
 refine br.mk (by kernel_rfl) ?_
 by_cases q0:Q=0
 ·have hz:au Tryz.prog 243 [aJ Q] (.p (.bool true)) []:=by
   have:=gH Q
   rwa[decide_eq_true q0]at this
  refine ab.pure (hz) ?_
  refine a8.mk (fun _=>?_) (fun h=>by cases h)
  have e:=fin G fun t x ht hx=>by
   rw[hG t x ht hx]
   by_cases e:t=i
   ·rw[if_pos e,e];unfold iN
    split
    ·rw[<-hQ,q0];grind
    ·rfl
   ·rw[if_neg e]
  exact aq.dw (congrArg (fun x=>[aC.box 209 (B7 n q),.rows 24 (cZ 2 w n s),.bt 38 3 x]) e) (.bq rfl fun i c d e=>by simp at e)
 ·have hz:au Tryz.prog 243 [aJ Q] (.p (.bool false)) []:=by
   have:=gH Q
   rwa[decide_eq_false q0]at this
  refine ab.pure (hz) ?_
  refine a8.mk (fun h=>by cases h) (fun _=>?_)
  refine aM.mk (Nat×(Nat->Nat->Rat)) (fun(c,G)=>([(0,.aF 0 0),(1,.p (.int .i64 i)),(2,.p (.int .i64 r)),(8,.aF 3 0),(10,.p (.int .i64 (c:Nat)))],jb n w G s q++[.box 38 (lW Q)]))
   (fun(c,G)=>j<=c/\c<=w/\∀t x,t<n->x<w->G (s t) x=if t=i then(if x<c then iN B r j i x else B i x)else B t x) (fun x=>w-x.1) (j,G) [0,1,2,3]
   ⟨Nat.le_refl _,by omega,fun t x ht hx=>by
    rw[hG t x ht hx]
    by_cases e:t=i
    ·rw[if_pos e,e]
     split
     ·unfold iN;rw[if_neg (by omega)]
     ·rfl
    ·rw[if_neg e]⟩ ⟨rfl,by simp,rfl,rfl,rfl,⟨rfl,rfl,rfl,rfl,rfl,trivial⟩,⟨rfl,congrArg _ (aZ 2 rfl (by decide)),rfl,rfl,aV fun q hq=>by simpa[aN]using hs q hq,by simp,trivial⟩⟩ ?_
  intro⟨c,G2⟩ ⟨hc0,hc,hG2⟩
  refine aI.mk i rfl hi ?_
  refine cq.cZ (i+0) rfl hi ?_
  refine SZ.mk (w:Int) rfl ?_
  by_cases hcn:c<w
  ·refine ag.yes (decide_eq_true (by omega)) ?_
   have di:G2 (s i) c=B i c:=by rw[hG2 i c hi hcn,if_pos rfl,if_neg (Nat.lt_irrefl c)]
   have dk:G2 (s r) c=B r c:=by rw[hG2 r c hr hcn,if_neg (fun h=>hir h.symm)]
   have z3:=hB i c hi hcn
   have z4:=hB r c hr hcn
   refine aO.cM (by kernel_rfl) ?_
   repeat refine aj.mk _ _ (And.intro rfl rfl) rfl ?_
   refine aj.mk _ _ (aI.mk i rfl hi (And.intro rfl rfl)) rfl ?_
   refine aj.mk _ _ (cq.cZ (i+0) rfl hi (And.intro rfl rfl)) rfl ?_
   repeat refine aj.mk _ _ (And.intro rfl rfl) rfl ?_
   refine aj.mk _ _ (aI.mk i rfl hi (And.intro rfl rfl)) rfl ?_
   refine aj.mk _ _ (cq.cZ (i+0) rfl hi (And.intro rfl rfl)) rfl ?_
   repeat refine aj.mk _ _ (And.intro rfl rfl) rfl ?_
   refine aj.mk _ _ (aI.mk c rfl hcn (And.intro rfl rfl)) rfl ?_
   refine aj.mk _ _ (fX.cY (hs _ hi)<|aG.rv (c+0) (B i c) rfl hcn di (And.intro rfl rfl)) rfl ?_
   repeat refine aj.mk _ _ (And.intro rfl rfl) rfl ?_
   refine aj.mk _ _ (aI.mk r rfl hr (And.intro rfl rfl)) rfl ?_
   refine aj.mk _ _ (cq.cZ (r+0) rfl hr (And.intro rfl rfl)) rfl ?_
   repeat refine aj.mk _ _ (And.intro rfl rfl) rfl ?_
   refine aj.mk _ _ (aI.mk c rfl hcn (And.intro rfl rfl)) rfl ?_
   refine aj.mk _ _ (fX.cY (hs _ hr)<|aG.rv (c+0) (B r c) rfl hcn dk (And.intro rfl rfl)) rfl ?_
   refine aj.mk _ _ (ab.pure (b9 Q (B r c) zq.sz z4.sz (by omega)) (And.intro rfl rfl)) rfl ?_
   refine aj.mk _ _ (ab.pure (cn (B i c) (Q*B r c) z3.sz (zq.mul z4).sz (by omega)) (And.intro rfl rfl)) rfl ?_
   refine aj.mk _ _ (aI.mk c rfl hcn (And.intro rfl rfl)) rfl ?_
   refine aj.mk _ _ (fX.cY (hs _ hi)<|bT.rf (show c+0<w by omega)<|cH.rf (And.intro rfl rfl)) rfl ?_
   refine qq.cY (hs _ hi) ?_
   refine br.mk (by kernel_rfl) ?_
   refine ae.ao ((c+1:Nat):Int) (by omega) (by omega) ?_
   refine⟨(c+1,_),[0,1,2,3],⟨by omega,hcn,?_⟩,by show w-(c+1)<w-c;omega,⟨rfl,by simp,rfl,rfl,rfl,⟨rfl,rfl,rfl,rfl,rfl,trivial⟩,⟨rfl,congrArg _ (aZ 2 rfl (by decide)),rfl,rfl,aV fun q hq=>by simpa[aN]using hs q hq,by simp,trivial⟩⟩⟩
   have st:=p6 (S:=s) (G2:=G2) (G1:=fun t x=>G (t) x) (f:=iN B r j i) (g:=fun x=>B i x) (i:=n) (w:=w) (q:=i) (k:=c) inj hi hcn (v:=B i c-Q*B r c) (fun t x ht hx=>by rw[hG2 t x ht hx,hG t x ht hx]) (by unfold iN;rw[if_pos hc0,hQ])
   intro t x ht hx
   rw[st t x ht hx,hG t x ht hx]
  ·refine ag.no (decide_eq_false (by omega)) ?_
   obtain rfl:c=w:=by omega
   have e:=fin G2 fun t x ht hx=>by
    rw[hG2 t x ht hx]
    by_cases e:t=i
    ·rw[if_pos e,if_pos hx,if_pos e]
    ·rw[if_neg e,if_neg e]
   exact aq.dw (congrArg (fun x=>[aC.box 209 (B7 n q),.rows 24 (cZ 2 c n s),.bt 38 3 x]) e) (.bq rfl fun i c d e=>by simp at e)
abbrev GR:FuncId->Bool:=fun f=>Nat.beq f 220||Nat.beq f 221
theorem yb (n w:Nat) (A:Nat->Nat->Rat) {D:Nat} (hA:∀i x,i<n->x<w->Bz (A i x) D) (d1:1<=D) (hnw:n<=w) (hn:n<=5) (hw:w<=1000) (hD:D<=1000):
  cw Tryz.prog 199 [.aF 0 0,.p (.bool true)] (jb n w A id 1) (.p (.int .i64 ((Ct n A n).r:Nat))) (jb n w (Ct n A n).G (Ct n A n).s (Ct n A n).q):=by
 have inv:=jZ hA d1 hnw
 have dj:∀j,j<=5->zj D j<=2000000:=fun j hj=>by
  have:j=0\/j=1\/j=2\/j=3\/j=4\/j=5:=by omega
  rcases this with rfl|rfl|rfl|rfl|rfl|rfl<;>simp only[zj]<;>omega
 have qj:∀j,j<=5->GC D j<=10000000:=fun j hj=>by
  have:j=0\/j=1\/j=2\/j=3\/j=4\/j=5:=by omega
  rcases this with rfl|rfl|rfl|rfl|rfl|rfl<;>simp only[GC,zj]<;>omega
 refine aa (wr:=GR) a6 mixed Tryz.func199 (by kernel_rfl) rfl (by kernel_rfl) (af rfl) (by simp) ?_
 refine aM.mk (Nat×Ew) (fun(j,t)=>([(0,.aF 0 0),(1,.p (.bool true)),(5,.p (.int .i64 (t.r:Nat))),(6,.p (.int .i64 (j:Nat)))],jb n w t.G t.s t.q))
  (fun(j,t)=>j<=n/\t=Ct n A j) (fun x=>n-x.1) (0,⟨A,A,id,1,0⟩) [0,1,2] ⟨Nat.zero_le _,rfl⟩ ⟨rfl,by simp,rfl,rfl,rfl,⟨rfl,rfl,rfl,rfl,trivial⟩,⟨rfl,congrArg _ (aZ 2 rfl (by decide)),rfl,aV fun q hq=>by simpa[aN,id]using hq,by simp,trivial⟩⟩ ?_
 intro⟨j,t⟩ ⟨hj,ht⟩
 have I:=inv j hj
 have D1:=dj j (by omega)
 have Q1:=qj j (by omega)
 rw[<-ht]at I
 refine SZ.mk (n:Int) rfl ?_
 by_cases hjn:j<n
 ·have hr:t.r<n:=by have:=I.rj;omega
  obtain⟨p1,p2,p3,p4⟩:=nr (A:=t.B) (j:=j) I.rn
  have ej:Ct n A (j+1)=Fz n j t:=by rw[ht];rfl
  refine ag.yes (decide_eq_true (by omega)) ?_
  refine SZ.mk (n:Int) rfl ?_
  refine ag.yes (decide_eq_true (by omega)) ?_
  by_cases hp:n<=pv t.B j n t.r
  ·rw[Fz,if_pos hp]at ej
   refine ab.dw (pvs:=[.int .i64 (t.r:Int),.int .i64 (j:Int)]) (AO n w t.r j t.G t.B t.s t.q I.rn (by omega) (by omega) I.ps.lt I.hG (by omega)) (fun _=>rfl) (by decide) ⟨rfl,fun _=>rfl⟩ ⟨rfl,fun _=>rfl⟩ ⟨rfl,fun _=>rfl⟩ ?_
   refine ag.yes (rfl) ?_
   refine ae.ao ((j+1:Nat):Int) (by omega) (by omega) ?_
   exact⟨(j+1,t),[0,1,2],⟨hjn,ej.symm⟩,by show n-(j+1)<n-j;omega,⟨rfl,by simp,rfl,rfl,rfl,⟨rfl,rfl,rfl,rfl,trivial⟩,⟨rfl,congrArg _ (aZ 2 rfl (by decide)),rfl,aV fun q hq=>by simpa[aN]using I.ps.lt q hq,by simp,trivial⟩⟩⟩
  ·generalize hpe:pv t.B j n t.r=p at p1 p2 p3 p4 hp
   have hpn:p<n:=by omega
   obtain⟨q1,q2⟩:=I.sw hr hpn
   have p4:t.B p j≠0:=p4.resolve_left (by omega)
   rw[Fz,hpe,if_neg hp]at ej
   have zs:∀i x,i<n->x<w->Bz (dU t.B p t.r i x) (zj D j):=fun i x hi hx=>I.hB _ x (dH hpn hr hi) hx
   have er:dU t.B p t.r t.r j≠0:=by rw[rU];exact p4
   refine ab.dw (pvs:=[.int .i64 (t.r:Int),.int .i64 (j:Int)]) (BM n w t.r j p t.G t.B t.s t.q I.rn (by omega) (by omega) I.ps.lt I.hG hpe hpn I.hB I.hq (by omega)) (fun _=>rfl) (by decide) ⟨rfl,fun _=>rfl⟩ ⟨rfl,fun _=>rfl⟩ ⟨rfl,fun _=>rfl⟩ ?_
   refine ag.no (rfl) ?_
   refine SZ.mk (n:Int) rfl ?_
   refine aM.mk (Nat×(Nat->Nat->Rat)) (fun(i,G)=>([(0,.aF 0 0),(1,.p (.bool true)),(5,.p (.int .i64 (t.r:Nat))),(6,.p (.int .i64 (j:Nat))),(35,.p (.int .i64 n)),(36,.p (.int .i64 (i:Nat)))],jb n w G (nG t.s t.r p) ((if p=t.r then t.q else-t.q)*t.B p j)))
    (fun(i,G)=>i<=n/\G=DB (dU t.B p t.r) (nG t.s t.r p) t.r j t.G i) (fun x=>n-x.1) (0,t.G) [0,1,2] ⟨Nat.zero_le _,rfl⟩ ⟨rfl,by simp,rfl,rfl,rfl,⟨rfl,rfl,rfl,rfl,rfl,rfl,trivial⟩,⟨rfl,congrArg _ (aZ 2 rfl (by decide)),rfl,aV fun q hq=>by simpa[aN]using q1.lt q hq,by simp,trivial⟩⟩ ?_
   intro⟨i,G⟩ ⟨hi,hG⟩
   by_cases hin:i<n
   ·have at1:=AX (r:=t.r) (j:=j) q1 q2 i hi
    rw[<-hG]at at1
    refine ag.yes (decide_eq_true (by omega)) ?_
    by_cases e:i=t.r
    ·have eG:G=DB (dU t.B p t.r) (nG t.s t.r p) t.r j t.G (i+1):=by rw[hG];exact(if_pos e).symm
     refine ag.no (decide_eq_false (by omega)) ?_
     refine a8.mk (fun _=>?_) (fun h=>by cases h)
     refine ag.no (decide_eq_false (by omega)) ?_
     refine ae.ao ((i+1:Nat):Int) (by omega) (by omega) ?_
     exact⟨(i+1,G),[0,1,2],⟨hin,eG⟩,by show n-(i+1)<n-i;omega,⟨rfl,by simp,rfl,rfl,rfl,⟨rfl,rfl,rfl,rfl,rfl,rfl,trivial⟩,⟨rfl,congrArg _ (aZ 2 rfl (by decide)),rfl,aV fun q hq=>by simpa[aN]using q1.lt q hq,by simp,trivial⟩⟩⟩
    ·obtain⟨C,hC⟩:∃C:Nat->Nat->Rat,C=fun t' x=>if t'<i/\t'≠t.r then iN (dU t.B p t.r) t.r j t' x else dU t.B p t.r t' x:=⟨_,rfl⟩
     have c1:∀x,C i x=dU t.B p t.r i x:=fun x=>by rw[hC];exact if_neg (by omega)
     have c2:∀x,C t.r x=dU t.B p t.r t.r x:=fun x=>by rw[hC];exact if_neg (by omega)
     have zC:∀a x,a<n->x<w->Bz (C a x) (4*zj D j+1):=fun a x ha hx=>by
      rw[hC]
      show Bz (if a<i/\a≠t.r then iN _ _ _ a x else _) _
      split
      ·unfold iN
       split
       ·exact((zs a x ha hx).sub (((zs a j ha (by omega)).div (zs t.r j hr (by omega))).mul (zs t.r x hr hx))).mono (by omega)
       ·exact(zs a x ha hx).mono (by omega)
      ·exact(zs a x ha hx).mono (by omega)
     have eR:iN C t.r j i=iN (dU t.B p t.r) t.r j i:=funext fun x=>by unfold iN;rw[c1,c1,c2,c2]
     have hc:=x7 n w i t.r j G C (nG t.s t.r p) ((if p=t.r then t.q else-t.q)*t.B p j) hin hr e (by omega) (by omega) hw q1 (fun a x ha hx=>by rw[at1 a x ha hx,hC]) zC (by omega) (by rw[c2];exact er)
     rw[eR]at hc
     have eG:bz G (nG t.s t.r p i) (iN (dU t.B p t.r) t.r j i)=DB (dU t.B p t.r) (nG t.s t.r p) t.r j t.G (i+1):=by rw[hG];exact(if_neg e).symm
     by_cases hgt:t.r<i
     ·refine ag.yes (decide_eq_true (by omega)) ?_
      refine ab.dw (pvs:=[.int .i64 (i:Int),.int .i64 (t.r:Int),.int .i64 (j:Int)]) hc (fun _=>rfl) (by decide) ⟨rfl,fun _=>rfl⟩ ⟨rfl,fun _=>rfl⟩ ⟨rfl,fun _=>rfl⟩ ?_
      refine ae.ao ((i+1:Nat):Int) (by omega) (by omega) ?_
      exact⟨(i+1,_),[0,1,2],⟨hin,eG⟩,by show n-(i+1)<n-i;omega,⟨rfl,by simp,rfl,rfl,rfl,⟨rfl,rfl,rfl,rfl,rfl,rfl,trivial⟩,⟨rfl,congrArg _ (aZ 2 rfl (by decide)),rfl,aV fun q hq=>by simpa[aN]using q1.lt q hq,by simp,trivial⟩⟩⟩
     ·refine ag.no (decide_eq_false (by omega)) ?_
      refine a8.mk (fun _=>?_) (fun h=>by cases h)
      refine ag.yes (decide_eq_true (by omega)) ?_
      refine ab.dw (pvs:=[.int .i64 (i:Int),.int .i64 (t.r:Int),.int .i64 (j:Int)]) hc (fun _=>rfl) (by decide) ⟨rfl,fun _=>rfl⟩ ⟨rfl,fun _=>rfl⟩ ⟨rfl,fun _=>rfl⟩ ?_
      refine ae.ao ((i+1:Nat):Int) (by omega) (by omega) ?_
      exact⟨(i+1,_),[0,1,2],⟨hin,eG⟩,by show n-(i+1)<n-i;omega,⟨rfl,by simp,rfl,rfl,rfl,⟨rfl,rfl,rfl,rfl,rfl,rfl,trivial⟩,⟨rfl,congrArg _ (aZ 2 rfl (by decide)),rfl,aV fun q hq=>by simpa[aN]using q1.lt q hq,by simp,trivial⟩⟩⟩
   ·refine ag.no (decide_eq_false (by omega)) ?_
    obtain rfl:i=n:=by omega
    refine ae.ao ((t.r+1:Nat):Int) (by omega) (by omega) ?_
    refine ae.ao ((j+1:Nat):Int) (by omega) (by omega) ?_
    exact⟨(j+1,⟨tJ (dU t.B p t.r) t.r j,G,nG t.s t.r p,(if p=t.r then t.q else-t.q)*t.B p j,t.r+1⟩),[0,1,2],⟨hjn,by rw[ej,hG]⟩,by show i-(j+1)<i-j;omega,⟨rfl,by simp,rfl,rfl,rfl,⟨rfl,rfl,rfl,rfl,trivial⟩,⟨rfl,congrArg _ (aZ 2 rfl (by decide)),rfl,aV fun q hq=>by simpa[aN]using q1.lt q hq,by simp,trivial⟩⟩⟩
 ·obtain rfl:j=n:=by omega
  refine ag.no (decide_eq_false (by omega)) ?_
  subst ht
  exact aq.dw rfl (.p _ (.int _ _))
abbrev FJ:List AV:=[.p (.bool false),.p (.sl false 1 []),.p (.sl false 1 [])]
theorem nR:au Tryz.prog 260 [] (.p (aJ 0)) []:=by
 refine aa (wr:=a9) a6 mixed Tryz.func260 (by kernel_rfl) rfl (by kernel_rfl) (af rfl) (by simp) ?_
 refine aq.pure ?_
 rw[dF]
 exact f8 ⟨rfl,rfl,rfl⟩ (.p _ (.bool _)) (.p _ (.sl _ _ (fun e he=>by simp at he))) (iu rfl)
theorem jR:au Tryz.prog 245 [] (.p (aJ 1)) []:=by
 refine aa (wr:=a9) a6 mixed Tryz.func245 (by kernel_rfl) rfl (by kernel_rfl) (af rfl) (by simp) ?_
 refine aq.pure ?_
 rw[gv]
 exact f8 ⟨rfl,rfl,rfl⟩ (.p _ (.bool _)) (iu rfl) (iu rfl)
theorem jS (m m':Bool) (n k a:Nat) (r v:Nat->Rat) {D X:Nat} (hr:∀i,i<n->Bz (r i) D) (hv:∀i,i<k->Bz (v i) X) (ha:a+k<=n) (hn:n<=1000) (hb:k*(D+X+1)+1+(D+X)+1<=10000000000):
  au Tryz.prog 246 [ah m (ar n r),.int .i64 (a:Int),ah m' (ar k v)] (.p (aJ (sm k fun i=>r (a+i)*v i))) []:=by
 refine aa (wr:=a9) a6 mixed Tryz.func246 (by kernel_rfl) rfl (by kernel_rfl) (af rfl) (by simp) ?_
 refine ab.pure (nR) ?_
 refine SZ.mk (k:Int) (by simp[ar]) ?_
 refine aM.mk (Nat×Rat) (fun(j,s)=>([(0,.p (ah m (ar n r))),(1,.p (.int .i64 (a:Int))),(6,.aF 0 0),(7,.aF 1 0),(11,.p (ah m' (ar k v))),(12,.p (.int .i64 k)),(13,.p (.int .i64 j))],[.box 38 FJ,.box 38 (lW s)]))
  (fun(j,s)=>j<=k/\s=sm j fun i=>r (a+i)*v i) (fun x=>k-x.1) (0,0) [0,1] ⟨Nat.zero_le _,rfl⟩ ⟨rfl,by simp,rfl,rfl,rfl,⟨rfl,rfl,rfl,rfl,rfl,rfl,rfl,trivial⟩,⟨rfl,rfl,trivial⟩⟩ ?_
 intro⟨j,s⟩ ⟨hj,hs⟩
 have zs:Bz s (j*(D+X+1)+1):=by rw[hs];exact ik (fun i hi=>(hr (a+i) (by omega)).mul (hv i hi)) j hj
 have hjw:j*(D+X+1)<=k*(D+X+1):=Nat.mul_le_mul_right _ hj
 by_cases hjn:j<k
 ·refine ag.yes (decide_eq_true (by omega)) ?_
  have z1:=(hr (a+j) (by omega)).mul (hv j hjn)
  refine aG.rf j rfl hjn ?_
  refine aO.cM (by kernel_rfl) ?_
  repeat refine aj.mk _ _ (And.intro rfl rfl) rfl ?_
  refine aj.mk _ _ (ae.ao ((a+j:Nat):Int) (by omega) (by omega) (And.intro rfl rfl)) rfl ?_
  repeat refine aj.mk _ _ (And.intro rfl rfl) rfl ?_
  refine aj.mk _ _ (aG.rf (a+j) rfl (by omega) (And.intro rfl rfl)) rfl ?_
  repeat refine aj.mk _ _ (And.intro rfl rfl) rfl ?_
  refine aj.mk _ _ (ab.pure (b9 _ _ (hr (a+j) (by omega)).sz (hv j hjn).sz (by omega)) (And.intro rfl rfl)) rfl ?_
  refine aj.mk _ _ (ab.pure (dZ _ _ zs.sz z1.sz (by omega)) (And.intro rfl rfl)) rfl ?_
  repeat refine aj.mk _ _ (And.intro rfl rfl) rfl ?_
  refine br.mk (by kernel_rfl) ?_
  refine ae.ao ((j+1:Nat):Int) (by omega) (by omega) ?_
  exact⟨(j+1,_),[0,1],⟨hjn,by rw[hs];rfl⟩,by show k-(j+1)<k-j;omega,⟨rfl,by simp,rfl,rfl,rfl,⟨rfl,rfl,rfl,rfl,rfl,rfl,rfl,trivial⟩,⟨rfl,rfl,trivial⟩⟩⟩
 ·refine ag.no (decide_eq_false (by omega)) ?_
  obtain rfl:j=k:=by omega
  subst hs
  exact aq.pure (.p _ (aS _ _ _))
theorem rQ {n:Nat} {T:TypeId} {f:Nat->Rat}:aC.vec T 3 (fl n fun k=>if k<n then aJ (f k)else cu)= .vec T 3 (bd (ar n f)):=by
 rw[show(fl n fun k=>if k<n then aJ (f k)else cu)=bd (ar n f)from(aX fun k hk=>if_pos hk).trans (by simp[fl,ar])]
theorem oT (m:Bool) (n:Nat) (v:Nat->Rat) (t:Rat) {X Y:Nat} (hv:∀i,i<n->Bz (v i) X) (ht:Bz t Y) (hn:n<=1000) (hb:X+Y<=10000000000):
  au Tryz.prog 249 [ah m (ar n v),aJ t] (.vec 0 3 0 n) [.vec 38 3 (bd (ar n fun i=>v i*t))]:=by
 refine aa (wr:=a9) a6 mixed Tryz.func249 (by kernel_rfl) rfl (by kernel_rfl) (af rfl) (by simp) ?_
 refine SZ.mk (n:Int) (by simp[ar]) ?_
 refine SZ.mk (n:Int) rfl ?_
 refine bT.mk (by simp) ?_
 refine bV.rat n rfl (by omega) ?_
 refine SZ.mk (n:Int) (by simp[ar]) ?_
 refine aM.mk Nat (fun i=>([(3,.aF 0 0),(5,.vec 1 3 0 n),(11,.p (ah m (ar n v))),(12,.p (.int .i64 n)),(13,.p (.int .i64 i))],[.box 38 (lW t),.vec 38 3 (fl n fun k=>if k<i then aJ (v k*t)else cu)]))
  (fun i=>i<=n) (fun i=>n-i) 0 [0,1] (Nat.zero_le _) ⟨rfl,by simp,rfl,rfl,rfl,⟨rfl,rfl,rfl,rfl,rfl,trivial⟩,⟨rfl,congrArg _ ((aX fun k hk=>if_neg (by omega)).trans (bE n cu).symm),trivial⟩⟩ ?_
 intro i hi
 have hi:i<=n:=hi
 by_cases hin:i<n
 ·refine ag.yes (decide_eq_true (by omega)) ?_
  refine aG.rf i rfl hin ?_
  refine ab.pure (b9 _ _ (hv i hin).sz ht.sz (by omega)) ?_
  refine aI.mk i rfl hin ?_
  refine bT.mk (by simp;omega)<|cH.mk _ (du (f:=fun k=>v k*t) hin) ?_
  refine ae.ao ((i+1:Nat):Int) (by omega) (by omega) ?_
  exact⟨i+1,[0,1],hin,by show n-(i+1)<n-i;omega,⟨rfl,by simp,rfl,rfl,rfl,⟨rfl,rfl,rfl,rfl,rfl,trivial⟩,⟨rfl,rfl,trivial⟩⟩⟩
 ·refine ag.no (decide_eq_false (by omega)) ?_
  obtain rfl:i=n:=by omega
  rw[rQ]
  exact aq.new 1 rfl rfl (aB _)
theorem lk (m m':Bool) (n:Nat) (v w:Nat->Rat) (t:Rat) {X W Y:Nat} (hv:∀i,i<n->Bz (v i) X) (hw:∀i,i<n->Bz (w i) W) (ht:Bz t Y) (hn:n<=1000) (hb:X+(Y+W)+1<=10000000000):
  au Tryz.prog 250 [ah m (ar n v),ah m' (ar n w),aJ t] (.vec 0 3 0 n) [.vec 38 3 (bd (ar n fun i=>v i-t*w i))]:=by
 refine aa (wr:=a9) a6 mixed Tryz.func250 (by kernel_rfl) rfl (by kernel_rfl) (af rfl) (by simp) ?_
 refine SZ.mk (n:Int) (by simp[ar]) ?_
 refine SZ.mk (n:Int) rfl ?_
 refine bT.mk (by simp) ?_
 refine bV.rat n rfl (by omega) ?_
 refine SZ.mk (n:Int) (by simp[ar]) ?_
 refine aM.mk Nat (fun i=>([(0,.p (ah m (ar n v))),(1,.p (ah m' (ar n w))),(5,.aF 0 0),(7,.vec 1 3 0 n),(13,.p (.int .i64 n)),(14,.p (.int .i64 i))],[.box 38 (lW t),.vec 38 3 (fl n fun k=>if k<i then aJ (v k-t*w k)else cu)]))
  (fun i=>i<=n) (fun i=>n-i) 0 [0,1] (Nat.zero_le _) ⟨rfl,by simp,rfl,rfl,rfl,⟨rfl,rfl,rfl,rfl,rfl,rfl,trivial⟩,⟨rfl,congrArg _ ((aX fun k hk=>if_neg (by omega)).trans (bE n cu).symm),trivial⟩⟩ ?_
 intro i hi
 have hi:i<=n:=hi
 by_cases hin:i<n
 ·refine ag.yes (decide_eq_true (by omega)) ?_
  refine aO.cM (by kernel_rfl) ?_
  repeat refine aj.mk _ _ (And.intro rfl rfl) rfl ?_
  refine aj.mk _ _ (aG.rf i rfl hin (And.intro rfl rfl)) rfl ?_
  repeat refine aj.mk _ _ (And.intro rfl rfl) rfl ?_
  refine aj.mk _ _ (aG.rf i rfl hin (And.intro rfl rfl)) rfl ?_
  repeat refine aj.mk _ _ (And.intro rfl rfl) rfl ?_
  refine aj.mk _ _ (ab.pure (b9 _ _ ht.sz (hw i hin).sz (by omega)) (And.intro rfl rfl)) rfl ?_
  refine aj.mk _ _ (ab.pure (cn _ _ (hv i hin).sz (ht.mul (hw i hin)).sz (by omega)) (And.intro rfl rfl)) rfl ?_
  refine aj.mk _ _ (aI.mk i rfl hin (And.intro rfl rfl)) rfl ?_
  refine aj.mk _ _ (bT.mk (by simp;omega)<|cH.mk _ (du (f:=fun k=>v k-t*w k) hin) (And.intro rfl rfl)) rfl ?_
  repeat refine aj.mk _ _ (And.intro rfl rfl) rfl ?_
  refine br.mk (by kernel_rfl) ?_
  refine ae.ao ((i+1:Nat):Int) (by omega) (by omega) ?_
  exact⟨i+1,[0,1],hin,by show n-(i+1)<n-i;omega,⟨rfl,by simp,rfl,rfl,rfl,⟨rfl,rfl,rfl,rfl,rfl,rfl,trivial⟩,⟨rfl,rfl,trivial⟩⟩⟩
 ·refine ag.no (decide_eq_false (by omega)) ?_
  obtain rfl:i=n:=by omega
  rw[rQ]
  exact aq.new 1 rfl rfl (aB _)
def sc (k:Nat) (v:Nat->Rat) (i:Nat):Rat:=if i<k then v i else 0
def yW (v:Nat->Rat):Nat->Rat
 |0=>0
 |i+1=>v i
theorem Db {k:Nat} {v:Nat->Rat}:bd (ar k v)++[aJ 0]=bd (ar (k+1) (sc k v)):=by
 rw[show ar k v=ar k (sc k v)from d5 fun i hi=>(if_pos hi).symm]
 exact j4 k (sc k v) 0 (if_neg (Nat.lt_irrefl k)).symm
theorem DV {k:Nat} {v:Nat->Rat}:[aJ 0]++bd (ar k v)=bd (ar (k+1) (yW v)):=by
 simp[ar,bd,List.range_succ_eq_map,yW,Function.comp_def]
theorem iZ (m:Bool) (k:Nat) (v:Nat->Rat) (hk:k<=1000):au Tryz.prog 247 [ah m (ar k v)] (.vec 0 3 0 (k+1)) [.vec 38 3 (bd (ar (k+1) (sc k v)))]:=by
 refine aa (wr:=a9) a6 mixed Tryz.func247 (by kernel_rfl) rfl (by kernel_rfl) (af rfl) (by simp) ?_
 refine SZ.mk (k:Int) (by simp[ar]) ?_
 refine aO.cM (by kernel_rfl) ?_
 repeat refine aj.mk _ _ (And.intro rfl rfl) rfl ?_
 refine aj.mk _ _ (SZ.mk (k:Int) rfl<|bT.mk (by simp)<|fp.mk 0 k rfl rfl (Nat.zero_le _) (by simp[ar])<|BE.m6<|cH.mk (bd (ar k v)) (by rw[List.drop_zero];exact List.take_of_length_le (by simp[ar])) (And.intro rfl rfl)) rfl ?_
 refine aj.mk _ _ (ab.pure (nR) (And.intro rfl rfl)) rfl ?_
 repeat refine aj.mk _ _ (And.intro rfl rfl) rfl ?_
 refine aj.mk _ _ (bp.all rfl<|bT.mk (by simp)<|ck.mk (by simp[ar];omega) (by simp[ar];omega)<|cH.mk (bd (ar (k+1) (sc k v))) Db<|mQ.mk (k+1) (by simp[ar]) (And.intro rfl rfl)) rfl ?_
 repeat refine aj.mk _ _ (And.intro rfl rfl) rfl ?_
 refine br.mk (by kernel_rfl) ?_
 exact aq.new 1 rfl rfl (aB _)
theorem qy (m:Bool) (k:Nat) (v:Nat->Rat) (hk:k<=1000):au Tryz.prog 248 [ah m (ar k v)] (.vec 0 3 0 (k+1)) [.vec 38 3 (bd (ar (k+1) (yW v)))]:=by
 refine aa (wr:=a9) a6 mixed Tryz.func248 (by kernel_rfl) rfl (by kernel_rfl) (af rfl) (by simp) ?_
 refine ab.pure (nR) ?_
 refine ga.mk rfl<|ck.mk (by simp[ar];omega) (by simp[ar];omega)<|cH.mk (bd (ar (k+1) (yW v))) DV<|mQ.mk (k+1) (by simp[ar];omega) ?_
 exact aq.new 1 rfl rfl (aB _)
section
def oy (A:Nat->Nat->Rat) (k:Nat) (f:Nat->Rat):Rat:=sm k fun i=>A k (0+i)*f i
def yJ (A:Nat->Nat->Rat) (k:Nat) (l:Nat->Rat):Rat:=sm k fun i=>A 0 (1+i)*l i
def Cu (A:Nat->Nat->Rat) (k:Nat) (f l:Nat->Rat):Rat:=if k=0 then A 0 0 else 1-oy A k f*yJ A k l
def FE (A:Nat->Nat->Rat) (k:Nat) (f l:Nat->Rat) (i:Nat):Rat:=if k=0 then 1/A 0 0 else(sc k f i-oy A k f*yW l i)*(1/Cu A k f l)
def lvl (A:Nat->Nat->Rat) (k:Nat) (f l:Nat->Rat) (i:Nat):Rat:=if k=0 then 1/A 0 0 else(yW l i-yJ A k l*sc k f i)*(1/Cu A k f l)
abbrev DK (n:Nat) (A:Nat->Nat->Rat) (k:Nat) (f l:Nat->Rat):List AV:=[.p (cm false false n n A),.p (ah false (ar k f)),.p (ah false (ar k l))]
theorem lZ {k X:Nat} {v:Nat->Rat} (hv:∀i,i<k->Bz (v i) X) (h1:1<=X) (i:Nat):Bz (sc k v i) X:=by
 unfold sc;split
 ·exact hv i (by assumption)
 ·exact bS.mono h1
theorem vN {k X:Nat} {v:Nat->Rat} (hv:∀i,i<k->Bz (v i) X) (h1:1<=X):∀i,i<k+1->Bz (yW v i) X
 |0,_=>bS.mono h1
 |i+1,h=>hv i (by omega)
structure y9 (n:Nat) (A:Nat->Nat->Rat) (k:Nat) (f l:Nat->Rat) (D X:Nat):Prop where
 kn:k<n
 n5:n<=5
 hA:∀i j,i<n->j<n->Bz (A i j) D
 hf:∀i,i<k->Bz (f i) X
 hl:∀i,i<k->Bz (l i) X
 h1:1<=X
 d1:1<=D
 dx:14*X+12*D+19<=1000000000
variable {n k D X:Nat} {A:Nat->Nat->Rat} {f l:Nat->Rat}
theorem y9.x (h:y9 n A k f l D X):Bz (oy A k f) (4*(D+X+1)+1):=by
 have:=ik (F:=fun i=>A k (0+i)*f i) (n:=k) (fun i hi=>(h.hA k (0+i) h.kn (by have:=h.kn;omega)).mul (h.hf i hi)) k (Nat.le_refl _)
 exact this.mono (by have:=Nat.mul_le_mul_right (D+X+1) (show k<=4 by have:=h.kn;have:=h.n5;omega);omega)
theorem y9.y (h:y9 n A k f l D X):Bz (yJ A k l) (4*(D+X+1)+1):=by
 have:=ik (F:=fun i=>A 0 (1+i)*l i) (n:=k) (fun i hi=>(h.hA 0 (1+i) (by have:=h.kn;omega) (by have:=h.kn;omega)).mul (h.hl i hi)) k (Nat.le_refl _)
 exact this.mono (by have:=Nat.mul_le_mul_right (D+X+1) (show k<=4 by have:=h.kn;have:=h.n5;omega);omega)
theorem y9.fb (h:y9 n A k f l D X):∀i,i<k+1->Bz (FE A k f l i) (14*X+12*D+19):=fun i hi=>by
 unfold FE
 by_cases e:k=0
 ·rw[if_pos e];exact(cR.div (h.hA 0 0 (by have:=h.kn;omega) (by have:=h.kn;omega))).mono (by omega)
 ·rw[if_neg e]
  unfold Cu
  rw[if_neg e]
  exact(((lZ h.hf h.h1 i).sub (h.x.mul (vN h.hl h.h1 i hi))).mul (cR.div (cR.sub (h.x.mul h.y)))).mono (by omega)
theorem y9.lb (h:y9 n A k f l D X):∀i,i<k+1->Bz (lvl A k f l i) (14*X+12*D+19):=fun i hi=>by
 unfold lvl
 by_cases e:k=0
 ·rw[if_pos e];exact(cR.div (h.hA 0 0 (by have:=h.kn;omega) (by have:=h.kn;omega))).mono (by omega)
 ·rw[if_neg e]
  unfold Cu
  rw[if_neg e]
  exact(((vN h.hl h.h1 i hi).sub (h.y.mul (lZ h.hf h.h1 i))).mul (cR.div (cR.sub (h.x.mul h.y)))).mono (by omega)
theorem aq.DQ {T:TypeId} {B0:aC} {av r:AV} {H:Hp} {c0 c1 c2:AV} {p0 p1 p2:PV} (hB:∀k,B0.row k= .free) (h0:H.getD 0 .free= .box T [c0,c1,c2]) (o0:p0.one=true) (o1:p1.one=true) (o2:p2.one=true)
  (q0:Conv [0] H c0 (.p p0)) (q1:Conv [0] H c1 (.p p1)) (q2:Conv [0] H c2 (.p p2)) (hv:Conv [0] H av r):aq [B0] av H r [.box T [.p p0,.p p1,.p p2]]:=
 aq.ml rfl (by intro B hB' k;simp at hB';subst hB';exact hB k) (fun i hi=>by
  obtain rfl:i=0:=by simpa using hi
  rw[h0];trivial) (fun i B e=>by
  match i,e with
  |0,e=>
   cases e
   rw[h0]
   refine .box (by intro c hc;simp at hc;rcases hc with rfl|rfl|rfl<;>simpa[AV.one]) rfl fun i c d e1 e2=>?_
   match i,e1,e2 with
   |0,e1,e2=>cases e1;cases e2;exact q0
   |1,e1,e2=>cases e1;cases e2;exact q1
   |2,e1,e2=>cases e1;cases e2;exact q2) hv
theorem Bo {hs:List Nat} {H:Hp} {h:Nat} {n:Nat} {T:TypeId} {g:Nat->Rat} (hB:look H h= .vec T 3 (bd (ar n g))) (hn:h∉hs):Conv hs H (.vec h 3 0 n) (.p (ah false (ar n g))):=
 .ze hB hn (by simp[ar]) (aB _) (by rw[List.drop_zero];exact List.take_of_length_le (by simp[ar]))
theorem qp (h:y9 n A k f l D X) (hd:Cu A k f l≠0):
  cw Tryz.prog 227 [.aF 0 0] [.box 252 (DK n A k f l)] (.p (.bool true)) [.box 252 (DK n A (k+1) (FE A k f l) (lvl A k f l))]:=by
 obtain⟨kn,n5,hA,hf,hl,x1,d1,dx⟩:=id h
 refine aa (wr:=a9) a6 mixed Tryz.func227 (by kernel_rfl) rfl (by kernel_rfl) (af rfl) (by intro B hB;simp at hB;subst hB;exact fun e=>by(cases e)) ?_
 refine SZ.mk (k:Int) (by simp[ar]) ?_
 by_cases k0:k=0
 ·subst k0
  have hd:A 0 0≠0:=hd
  have z0:=hA 0 0 kn kn
  refine ag.yes (kV rfl) ?_
  refine aO.cM (by kernel_rfl) ?_
  refine aj.mk _ _ (ab.pure (jR) (And.intro rfl rfl)) rfl ?_
  repeat refine aj.mk _ _ (And.intro rfl rfl) rfl ?_
  refine aj.mk _ _ (aG.mf 0 rfl kn (And.intro rfl rfl)) rfl ?_
  repeat refine aj.mk _ _ (And.intro rfl rfl) rfl ?_
  refine aj.mk _ _ (aG.rf 0 rfl kn (And.intro rfl rfl)) rfl ?_
  repeat refine aj.mk _ _ (And.intro rfl rfl) rfl ?_
  refine aj.mk _ _ (ab.bg (fY 1 (A 0 0) hd cR.sz z0.sz (by omega)) (fun _=>rfl) (And.intro rfl rfl)) rfl ?_
  repeat refine aj.mk _ _ (And.intro rfl rfl) rfl ?_
  refine br.mk (by kernel_rfl) ?_
  refine aO.cM (by kernel_rfl) ?_
  repeat refine aj.mk _ _ (And.intro rfl rfl) rfl ?_
  refine br.mk (by kernel_rfl) ?_
  refine ag.yes (rfl) ?_
  exact aq.DQ (fun _=>rfl) rfl rfl rfl rfl (.p _ dr) (Bo (h:=2) (n:=1) rfl (by decide)) (Bo (h:=3) (n:=1) rfl (by decide)) (.tf _)
 ·have hx:=h.x
  have hy:=h.y
  have zD:Bz (Cu A k f l) (8*(D+X+1)+4):=by unfold Cu;rw[if_neg k0];exact(cR.sub (hx.mul hy)).mono (by omega)
  have eD:Cu A k f l=1-oy A k f*yJ A k l:=if_neg k0
  have kw:=Nat.mul_le_mul_right (D+X+1) (show k<=4 by omega)
  refine ag.no (kL (by omega)) ?_
  refine aO.cM (by kernel_rfl) ?_
  repeat refine aj.mk _ _ (And.intro rfl rfl) rfl ?_
  refine aj.mk _ _ (aG.mf k rfl kn (And.intro rfl rfl)) rfl ?_
  repeat refine aj.mk _ _ (And.intro rfl rfl) rfl ?_
  refine aj.mk _ _ (ab.pure (jS false false n k 0 (A k) f (fun i hi=>hA k i kn hi) hf (by omega) (by omega) (by omega)) (And.intro rfl rfl)) rfl ?_
  repeat refine aj.mk _ _ (And.intro rfl rfl) rfl ?_
  refine aj.mk _ _ (aG.mf 0 rfl (by omega) (And.intro rfl rfl)) rfl ?_
  repeat refine aj.mk _ _ (And.intro rfl rfl) rfl ?_
  refine aj.mk _ _ (ab.pure (jS false false n k 1 (A 0) l (fun i hi=>hA 0 i (by omega) hi) hl (by omega) (by omega) (by omega)) (And.intro rfl rfl)) rfl ?_
  repeat refine aj.mk _ _ (And.intro rfl rfl) rfl ?_
  refine br.mk (by kernel_rfl) ?_
  have zf:=lZ hf x1
  have zl:=vN hl x1
  have hq:1-oy A k f*yJ A k l≠0:=by rw[<-eD];exact hd
  rw[eD]at zD
  have ef:(fun i=>(sc k f i-oy A k f*yW l i)*(1/(1-oy A k f*yJ A k l)))=FE A k f l:=funext fun i=>by unfold FE;rw[if_neg k0,eD]
  have el:(fun i=>(yW l i-yJ A k l*sc k f i)*(1/(1-oy A k f*yJ A k l)))=lvl A k f l:=funext fun i=>by unfold lvl;rw[if_neg k0,eD]
  refine aO.cM (by kernel_rfl) ?_
  repeat refine aj.mk _ _ (And.intro rfl rfl) rfl ?_
  refine aj.mk _ _ (ab.fresh (iZ false k f (by omega)) (And.intro rfl rfl)) rfl ?_
  repeat refine aj.mk _ _ (And.intro rfl rfl) rfl ?_
  refine aj.mk _ _ (ab.fresh (qy false k l (by omega)) (And.intro rfl rfl)) rfl ?_
  repeat refine aj.mk _ _ (And.intro rfl rfl) rfl ?_
  refine br.mk (by kernel_rfl) ?_
  refine aO.cM (by kernel_rfl) ?_
  refine aj.mk _ _ (ab.pure (jR) (And.intro rfl rfl)) rfl ?_
  refine aj.mk _ _ (ab.pure (jR) (And.intro rfl rfl)) rfl ?_
  repeat refine aj.mk _ _ (And.intro rfl rfl) rfl ?_
  refine aj.mk _ _ (ab.pure (b9 _ _ hx.sz hy.sz (by omega)) (And.intro rfl rfl)) rfl ?_
  refine aj.mk _ _ (ab.pure (cn _ _ cR.sz (hx.mul hy).sz (by omega)) (And.intro rfl rfl)) rfl ?_
  refine aj.mk _ _ (ab.bg (fY 1 _ hq cR.sz zD.sz (by omega)) (fun _=>rfl) (And.intro rfl rfl)) rfl ?_
  repeat refine aj.mk _ _ (And.intro rfl rfl) rfl ?_
  refine br.mk (by kernel_rfl) ?_
  refine ag.no (rfl) ?_
  refine aO.cM (by kernel_rfl) ?_
  repeat refine aj.mk _ _ (And.intro rfl rfl) rfl ?_
  refine aj.mk _ _ (bp.all (by simp[ar])<|bp.all (by simp[ar])<|ab.fresh (lk true true (k+1) (sc k f) (yW l) (oy A k f) (fun i _=>zf i) zl hx (by omega) (by omega)) (And.intro rfl rfl)) rfl ?_
  repeat refine aj.mk _ _ (And.intro rfl rfl) rfl ?_
  refine aj.mk _ _ (bp.all (by simp[ar])<|ab.fresh (oT true (k+1) (fun i=>sc k f i-oy A k f*yW l i) (1/(1-oy A k f*yJ A k l)) (fun i hi=>(zf i).sub (hx.mul (zl i hi))) (cR.div zD) (by omega) (by omega)) (And.intro rfl rfl)) rfl ?_
  repeat refine aj.mk _ _ (And.intro rfl rfl) rfl ?_
  refine aj.mk _ _ (bp.all (by simp[ar])<|bp.all (by simp[ar])<|ab.fresh (lk true true (k+1) (yW l) (sc k f) (yJ A k l) zl (fun i _=>zf i) hy (by omega) (by omega)) (And.intro rfl rfl)) rfl ?_
  repeat refine aj.mk _ _ (And.intro rfl rfl) rfl ?_
  refine aj.mk _ _ (bp.all (by simp[ar])<|ab.fresh (oT true (k+1) (fun i=>yW l i-yJ A k l*sc k f i) (1/(1-oy A k f*yJ A k l)) (fun i hi=>(zl i hi).sub (hy.mul (zf i))) (cR.div zD) (by omega) (by omega)) (And.intro rfl rfl)) rfl ?_
  repeat refine aj.mk _ _ (And.intro rfl rfl) rfl ?_
  refine br.mk (by kernel_rfl) ?_
  exact aq.DQ (fun _=>rfl) rfl rfl rfl rfl (.p _ dr) (Bo (h:=7) (congrArg (fun g=>aC.vec 38 3 (bd (ar (k+1) g))) ef) (by decide)) (Bo (h:=9) (congrArg (fun g=>aC.vec 38 3 (bd (ar (k+1) g))) el) (by decide)) (.tf _)
theorem ql (h:y9 n A k f l D X) (hd:Cu A k f l=0):
  ∃p q:PV,cw Tryz.prog 227 [.aF 0 0] [.box 252 (DK n A k f l)] (.p (.bool false)) [.box 252 [.p (cm false false n n A),.p p,.p q]]:=by
 obtain⟨kn,n5,hA,hf,hl,x1,d1,dx⟩:=id h
 by_cases k0:k=0
 ·subst k0
  have hd:A 0 0=0:=hd
  refine⟨.sl false 3 [cu],.sl false 3 [cu],?_⟩
  refine aa (wr:=a9) a6 mixed Tryz.func227 (by kernel_rfl) rfl (by kernel_rfl) (af rfl) (by intro B hB;simp at hB;subst hB;exact fun e=>by(cases e)) ?_
  refine SZ.mk 0 rfl ?_
  have hq:=ri 1 cR.sz (by omega)
  rw[<-hd]at hq
  refine ag.yes (kV rfl) ?_
  refine aO.cM (by kernel_rfl) ?_
  refine aj.mk _ _ (ab.pure (jR) (And.intro rfl rfl)) rfl ?_
  repeat refine aj.mk _ _ (And.intro rfl rfl) rfl ?_
  refine aj.mk _ _ (aG.mf 0 rfl kn (And.intro rfl rfl)) rfl ?_
  repeat refine aj.mk _ _ (And.intro rfl rfl) rfl ?_
  refine aj.mk _ _ (aG.rf 0 rfl kn (And.intro rfl rfl)) rfl ?_
  repeat refine aj.mk _ _ (And.intro rfl rfl) rfl ?_
  refine aj.mk _ _ (ab.bg (hq) (fun _=>rfl) (And.intro rfl rfl)) rfl ?_
  repeat refine aj.mk _ _ (And.intro rfl rfl) rfl ?_
  refine br.mk (by kernel_rfl) ?_
  refine aO.cM (by kernel_rfl) ?_
  repeat refine aj.mk _ _ (And.intro rfl rfl) rfl ?_
  refine br.mk (by kernel_rfl) ?_
  refine ag.no (rfl) ?_
  have pz:∀e∈[cu],∀c∈e.cells,bZ c:=fun e he c hc=>by
   simp only[List.mem_singleton]at he;subst he
   simp only[PV.cells,List.mem_cons,List.not_mem_nil,or_false]at hc
   rcases hc with rfl|rfl|rfl
   ·exact .bool _
   ·exact .sl _ _ (fun e he=>absurd he List.not_mem_nil)
   ·exact .sl _ _ (fun e he=>absurd he List.not_mem_nil)
  exact aq.DQ (fun _=>rfl) rfl rfl rfl rfl (.p _ dr) (.ze (h:=(2:Nat)) (es:=[cu]) rfl (by simp[Hd.key]) (by simp) pz rfl) (.ze (h:=(3:Nat)) (es:=[cu]) rfl (by simp[Hd.key]) (by simp) pz rfl) (.tf _)
 ·have hx:=h.x
  have hy:=h.y
  refine⟨ah false (ar k f),ah false (ar k l),?_⟩
  refine aa (wr:=a9) a6 mixed Tryz.func227 (by kernel_rfl) rfl (by kernel_rfl) (af rfl) (by intro B hB;simp at hB;subst hB;exact fun e=>by(cases e)) ?_
  refine SZ.mk (k:Int) (by simp[ar]) ?_
  have eD:1-oy A k f*yJ A k l=0:=by rw[<-hd];exact(if_neg k0).symm
  have hq:=ri 1 cR.sz (by omega)
  rw[<-eD]at hq
  have kw:=Nat.mul_le_mul_right (D+X+1) (show k<=4 by omega)
  refine ag.no (kL (by omega)) ?_
  refine aO.cM (by kernel_rfl) ?_
  repeat refine aj.mk _ _ (And.intro rfl rfl) rfl ?_
  refine aj.mk _ _ (aG.mf k rfl kn (And.intro rfl rfl)) rfl ?_
  repeat refine aj.mk _ _ (And.intro rfl rfl) rfl ?_
  refine aj.mk _ _ (ab.pure (jS false false n k 0 (A k) f (fun i hi=>hA k i kn hi) hf (by omega) (by omega) (by omega)) (And.intro rfl rfl)) rfl ?_
  repeat refine aj.mk _ _ (And.intro rfl rfl) rfl ?_
  refine aj.mk _ _ (aG.mf 0 rfl (by omega) (And.intro rfl rfl)) rfl ?_
  repeat refine aj.mk _ _ (And.intro rfl rfl) rfl ?_
  refine aj.mk _ _ (ab.pure (jS false false n k 1 (A 0) l (fun i hi=>hA 0 i (by omega) hi) hl (by omega) (by omega) (by omega)) (And.intro rfl rfl)) rfl ?_
  repeat refine aj.mk _ _ (And.intro rfl rfl) rfl ?_
  refine br.mk (by kernel_rfl) ?_
  refine aO.cM (by kernel_rfl) ?_
  repeat refine aj.mk _ _ (And.intro rfl rfl) rfl ?_
  refine aj.mk _ _ (ab.fresh (iZ false k f (by omega)) (And.intro rfl rfl)) rfl ?_
  repeat refine aj.mk _ _ (And.intro rfl rfl) rfl ?_
  refine aj.mk _ _ (ab.fresh (qy false k l (by omega)) (And.intro rfl rfl)) rfl ?_
  repeat refine aj.mk _ _ (And.intro rfl rfl) rfl ?_
  refine br.mk (by kernel_rfl) ?_
  refine aO.cM (by kernel_rfl) ?_
  refine aj.mk _ _ (ab.pure (jR) (And.intro rfl rfl)) rfl ?_
  refine aj.mk _ _ (ab.pure (jR) (And.intro rfl rfl)) rfl ?_
  repeat refine aj.mk _ _ (And.intro rfl rfl) rfl ?_
  refine aj.mk _ _ (ab.pure (b9 _ _ hx.sz hy.sz (by omega)) (And.intro rfl rfl)) rfl ?_
  refine aj.mk _ _ (ab.pure (cn _ _ cR.sz (hx.mul hy).sz (by omega)) (And.intro rfl rfl)) rfl ?_
  refine aj.mk _ _ (ab.bg (hq) (fun _=>rfl) (And.intro rfl rfl)) rfl ?_
  repeat refine aj.mk _ _ (And.intro rfl rfl) rfl ?_
  refine br.mk (by kernel_rfl) ?_
  refine ag.yes (rfl) ?_
  exact aq.DQ (fun _=>rfl) rfl rfl rfl rfl (.p _ dr) (.p _ (.sl _ _ (aB _))) (.p _ (.sl _ _ (aB _))) (.tf _)
end
section
theorem aq.F9 {T T2:TypeId} {B0:aC} {av:AV} {H:Hp} {c0 c1 c2:AV} {p0 p1 p2:PV} {W off len:Nat} {es:List PV} (h:Nat) (hne:h≠0) (hB:∀k,B0.row k= .free) (h0:H.getD 0 .free= .box T [c0,c1,c2]) (o0:p0.one=true) (o1:p1.one=true) (o2:p2.one=true)
  (q0:Conv [0,h] H c0 (.p p0)) (q1:Conv [0,h] H c1 (.p p1)) (q2:Conv [0,h] H c2 (.p p2)) (hav:av= .vec h W off len) (h1:H.getD h .free= .vec T2 W es) (hp:∀e∈es,∀c∈e.cells,bZ c):
  aq [B0] av H (.vec 1 W off len) [.box T [.p p0,.p p1,.p p2],.vec T2 W es]:=by
 have key:∀g:Hd,look [B0] g≠ .free->g= .t 0:=fun g hg=>by
  have hk:=cD hg
  cases g with
  |t i=>
   have hk:i<1:=hk
   obtain rfl:i=0:=by omega
   rfl
  |r i k=>
   have hk:i<1:=hk
   obtain rfl:i=0:=by omega
   exact absurd (hB k) hg
 have lv:(look H (.t 0)).live:=by simp only[look,h0];trivial
 refine .mk [0,h] rfl (by simp;exact fun e=>hne e.symm) rfl (by simp) (fun g hg=>by rw[key g (aC.bQ hg)];exact lv) (fun g hg=>by rw[key g hg];exact aC.bQ lv) (fun i h' B e1 e2=>?_) (by rw[hav];exact .vec rfl)
 match i,e1,e2 with
 |0,e1,e2=>
  cases e1;cases e2
  rw[h0]
  refine .box (by intro c hc;simp at hc;rcases hc with rfl|rfl|rfl<;>simpa[AV.one]) rfl fun i c d e1 e2=>?_
  match i,e1,e2 with
  |0,e1,e2=>cases e1;cases e2;exact q0
  |1,e1,e2=>cases e1;cases e2;exact q1
  |2,e1,e2=>cases e1;cases e2;exact q2
 |1,e1,e2=>cases e1;cases e2;rw[h1];exact .vec hp
theorem aq.EY {T T2 T3:TypeId} {B0 B1:aC} {av:AV} {H:Hp} {c0 c1 c2:AV} {p0 p1 p2:PV} {W W3 off len:Nat} {es es3:List PV} (h:Nat) (hne:h≠0) (hne1:h≠1) (hB:∀k,B0.row k= .free) (hB1:∀k,B1.row k= .free) (h0:H.getD 0 .free= .box T [c0,c1,c2]) (o0:p0.one=true) (o1:p1.one=true) (o2:p2.one=true)
  (q0:Conv [0,1,h] H c0 (.p p0)) (q1:Conv [0,1,h] H c1 (.p p1)) (q2:Conv [0,1,h] H c2 (.p p2)) (h3:H.getD 1 .free= .vec T3 W3 es3) (hp3:∀e∈es3,∀c∈e.cells,bZ c) (hav:av= .vec h W off len) (h1:H.getD h .free= .vec T2 W es) (hp:∀e∈es,∀c∈e.cells,bZ c):
  aq [B0,B1] av H (.vec 2 W off len) [.box T [.p p0,.p p1,.p p2],.vec T3 W3 es3,.vec T2 W es]:=by
 have key:∀g:Hd,look [B0,B1] g≠ .free->(look H g).live:=fun g hg=>by
  have hk:=cD hg
  cases g with
  |t i=>
   have hk:i<2:=hk
   have:i=0\/i=1:=by omega
   rcases this with rfl|rfl
   ·simp only[look,h0];trivial
   ·simp only[look,h3];trivial
  |r i k=>
   have hk:i<2:=hk
   have:i=0\/i=1:=by omega
   rcases this with rfl|rfl
   ·exact absurd (hB k) hg
   ·exact absurd (hB1 k) hg
 refine .mk [0,1,h] rfl (by simp;exact⟨fun e=>hne e.symm,fun e=>hne1 e.symm⟩) rfl (by simp) (fun g hg=>key g (aC.bQ hg)) (fun g hg=>aC.bQ (key g hg)) (fun i h' B e1 e2=>?_) (by rw[hav];exact .vec rfl)
 match i,e1,e2 with
 |0,e1,e2=>
  cases e1;cases e2
  rw[h0]
  refine .box (by intro c hc;simp at hc;rcases hc with rfl|rfl|rfl<;>simpa[AV.one]) rfl fun i c d e1 e2=>?_
  match i,e1,e2 with
  |0,e1,e2=>cases e1;cases e2;exact q0
  |1,e1,e2=>cases e1;cases e2;exact q1
  |2,e1,e2=>cases e1;cases e2;exact q2
 |1,e1,e2=>cases e1;cases e2;rw[h3];exact .vec hp3
 |2,e1,e2=>cases e1;cases e2;rw[h1];exact .vec hp
theorem aq.GQ {av:AV} {H:Hp} {T:TypeId} {cs:List PV} {v:PV} (h:Nat) (hav:av= .bq [.aF h 0,.p v]) (hv:bZ v) (h0:look H h= .box T (cs.map .p)) (ho:∀c∈cs,c.one=true) (hp:∀c∈cs,bZ c):aq [] av H (.bq [.aF 0 0,.p v]) [.box T (cs.map .p)]:=
 .mk [h] rfl (by simp) rfl (Nat.zero_le _) (fun h hl=>by rw[b6]at hl;exact hl.elim) (fun h hl=>absurd (b6 h) hl) (fun i h' B e1 e2=>by
  match i,e1,e2 with
  |0,e1,e2=>
   cases e1;cases e2
   rw[fg h0 trivial]
   refine .box (fun d hd=>by obtain⟨c,hc,rfl⟩:=List.mem_map.1 hd;exact ho c hc) rfl fun i c d e1 e2=>?_
   rw[e1]at e2;cases e2
   obtain⟨c',hc,rfl⟩:=List.mem_map.1 (List.mem_of_getElem? e1)
   exact .p _ (hp c' hc)) (by
  rw[hav]
  refine .bq rfl fun i c d e1 e2=>?_
  match i,e1,e2 with
  |0,e1,e2=>cases e1;cases e2;exact .aF rfl
  |1,e1,e2=>cases e1;cases e2;exact .p _ hv)
abbrev GB:PV:=.sl false 3 []
theorem Fe (m:Nat->Bool) (g:GV) {b c:Nat} (h:Wf g b c) (hk:g.k=1):au Tryz.prog 226 [cG m g] (.bq [.aF 0 0,.p (.int .i64 0)]) [.box 252 [.p (cm false false g.n g.n (aW g)),.p GB,.p GB]]:=by
 have n1:=h.n1
 refine aa (wr:=a9) a6 mixed Tryz.func226 (by kernel_rfl) rfl (by kernel_rfl) (af rfl) (by simp) ?_
 refine ag.no (by rw[hk];rfl) ?_
 refine ab.pure (eH m g h) ?_
 refine m9.mk (fun h=>?_) (fun h=>⟨?_,?_⟩)
 ·exact aq.GQ (cs:=[cm false false g.n g.n (aW g),GB,GB]) 1 rfl (.int _ _) rfl (by intro c hc;simp at hc;rcases hc with rfl|rfl<;>rfl) (by intro c hc;simp at hc;rcases hc with rfl|rfl;exact dr;exact .sl _ _ (fun e he=>absurd he List.not_mem_nil))
 ·exact absurd h (by simp;omega)
 ·exact absurd h (by simp;omega)
def Gv (A:Nat->Nat->Rat) (k:Nat) (y x l:Nat->Rat) (i:Nat):Rat:=sc k x i- -(y k-oy A k x)*l i
variable {n k D X Y L:Nat} {A:Nat->Nat->Rat} {f l x y:Nat->Rat}
theorem ED (kn:k<n) (n5:n<=5) (hA:∀i j,i<n->j<n->Bz (A i j) D) (hx:∀i,i<k->Bz (x i) X) (hy:Bz (y k) Y) (hl:∀i,i<k+1->Bz (l i) L) (x1:1<=X):∀i,i<k+1->Bz (Gv A k y x l i) (5*X+4*D+Y+L+9):=fun i hi=>by
 have hs:Bz (oy A k x) (4*(D+X+1)+1):=(ik (F:=fun i=>A k (0+i)*x i) (n:=k) (fun i hi=>(hA k (0+i) kn (by omega)).mul (hx i hi)) k (Nat.le_refl _)).mono (by have:=Nat.mul_le_mul_right (D+X+1) (show k<=4 by omega);omega)
 exact((lZ hx x1 i).sub ((hy.sub hs).neg.mul (hl i hi))).mono (by omega)
theorem xK (mx m':Bool) (kn:k<n) (n5:n<=5) (hA:∀i j,i<n->j<n->Bz (A i j) D) (hx:∀i,i<k->Bz (x i) X) (hy:Bz (y k) Y) (hl:∀i,i<k+1->Bz (l i) L) (x1:1<=X) (hb:5*X+4*D+Y+L+9<=5000000000):
  cw Tryz.prog 228 [.aF 0 0,.p (ah mx (ar k x)),.p (ah m' (ar n y))] [.box 252 (DK n A (k+1) f l)] (.vec 1 3 0 (k+1)) [.box 252 (DK n A (k+1) f l),.vec 38 3 (bd (ar (k+1) (Gv A k y x l)))]:=by
 refine aa (wr:=a9) a6 mixed Tryz.func228 (by kernel_rfl) rfl (by kernel_rfl) (af rfl) (by intro B hB;simp at hB;subst hB;exact fun e=>by(cases e)) ?_
 have kw:=Nat.mul_le_mul_right (D+X+1) (show k<=4 by omega)
 have hs:Bz (oy A k x) (4*(D+X+1)+1):=(ik (F:=fun i=>A k (0+i)*x i) (n:=k) (fun i hi=>(hA k (0+i) kn (by omega)).mul (hx i hi)) k (Nat.le_refl _)).mono (by omega)
 have hd:Bz (y k-oy A k x) (Y+(4*(D+X+1)+1)+1):=hy.sub hs
 have zx:=lZ hx x1
 refine SZ.mk (k:Int) (by simp[ar]) ?_
 refine aO.cM (by kernel_rfl) ?_
 repeat refine aj.mk _ _ (And.intro rfl rfl) rfl ?_
 refine aj.mk _ _ (aG.rf k rfl kn (And.intro rfl rfl)) rfl ?_
 repeat refine aj.mk _ _ (And.intro rfl rfl) rfl ?_
 refine aj.mk _ _ (aG.mf k rfl kn (And.intro rfl rfl)) rfl ?_
 repeat refine aj.mk _ _ (And.intro rfl rfl) rfl ?_
 refine aj.mk _ _ (ab.pure (jS false mx n k 0 (A k) x (fun i hi=>hA k i kn hi) hx (by omega) (by omega) (by omega)) (And.intro rfl rfl)) rfl ?_
 refine aj.mk _ _ (ab.pure (cn _ _ hy.sz hs.sz (by omega)) (And.intro rfl rfl)) rfl ?_
 repeat refine aj.mk _ _ (And.intro rfl rfl) rfl ?_
 refine br.mk (by kernel_rfl) ?_
 refine aO.cM (by kernel_rfl) ?_
 repeat refine aj.mk _ _ (And.intro rfl rfl) rfl ?_
 refine aj.mk _ _ (ab.fresh (iZ mx k x (by omega)) (And.intro rfl rfl)) rfl ?_
 repeat refine aj.mk _ _ (And.intro rfl rfl) rfl ?_
 refine aj.mk _ _ (ab.pure (rF (y k-oy A k x) (by have:=hd.sz.1;omega) (by have:=hd.sz.2;omega)) (And.intro rfl rfl)) rfl ?_
 refine aj.mk _ _ (bp.all (by simp[ar])<|ab.fresh (lk true false (k+1) (sc k x) l (-(y k-oy A k x)) (fun i _=>zx i) hl hd.neg (by omega) (by omega)) (And.intro rfl rfl)) rfl ?_
 repeat refine aj.mk _ _ (And.intro rfl rfl) rfl ?_
 refine br.mk (by kernel_rfl) ?_
 exact aq.F9 3 (by decide) (fun _=>rfl) rfl rfl rfl rfl (.p _ dr) (.p _ (.sl _ _ (aB _))) (.p _ (.sl _ _ (aB _))) rfl rfl (aB _)
theorem yH (m':Bool) (kn:k<n) (n5:n<=5) (hA:∀i j,i<n->j<n->Bz (A i j) D) (hx:∀i,i<k->Bz (x i) X) (hy:Bz (y k) Y) (hl:∀i,i<k+1->Bz (l i) L) (x1:1<=X) (hb:5*X+4*D+Y+L+9<=5000000000):
  cw Tryz.prog 228 [.aF 0 0,.vec 1 3 0 k,.p (ah m' (ar n y))] [.box 252 (DK n A (k+1) f l),.vec 38 3 (bd (ar k x))] (.vec 2 3 0 (k+1)) [.box 252 (DK n A (k+1) f l),.vec 38 3 (bd (ar k x)),.vec 38 3 (bd (ar (k+1) (Gv A k y x l)))]:=by
 refine aa (wr:=a9) a6 mixed Tryz.func228 (by kernel_rfl) rfl (by kernel_rfl) (af rfl) (by intro B hB;simp at hB;rcases hB with rfl|rfl<;>exact fun e=>by(cases e)) ?_
 have kw:=Nat.mul_le_mul_right (D+X+1) (show k<=4 by omega)
 have hs:Bz (oy A k x) (4*(D+X+1)+1):=(ik (F:=fun i=>A k (0+i)*x i) (n:=k) (fun i hi=>(hA k (0+i) kn (by omega)).mul (hx i hi)) k (Nat.le_refl _)).mono (by omega)
 have hd:Bz (y k-oy A k x) (Y+(4*(D+X+1)+1)+1):=hy.sub hs
 have zx:=lZ hx x1
 refine SZ.mk (k:Int) (by simp[ar]) ?_
 refine aO.cM (by kernel_rfl) ?_
 repeat refine aj.mk _ _ (And.intro rfl rfl) rfl ?_
 refine aj.mk _ _ (aG.rf k rfl kn (And.intro rfl rfl)) rfl ?_
 repeat refine aj.mk _ _ (And.intro rfl rfl) rfl ?_
 refine aj.mk _ _ (aG.mf k rfl kn (And.intro rfl rfl)) rfl ?_
 repeat refine aj.mk _ _ (And.intro rfl rfl) rfl ?_
 refine aj.mk _ _ (bp.all (by simp[ar])<|ab.pure (jS false true n k 0 (A k) x (fun i hi=>hA k i kn hi) hx (by omega) (by omega) (by omega)) (And.intro rfl rfl)) rfl ?_
 refine aj.mk _ _ (ab.pure (cn _ _ hy.sz hs.sz (by omega)) (And.intro rfl rfl)) rfl ?_
 repeat refine aj.mk _ _ (And.intro rfl rfl) rfl ?_
 refine br.mk (by kernel_rfl) ?_
 refine aO.cM (by kernel_rfl) ?_
 repeat refine aj.mk _ _ (And.intro rfl rfl) rfl ?_
 refine aj.mk _ _ (bp.all (by simp[ar])<|ab.fresh (iZ true k x (by omega)) (And.intro rfl rfl)) rfl ?_
 repeat refine aj.mk _ _ (And.intro rfl rfl) rfl ?_
 refine aj.mk _ _ (ab.pure (rF (y k-oy A k x) (by have:=hd.sz.1;omega) (by have:=hd.sz.2;omega)) (And.intro rfl rfl)) rfl ?_
 refine aj.mk _ _ (bp.all (by simp[ar])<|ab.fresh (lk true false (k+1) (sc k x) l (-(y k-oy A k x)) (fun i _=>zx i) hl hd.neg (by omega) (by omega)) (And.intro rfl rfl)) rfl ?_
 repeat refine aj.mk _ _ (And.intro rfl rfl) rfl ?_
 refine br.mk (by kernel_rfl) ?_
 exact aq.EY 4 (by decide) (by decide) (fun _=>rfl) (fun _=>rfl) rfl rfl rfl rfl (.p _ dr) (.p _ (.sl _ _ (aB _))) (.p _ (.sl _ _ (aB _))) rfl (aB _) rfl rfl (aB _)
end
section
theorem ab.bx {P:Program} {f:FuncId} {L:Hd->aC} {base h:Nat} {K:AV->List (Hd×aC)->Prop} {T:TypeId} {cs cs':List AV} {args args':List AV} {r:PV}
  (hc:cw P f args' [.box T cs] (.p r) [.box T cs']) (hb:h<base) (hL:L (.t h)= .box T cs/\∀k,L (.r h k)= .free)
  (h1:∀ρ,AV.cz ρ cs=cs) (h2:∀ρ,AV.cz ρ cs'=cs') (h3:∀k,¬AV.bo cs k)
  (ha:AV.cz (bn [h] base) args'=args) (hargs:∀a∈args',∀k,a.aU k->k.key<1)
  (hk:K (.p r) [(.t h,.box T cs')]) {raw:List AV}:ab P true f raw args L base K:=by
 refine .mk [h] args' (.p r) [.box T cs] [.box T cs'] (fun e=>by cases e) (by simp) (fun k hk=>by simp at hk;omega) ha rfl (fun i g B e1 e2=>?_) (fun B hB=>by simp at hB;subst hB;exact⟨fun e=>by(cases e),fun e=>by(cases e)⟩)
  (fun B hB k hk=>by simp at hB;subst hB;exact(h3 k hk).elim) (Nat.le_refl _) (fun B hB=>by simp at hB;subst hB;exact fun e=>by(cases e)) hargs hc ?_
 ·match i,e1,e2 with
  |0,e1,e2=>
   cases e1;cases e2
   refine⟨?_,hL.2⟩
   show _=aC.box T (AV.cz _ cs)
   rw[h1];exact hL.1
 ·show K (.p r) [(.t h,aC.box T (AV.cz _ cs'))]
  rw[h2];exact hk
theorem ab.Hk {P:Program} {f:FuncId} {L:Hd->aC} {base h:Nat} {K:AV->List (Hd×aC)->Prop} {T T2:TypeId} {cs cs':List AV} {args args':List AV} {W off len:Nat} {es:List PV}
  (hc:cw P f args' [.box T cs] (.vec 1 W off len) [.box T cs',.vec T2 W es]) (hb:h<base) (hL:L (.t h)= .box T cs/\∀k,L (.r h k)= .free)
  (h1:∀ρ,AV.cz ρ cs=cs) (h2:∀ρ,AV.cz ρ cs'=cs') (h3:∀k,¬AV.bo cs k)
  (ha:AV.cz (bn [h] base) args'=args) (hargs:∀a∈args',∀k,a.aU k->k.key<1)
  (hk:K (.vec base W off len) [(.t h,.box T cs'),(.t base,.vec T2 W es)]) {raw:List AV}:ab P true f raw args L base K:=by
 refine .mk [h] args' (.vec 1 W off len) [.box T cs] [.box T cs',.vec T2 W es] (fun e=>by cases e) (by simp) (fun k hk=>by simp at hk;omega) ha rfl (fun i g B e1 e2=>?_) (fun B hB=>by simp at hB;subst hB;exact⟨fun e=>by(cases e),fun e=>by(cases e)⟩)
  (fun B hB k hk=>by simp at hB;subst hB;exact(h3 k hk).elim) (by simp) (fun B hB=>by simp at hB;rcases hB with rfl|rfl<;>exact fun e=>by(cases e)) hargs hc ?_
 ·match i,e1,e2 with
  |0,e1,e2=>
   cases e1;cases e2
   refine⟨?_,hL.2⟩
   show _=aC.box T (AV.cz _ cs)
   rw[h1];exact hL.1
 ·show K (.vec base W off len) [(.t h,aC.box T (AV.cz _ cs')),(.t base,.vec T2 W es)]
  rw[h2];exact hk
theorem ab.G5 {P:Program} {f:FuncId} {L:Hd->aC} {base h g:Nat} {K:AV->List (Hd×aC)->Prop} {T T2 T3:TypeId} {cs cs':List AV} {args args':List AV} {W W3 off len:Nat} {es es3:List PV}
  (hc:cw P f args' [.box T cs,.vec T3 W3 es3] (.vec 2 W off len) [.box T cs',.vec T3 W3 es3,.vec T2 W es]) (hn:h≠g) (hb:h<base) (hg:g<base) (hL:L (.t h)= .box T cs/\∀k,L (.r h k)= .free) (hL2:L (.t g)= .vec T3 W3 es3/\∀k,L (.r g k)= .free)
  (h1:∀ρ,AV.cz ρ cs=cs) (h2:∀ρ,AV.cz ρ cs'=cs') (h3:∀k,¬AV.bo cs k)
  (ha:AV.cz (bn [h,g] base) args'=args) (hargs:∀a∈args',∀k,a.aU k->k.key<2)
  (hk:K (.vec base W off len) [(.t h,.box T cs'),(.t g,.vec T3 W3 es3),(.t base,.vec T2 W es)]) {raw:List AV}:ab P true f raw args L base K:=by
 refine .mk [h,g] args' (.vec 2 W off len) [.box T cs,.vec T3 W3 es3] [.box T cs',.vec T3 W3 es3,.vec T2 W es] (fun e=>by cases e) (by simp[hn]) (fun k hk=>by simp at hk;rcases hk with rfl|rfl<;>assumption) ha rfl (fun i g' B e1 e2=>?_) (fun B hB=>by simp at hB;rcases hB with rfl|rfl<;>exact⟨fun e=>by(cases e),fun e=>by(cases e)⟩)
  (fun B hB k hk=>by
   simp at hB
   rcases hB with rfl|rfl
   ·exact(h3 k hk).elim
   ·exact hk.elim) (by simp) (fun B hB=>by simp at hB;rcases hB with rfl|rfl|rfl<;>exact fun e=>by(cases e)) hargs hc ?_
 ·match i,e1,e2 with
  |0,e1,e2=>
   cases e1;cases e2
   refine⟨?_,hL.2⟩
   show _=aC.box T (AV.cz _ cs)
   rw[h1];exact hL.1
  |1,e1,e2=>cases e1;cases e2;exact hL2
 ·show K (.vec base W off len) [(.t h,aC.box T (AV.cz _ cs')),(.t g,.vec T3 W3 es3),(.t base,.vec T2 W es)]
  rw[h2];exact hk
abbrev Hh:FuncId->Bool:=fun f=>Nat.beq f 227||Nat.beq f 228
theorem aq.d7 {av:AV} {H:Hp} {T:TypeId} {W off len:Nat} {es:List PV} {u v:PV} (h:Nat) (hav:av= .bq [.vec h W off len,.p u,.p v]) (hu:bZ u) (hv:bZ v) (h0:look H h= .vec T W es) (hp:∀e∈es,∀c∈e.cells,bZ c):
  aq [] av H (.bq [.vec 0 W off len,.p u,.p v]) [.vec T W es]:=
 .mk [h] rfl (by simp) rfl (Nat.zero_le _) (fun h hl=>by rw[b6]at hl;exact hl.elim) (fun h hl=>absurd (b6 h) hl) (fun i h' B e1 e2=>by
  match i,e1,e2 with
  |0,e1,e2=>
   cases e1;cases e2
   rw[fg h0 trivial]
   exact .vec hp) (by
  rw[hav]
  refine .bq rfl fun i c d e1 e2=>?_
  match i,e1,e2 with
  |0,e1,e2=>cases e1;cases e2;exact .vec rfl
  |1,e1,e2=>cases e1;cases e2;exact .p _ hu
  |2,e1,e2=>cases e1;cases e2;exact .p _ hv)
def rh (A:Nat->Nat->Rat):Nat->(Nat->Rat)×(Nat->Rat)
 |0=>(fun _=>0,fun _=>0)
 |k+1=>(FE A k (rh A k).1 (rh A k).2,lvl A k (rh A k).1 (rh A k).2)
abbrev FH (A:Nat->Nat->Rat) (k:Nat):Rat:=Cu A k (rh A k).1 (rh A k).2
def zw (A:Nat->Nat->Rat) (y:Nat->Rat):Nat->Nat->Rat
 |0=>fun _=>0
 |k+1=>Gv A k y (zw A y k) (rh A (k+1)).2
def xF (D:Nat):Nat->Nat
 |0=>1
 |k+1=>14*xF D k+12*D+19
theorem mc {D k:Nat} (hD:D<=200) (hk:k<=5):1<=xF D k/\xF D k<=200000000:=by
 have:k=0\/k=1\/k=2\/k=3\/k=4\/k=5:=by omega
 rcases this with rfl|rfl|rfl|rfl|rfl|rfl<;>simp only[xF]<;>omega
variable {n k D:Nat} {A:Nat->Nat->Rat} {x y:Nat->Rat}
theorem qV (n5:n<=5) (hA:∀i j,i<n->j<n->Bz (A i j) D) (d1:1<=D) (dD:D<=200):∀k,k<=n->(∀i,i<k->Bz ((rh A k).1 i) (xF D k))/\∀i,i<k->Bz ((rh A k).2 i) (xF D k):=by
 intro k
 induction k with
 |zero=>exact fun _=>⟨fun i hi=>absurd hi (Nat.not_lt_zero _),fun i hi=>absurd hi (Nat.not_lt_zero _)⟩
 |succ k ih=>
  intro hk
  obtain⟨h1,h2⟩:=ih (by omega)
  have b:=mc (k:=k) dD (by omega)
  have b':=mc (k:=k+1) dD (by omega)
  have hb:y9 n A k (rh A k).1 (rh A k).2 D (xF D k):=⟨by omega,n5,hA,h1,h2,b.1,d1,by have:xF D (k+1)=14*xF D k+12*D+19:=rfl;omega⟩
  exact⟨hb.fb,hb.lb⟩
theorem Fm (n5:n<=5) (hA:∀i j,i<n->j<n->Bz (A i j) D) (d1:1<=D) (dD:D<=200) (hk:k<n):y9 n A k (rh A k).1 (rh A k).2 D (xF D k):=by
 obtain⟨h1,h2⟩:=qV n5 hA d1 dD k (by omega)
 have b:=mc (k:=k) dD (by omega)
 have b':=mc (k:=k+1) dD (by omega)
 exact⟨hk,n5,hA,h1,h2,b.1,d1,by have:xF D (k+1)=14*xF D k+12*D+19:=rfl;omega⟩
def Ga (D:Nat):Nat->Nat
 |0=>1
 |k+1=>5*Ga D k+4*D+5+xF D (k+1)+9
theorem kz {D k:Nat} (hD:D<=200) (hk:k<=5):1<=Ga D k/\Ga D k<=600000000:=by
 have:k=0\/k=1\/k=2\/k=3\/k=4\/k=5:=by omega
 rcases this with rfl|rfl|rfl|rfl|rfl|rfl<;>simp only[Ga,xF]<;>omega
theorem vI (n5:n<=5) (hA:∀i j,i<n->j<n->Bz (A i j) D) (d1:1<=D) (dD:D<=200) (hy:∀i,i<n->Bz (y i) 5):∀k,k<=n->∀i,i<k->Bz (zw A y k i) (Ga D k):=by
 intro k
 induction k with
 |zero=>exact fun _ i hi=>absurd hi (Nat.not_lt_zero _)
 |succ k ih=>
  intro hk
  exact ED (by omega) n5 hA (ih (by omega)) (hy k (by omega)) (qV n5 hA d1 dD (k+1) hk).2 (kz dD (by omega)).1
end
theorem kA (m:Nat->Bool) (m':Bool) (g:GV) {b c:Nat} (h:Wf g b c) (hk:g.k=1) (n5:g.n<=5) (y:Nat->Rat) (hA:∀i j,i<g.n->j<g.n->Bz (aW g i j) 163) (hy:∀i,i<g.n->Bz (y i) 5)
  (K:Nat) (hK:K<=g.n) (hp:∀t,t<K->FH (aW g) t≠0) (hz:K<g.n->FH (aW g) K=0) (R:AV) (nb:List aC)
  (e1:K<g.n->R= .bq [.p (ah false []),.p (.int .i64 ((K+1:Nat):Int)),.p (.int .i64 8)]/\nb=[])
  (e2:K=g.n->R= .bq [.vec 0 3 0 g.n,.p (.int .i64 0),.p (.int .i64 0)]/\nb=[.vec 38 3 (bd (ar g.n (zw (aW g) y g.n)))]):
  au Tryz.prog 208 [cG m g,ah m' (ar g.n y)] R nb:=by
 have hc:=Fe m g h hk
 have n1:=h.n1
 have hLB:=fun k (hk:k<g.n)=>Fm (k:=k) n5 hA (by decide) (by decide) hk
 have hX:=vI n5 hA (by decide) (by decide) hy
 refine aa (wr:=Hh) a6 mixed Tryz.func208 (by kernel_rfl) rfl (by kernel_rfl) (af rfl) (by simp) ?_
 refine ab.news hc (by intro B hB;simp at hB;subst hB;exact fun e=>by(cases e)) ?_
 refine ag.no (rfl) ?_
 refine SZ.mk (g.n:Int) (by simp[ar]) ?_
 refine ag.no (by simp) ?_
 refine aM.mk Nat (fun i=>match i with
   |0=>([(1,.p (ah m' (ar g.n y))),(4,.emp),(8,.fn 227 [.aF 0 0] []),(9,.fn 228 [.aF 0 0] []),(31,.p (.int .i64 g.n)),(32,.p (.int .i64 (0:Nat)))],[.box 252 (DK g.n (aW g) 0 (rh (aW g) 0).1 (rh (aW g) 0).2)])
   |i+1=>([(1,.p (ah m' (ar g.n y))),(4,.vec 1 3 0 (i+1)),(8,.fn 227 [.aF 0 0] []),(9,.fn 228 [.aF 0 0] []),(31,.p (.int .i64 g.n)),(32,.p (.int .i64 ((i+1:Nat):Int)))],[.box 252 (DK g.n (aW g) (i+1) (rh (aW g) (i+1)).1 (rh (aW g) (i+1)).2),.vec 38 3 (bd (ar (i+1) (zw (aW g) y (i+1))))]))
  (fun i=>i<=K) (fun i=>g.n-i) 0 [1] (Nat.zero_le _) ⟨rfl,by simp,rfl,rfl,rfl,⟨rfl,rfl,rfl,rfl,rfl,rfl,trivial⟩,⟨rfl,trivial⟩⟩ ?_
 intro i hi
 have hi:i<=K:=hi
 cases i with
 |zero=>
  have hb:=hLB 0 (by omega)
  refine ag.yes (decide_eq_true (by omega)) ?_
  by_cases h0:0<K
  ·have hx:=qp hb (hp 0 h0)
   have hm:=xK (f:=(rh (aW g) 1).1) (x:=zw (aW g) y 0) false m' hb.kn n5 hA (hX 0 (Nat.zero_le _)) (hy 0 (by omega)) (qV n5 hA (by decide) (by decide) 1 (by omega)).2 (kz (by decide) (by decide)).1 (by have:=(kz (D:=163) (k:=0) (by decide) (by decide)).2;have:=(mc (D:=163) (k:=1) (by decide) (by decide)).2;omega)
   refine ab.bx (h:=0) (args':=[.aF 0 0]) hx (by decide) ⟨rfl,fun _=>rfl⟩ (fun _=>rfl) (fun _=>rfl) (by intro k hk;simp[AV.bo,AV.aU]at hk) rfl (by intro a ha k hk;simp at ha;subst ha;have:0=k:=hk;subst this;decide) ?_
   refine ag.no (rfl) ?_
   refine ab.Hk (h:=0) (args':=[.aF 0 0,.p (ah false (ar 0 (zw (aW g) y 0))),.p (ah m' (ar g.n y))]) hm (by decide) ⟨rfl,fun _=>rfl⟩ (fun _=>rfl) (fun _=>rfl) (by intro k hk;simp[AV.bo,AV.aU]at hk) rfl (by
    intro a ha k hk;simp at ha
    rcases ha with rfl|rfl|rfl
    ·have:0=k:=hk;subst this;decide
    ·exact hk.elim
    ·exact hk.elim) ?_
   refine ae.ao ((0+1:Nat):Int) (by omega) (by omega) ?_
   exact⟨0+1,[0,1],h0,by show g.n-(0+1)<g.n-0;omega,⟨rfl,by simp,rfl,rfl,rfl,⟨rfl,rfl,rfl,rfl,rfl,rfl,trivial⟩,⟨rfl,rfl,trivial⟩⟩⟩
  ·obtain rfl:K=0:=by omega
   obtain⟨p,q,hx⟩:=ql hb (hz (by omega))
   obtain⟨rfl,rfl⟩:=e1 (by omega)
   refine ab.bx (h:=0) (args':=[.aF 0 0]) hx (by decide) ⟨rfl,fun _=>rfl⟩ (fun _=>rfl) (fun _=>rfl) (by intro k hk;simp[AV.bo,AV.aU]at hk) rfl (by intro a ha k hk;simp at ha;subst ha;have:0=k:=hk;subst this;decide) ?_
   refine ag.yes (rfl) ?_
   refine ae.ao ((0+1:Nat):Int) (by omega) (by omega) ?_
   exact aq.pure (.bq rfl fun i c d e1 e2=>by
    match i,e1,e2 with
    |0,e1,e2=>cases e1;cases e2;exact .emp 3
    |1,e1,e2=>cases e1;cases e2;exact .p _ (.int _ _)
    |2,e1,e2=>cases e1;cases e2;exact .p _ (.int _ _))
 |succ i=>
  by_cases hin:i+1<g.n
  ·have hb:=hLB (i+1) hin
   refine ag.yes (decide_eq_true (by omega)) ?_
   by_cases h0:i+1<K
   ·have hx:=qp hb (hp (i+1) h0)
    have hm:=yH (f:=(rh (aW g) (i+1+1)).1) (x:=zw (aW g) y (i+1)) m' hb.kn n5 hA (hX (i+1) (by omega)) (hy (i+1) hin) (qV n5 hA (by decide) (by decide) (i+1+1) (by omega)).2 (kz (by decide) (by omega)).1 (by have:=(kz (D:=163) (k:=i+1) (by decide) (by omega)).2;have:=(mc (D:=163) (k:=i+1+1) (by decide) (by omega)).2;omega)
    refine ab.bx (h:=0) (args':=[.aF 0 0]) hx (by decide) ⟨rfl,fun _=>rfl⟩ (fun _=>rfl) (fun _=>rfl) (by intro k hk;simp[AV.bo,AV.aU]at hk) rfl (by intro a ha k hk;simp at ha;subst ha;have:0=k:=hk;subst this;decide) ?_
    refine ag.no (rfl) ?_
    refine ab.G5 (h:=0) (g:=1) (args':=[.aF 0 0,.vec 1 3 0 (i+1),.p (ah m' (ar g.n y))]) hm (by decide) (by decide) (by decide) ⟨rfl,fun _=>rfl⟩ ⟨rfl,fun _=>rfl⟩ (fun _=>rfl) (fun _=>rfl) (by intro k hk;simp[AV.bo,AV.aU]at hk) rfl (by
     intro a ha k hk;simp at ha
     rcases ha with rfl|rfl|rfl
     ·have:0=k:=hk;subst this;decide
     ·have:1=k:=hk;subst this;decide
     ·exact hk.elim) ?_
    refine ae.ao ((i+1+1:Nat):Int) (by omega) (by omega) ?_
    exact⟨i+1+1,[0,2],h0,by show g.n-(i+1+1)<g.n-(i+1);omega,⟨rfl,by simp,rfl,rfl,rfl,⟨rfl,rfl,rfl,rfl,rfl,rfl,trivial⟩,⟨rfl,rfl,trivial⟩⟩⟩
   ·obtain rfl:K=i+1:=by omega
    obtain⟨p,q,hx⟩:=ql hb (hz hin)
    obtain⟨rfl,rfl⟩:=e1 hin
    refine ab.bx (h:=0) (args':=[.aF 0 0]) hx (by decide) ⟨rfl,fun _=>rfl⟩ (fun _=>rfl) (fun _=>rfl) (by intro k hk;simp[AV.bo,AV.aU]at hk) rfl (by intro a ha k hk;simp at ha;subst ha;have:0=k:=hk;subst this;decide) ?_
    refine ag.yes (rfl) ?_
    refine ae.ao ((i+1+1:Nat):Int) (by omega) (by omega) ?_
    exact aq.pure (.bq rfl fun i c d e1 e2=>by
     match i,e1,e2 with
     |0,e1,e2=>cases e1;cases e2;exact .emp 3
     |1,e1,e2=>cases e1;cases e2;exact .p _ (.int _ _)
     |2,e1,e2=>cases e1;cases e2;exact .p _ (.int _ _))
  ·refine ag.no (decide_eq_false (by omega)) ?_
   have hg:i+1=g.n:=by omega
   obtain⟨rfl,rfl⟩:=e2 (by omega)
   rw[<-hg]
   exact aq.d7 1 rfl (.int _ _) (.int _ _) rfl (aB _)
abbrev C6 (k n:Nat):PV:=.agg [.int .i64 (k:Int),.int .i64 (n:Int)]
theorem Ci (k n:Nat):bZ (C6 k n):=.agg _ fun c hc=>by
 simp only[List.mem_cons,List.not_mem_nil,or_false]at hc
 rcases hc with rfl|rfl<;>exact .int _ _
theorem A3 (m:Nat->Bool) (m':Bool) (g:GV) (n:Nat) (y:Nat->Rat):au Tryz.prog 229 [cG m g,ah m' (ar n y)] (.p (C6 g.k n)) []:=by
 refine aa (wr:=a9) a6 mixed Tryz.func229 (by kernel_rfl) rfl (by kernel_rfl) (af rfl) (by simp) ?_
 refine SZ.mk (n:Int) (by simp[ar]) ?_
 exact aq.pure (.p _ (Ci _ _))
theorem tg (k n:Nat):au Tryz.prog 230 [C6 k n,C6 k n] (.p (.int .i64 0)) []:=by
 refine aa (wr:=a9) a6 mixed Tryz.func230 (by kernel_rfl) rfl (by kernel_rfl) (af rfl) (by simp) ?_
 refine ag.yes ((by simp)) ?_
 exact aq.pure (.p _ (.int _ _))
theorem Da (m:Bool) (n:Nat) (y:Nat->Rat) {D:Nat} (hy:∀i,i<n->Bz (y i) D) (hD:D<=1000000) (hn:n<=1000):
  au Tryz.prog 251 [ah m (ar n y)] (.vec 0 3 0 n) [.vec 38 3 (bd (ar n y))]:=by
 refine aa (wr:=a9) a6 mixed Tryz.func251 (by kernel_rfl) rfl (by kernel_rfl) (af rfl) (by simp) ?_
 refine SZ.mk (n:Int) (by simp[ar]) ?_
 refine SZ.mk (n:Int) rfl ?_
 refine bT.mk (by simp) ?_
 refine bV.rat n rfl (by omega) ?_
 refine bT.mk (by simp)<|cH.mk (List.replicate n cu) (by simp) ?_
 refine SZ.mk (n:Int) (by simp[ar]) ?_
 refine aM.mk Nat (fun i=>([(3,.vec 0 3 0 n),(10,.p (ah m (ar n y))),(11,.p (.int .i64 n)),(12,.p (.int .i64 i))],[.vec 38 3 (fl n fun k=>if k<i then aJ (y k)else cu)]))
  (fun i=>i<=n) (fun i=>n-i) 0 [0] (Nat.zero_le _) ⟨rfl,by simp,rfl,rfl,rfl,⟨rfl,rfl,rfl,rfl,trivial⟩,⟨congrArg _ ((aX fun k hk=>if_neg (by omega)).trans (bE n cu).symm),trivial⟩⟩ ?_
 intro i hi
 have hi:i<=n:=hi
 by_cases hin:i<n
 ·have z:=(hy i hin).sz
  refine ag.yes (decide_eq_true (by omega)) ?_
  refine aG.rf i rfl hin ?_
  refine aO.cM (by kernel_rfl) ?_
  repeat refine aj.mk _ _ (And.intro rfl rfl) rfl ?_
  refine aj.mk _ _ (ab.pure (iy false (nl (y i).num.natAbs) (by have:=z.1;show aL _<=_;omega)) (And.intro rfl rfl)) rfl ?_
  repeat refine aj.mk _ _ (And.intro rfl rfl) rfl ?_
  refine aj.mk _ _ (ab.pure (iy false (nl (y i).den) (by have:=z.2;show aL _<=_;omega)) (And.intro rfl rfl)) rfl ?_
  repeat refine aj.mk _ _ (And.intro rfl rfl) rfl ?_
  refine aj.mk _ _ (aI.mk i rfl hin (And.intro rfl rfl)) rfl ?_
  refine aj.mk _ _ (bT.mk (by simp;omega)<|cH.mk _ (du (f:=y) hin) (And.intro rfl rfl)) rfl ?_
  repeat refine aj.mk _ _ (And.intro rfl rfl) rfl ?_
  refine br.mk (by kernel_rfl) ?_
  refine ae.ao ((i+1:Nat):Int) (by omega) (by omega) ?_
  exact⟨i+1,[0],hin,by show n-(i+1)<n-i;omega,⟨rfl,by simp,rfl,rfl,rfl,⟨rfl,rfl,rfl,rfl,trivial⟩,⟨rfl,trivial⟩⟩⟩
 ·refine ag.no (decide_eq_false (by omega)) ?_
  obtain rfl:i=n:=by omega
  rw[rQ]
  exact aq.new 0 rfl rfl (aB _)
theorem l4:bZ fB:=.raw _
def D4 (g:GV):GV:=⟨1,g.n,0,g.A,fun _=>0,fun _=>0,fun _=>0⟩
theorem yT (m:Nat->Bool) (g:GV) {b c:Nat} (h:Wf g b c) (hk:g.k=2):
  au Tryz.prog 231 [cG m g] (.p (.agg [.int .i64 1,.int .i64 g.n,.int .i64 0,ah false (ar g.la g.A),fB,fB,fB])) []:=by
 have c4:=h.c4
 have hbc:=h.bc
 have n6:=h.n6
 have hla:g.la=2*g.n-1:=by unfold GV.la aw;rw[hk];rfl
 refine aa (wr:=a9) a6 mixed Tryz.func231 (by kernel_rfl) rfl (by kernel_rfl) (af rfl) (by simp) ?_
 refine ab.pure (fr m g h) ?_
 refine ag.no (rfl) ?_
 refine ag.no (by rw[hk];rfl) ?_
 refine ag.yes (by rw[hk];rfl) ?_
 refine ab.fresh (Da (m 0) g.la g.A h.bA (by omega) (by omega)) ?_
 refine aq.pure (.mJ (fun d hd=>?_) rfl fun i c d e1 e2=>?_)
 ·simp only[List.mem_cons,List.not_mem_nil,or_false]at hd
  rcases hd with rfl|rfl|rfl|rfl|rfl|rfl|rfl<;>rfl
 ·match i,e1,e2 with
  |0,e1,e2=>cases e1;cases e2;exact .p _ (.int _ _)
  |1,e1,e2=>cases e1;cases e2;exact .p _ (.int _ _)
  |2,e1,e2=>cases e1;cases e2;exact .p _ (.int _ _)
  |3,e1,e2=>cases e1;cases e2;exact Bo (h:=3) (n:=g.la) (g:=g.A) rfl (by simp)
  |4,e1,e2=>cases e1;cases e2;exact .p _ l4
  |5,e1,e2=>cases e1;cases e2;exact .p _ l4
  |6,e1,e2=>cases e1;cases e2;exact .p _ l4
def Gg (n:Nat) (x:Nat->Rat) (t:Nat):Rat:=x (n-1-t)
def Cs (n i:Nat) (x:Nat->Rat) (t:Nat):Rat:=if t<i\/n<=t+i then x (n-1-t)else x t
theorem Bd {n i t:Nat} {x:Nat->Rat} (h:i+1+i<n) (ht:t<n):Cs n (i+1) x t=bz (bz (Cs n i x) (i+0) (Cs n i x (n-1-i))) (n-1-i+0) (Cs n i x i) t:=by
 unfold Cs bz
 simp only[Nat.add_zero]
 by_cases e1:t=n-1-i
 ·rw[if_pos e1,if_pos (show t<i+1\/n<=t+(i+1) by omega),if_neg (show ¬(i<i\/n<=i+i) by omega),e1];congr 1;omega
 ·rw[if_neg e1]
  by_cases e2:t=i
  ·rw[if_pos e2,if_pos (show t<i+1\/n<=t+(i+1) by omega),if_neg (show ¬(n-1-i<i\/n<=n-1-i+i) by omega),e2]
  ·rw[if_neg e2]
   by_cases e3:t<i\/n<=t+i
   ·rw[if_pos e3,if_pos (show t<i+1\/n<=t+(i+1) by omega)]
   ·rw[if_neg e3,if_neg (show ¬(t<i+1\/n<=t+(i+1)) by omega)]
theorem zT {n i t:Nat} {x:Nat->Rat} (h:n<=i+1+i) (ht:t<n):Gg n x t=Cs n i x t:=by
 unfold Gg Cs
 by_cases e3:t<i\/n<=t+i
 ·rw[if_pos e3]
 ·rw[if_neg e3,show n-1-t=t by omega]
theorem vZ (n:Nat) (x:Nat->Rat) (n1:1<=n) (hn:n<=1000):
  cw Tryz.prog 232 [.vec 0 3 0 n] [.vec 38 3 (bd (ar n x))] (.bq []) [.vec 38 3 (bd (ar n (Gg n x)))]:=by
 refine aa (wr:=a9) a6 mixed Tryz.func232 (by kernel_rfl) rfl (by kernel_rfl) (af rfl) (by intro B hB;simp at hB;subst hB;exact fun e=>by(cases e)) ?_
 refine SZ.mk (n:Int) (by simp[ar]) ?_
 refine ae.ao ((n:Int)-1-(0:Nat)) (by omega) (by omega) ?_
 refine aM.mk Nat (fun i=>([(0,.vec 0 3 0 n),(2,.p (.int .i64 (i:Nat))),(3,.p (.int .i64 ((n:Int)-1-(i:Nat))))],[.vec 38 3 (bd (ar n (Cs n i x)))]))
  (fun i=>i+i<=n) (fun i=>n-i) 0 [0] (Nat.zero_le _) ⟨rfl,by simp,rfl,rfl,rfl,⟨rfl,rfl,rfl,trivial⟩,⟨congrArg (fun l=>aC.vec 38 3 (bd l)) (d5 fun t ht=>by unfold Cs;rw[if_neg (by omega)]),trivial⟩⟩ ?_
 intro i hi
 have hi:i+i<=n:=hi
 by_cases hin:i+1+i<n
 ·refine ag.yes (decide_eq_true (by omega)) ?_
  refine aO.cM (by kernel_rfl) ?_
  repeat refine aj.mk _ _ (And.intro rfl rfl) rfl ?_
  refine aj.mk _ _ (aI.mk (n-1-i) (by omega) (by omega) (And.intro rfl rfl)) rfl ?_
  refine aj.mk _ _ (aG.rf (n-1-i) rfl (by omega) (And.intro rfl rfl)) rfl ?_
  repeat refine aj.mk _ _ (And.intro rfl rfl) rfl ?_
  refine aj.mk _ _ (aI.mk i rfl (by omega) (And.intro rfl rfl)) rfl ?_
  refine aj.mk _ _ (aG.rf i rfl (by omega) (And.intro rfl rfl)) rfl ?_
  refine aj.mk _ _ (aI.mk i rfl (by omega) (And.intro rfl rfl)) rfl ?_
  refine aj.mk _ _ (bT.rf (show i+0<n by omega)<|cH.rf (And.intro rfl rfl)) rfl ?_
  refine aj.mk _ _ (aI.mk (n-1-i) (by omega) (by omega) (And.intro rfl rfl)) rfl ?_
  refine aj.mk _ _ (bT.rf (show n-1-i+0<n by omega)<|cH.rf (And.intro rfl rfl)) rfl ?_
  repeat refine aj.mk _ _ (And.intro rfl rfl) rfl ?_
  refine br.mk (by kernel_rfl) ?_
  refine ae.ao ((i+1:Nat):Int) (by omega) (by omega) ?_
  refine ae.ao ((n:Int)-1-((i+1:Nat):Int)) (by omega) (by omega) ?_
  exact⟨i+1,[0],by show i+1+(i+1)<=n;omega,by show n-(i+1)<n-i;omega,⟨rfl,by simp,rfl,rfl,rfl,⟨rfl,rfl,rfl,trivial⟩,⟨congrArg (fun l=>aC.vec 38 3 (bd l)) (d5 fun t ht=>Bd hin ht),trivial⟩⟩⟩
 ·refine ag.no (decide_eq_false (by omega)) ?_
  rw[d5 (g:=Gg n x) (h:=Cs n i x) fun t ht=>zT (by omega) ht]
  exact aq.one rfl (aB _) (.bq rfl fun i c d e1 e2=>by simp at e1)
theorem ab.d7 {P:Program} {wr:Bool} {f:FuncId} {L:Hd->aC} {base:Nat} {K:AV->List (Hd×aC)->Prop} {pvs:List PV} {T:TypeId} {W off len:Nat} {es:List PV} {u v:PV} (hc:au P f pvs (.bq [.vec 0 W off len,.p u,.p v]) [.vec T W es])
  (hk:K (.bq [.vec base W off len,.p u,.p v]) [(base,.vec T W es)]):∀{raw:List AV},ab P wr f raw (pvs.map .p) L base K:=fun{raw}=>
 .mk [] (pvs.map .p) (.bq [.vec 0 W off len,.p u,.p v]) [] [.vec T W es] (fun _=>rfl) .nil (fun _ h=>by simp at h) (by rw[AV.bJ,List.map_map];exact List.map_congr_left fun _ _=>rfl) rfl (fun i h B e=>by simp at e) (fun _ h=>by simp at h) (fun _ h=>by simp at h) (Nat.zero_le _) (fun B h=>by simp at h;subst h;exact fun e=>by cases e)
  (fun a ha k hk=>by obtain⟨v,_,rfl⟩:=List.mem_map.1 ha;simp only[AV.aU]at hk) hc hk
theorem BS {g:GV} (h:Wf g 5 13) (hk:g.k=2):Wf (D4 g) 5 13 where
 k1:=Nat.le_refl _
 k7:=by show 1<=7;decide
 n1:=h.n1
 n6:=h.n6
 r2:=by show 0<=2;decide
 r1:=fun h=>by rcases h with h|h<;>cases h
 r0:=fun _=>rfl
 bA:=fun i hi=>h.bA i (by unfold GV.la aw;rw[hk];exact hi)
 bB:=fun i _=>bS.mono (by decide)
 bG:=fun i _=>bS.mono (by decide)
 bH:=fun i _=>bS.mono (by decide)
 ne:=fun i j _ hj=>absurd hj (Nat.not_lt_zero _)
 bc:=by decide
 c4:=by decide
abbrev He:FuncId->Bool:=fun f=>Nat.beq f 232
theorem uF (m:Nat->Bool) (m':Bool) (g:GV) (h:Wf g 5 13) (hk:g.k=2) (n5:g.n<=5) (y:Nat->Rat) (hy:∀i,i<g.n->Bz (y i) 5)
  (K:Nat) (hK:K<=g.n) (hp:∀t,t<K->FH (aW (D4 g)) t≠0) (hz:K<g.n->FH (aW (D4 g)) K=0) (R:AV) (nb:List aC)
  (e1:K<g.n->R= .bq [.p (ah false []),.p (.int .i64 ((K+1:Nat):Int)),.p (.int .i64 8)]/\nb=[])
  (e2:K=g.n->R= .bq [.vec 0 3 0 g.n,.p (.int .i64 0),.p (.int .i64 0)]/\nb=[.vec 38 3 (bd (ar g.n (Gg g.n (zw (aW (D4 g)) y g.n))))]):
  au Tryz.prog 209 [cG m g,ah m' (ar g.n y)] R nb:=by
 have n1:=h.n1
 have w:=BS h hk
 have hla:g.la=(D4 g).la:=by unfold GV.la aw;rw[hk];rfl
 have hl:=fun R nb e1 e2=>cw.r4 (pvs':=[.agg [.int .i64 1,.int .i64 g.n,.int .i64 0,ah false (ar g.la g.A),fB,fB,fB],ah m' (ar g.n y)]) (kA nJ m' (D4 g) w rfl n5 y (fun i j hi hj=>w.vj hi hj) hy K hK hp hz R nb e1 e2) rfl fun i p1 p2 q1 q2=>by
  match i,q1,q2 with
  |0,q1,q2=>cases q1;cases q2;exact .gen rfl rfl rfl (by rw[hla];exact .refl _) (.nil _ _) (.nil _ _) (.nil _ _)
  |1,q1,q2=>cases q1;cases q2;exact .refl _
 have hf:=tg 2 g.n
 have ho:=A3 m m' g g.n y
 rw[hk]at ho
 refine aa (wr:=He) a6 mixed Tryz.func209 (by kernel_rfl) rfl (by kernel_rfl) (af rfl) (by simp) ?_
 refine aO.mk (by kernel_rfl) ?_
 repeat refine aj.mk _ _ (And.intro rfl rfl) rfl ?_
 refine aj.mk _ _ (ab.pure (ho) (And.intro rfl rfl)) rfl ?_
 repeat refine aj.mk _ _ (And.intro rfl rfl) rfl ?_
 refine aj.mk _ _ (ab.pure (hf) (And.intro rfl rfl)) rfl ?_
 repeat refine aj.mk _ _ (And.intro rfl rfl) rfl ?_
 refine ag.no (rfl) ?_
 refine ab.pure (yT m g h hk) ?_
 by_cases hKn:K<g.n
 ·have hl:=hl _ _ (fun _=>⟨rfl,rfl⟩) (fun e=>absurd e (by show K≠g.n;omega))
  obtain⟨rfl,rfl⟩:=e1 hKn
  refine ab.bg (hl) (fun _=>rfl) ?_
  refine ag.yes (rfl) ?_
  exact aq.pure (.bq rfl fun i c d e1 e2=>by
   match i,e1,e2 with
   |0,e1,e2=>cases e1;cases e2;exact .emp 3
   |1,e1,e2=>cases e1;cases e2;exact .p _ (.int _ _)
   |2,e1,e2=>cases e1;cases e2;exact .p _ (.int _ _))
 ·have hl:=hl _ _ (fun e=>absurd e hKn) (fun _=>⟨rfl,rfl⟩)
  obtain⟨rfl,rfl⟩:=e2 (by omega)
  refine ab.d7 hl ?_
  refine ag.no (rfl) ?_
  refine ab.vec (h:=1) (args':=[.vec 0 3 0 g.n]) (by decide) rfl (vZ g.n (zw (aW (D4 g)) y g.n) n1 (by omega)) rfl (by intro a ha k hk;simp at ha;subst ha;have:0=k:=hk;subst this;decide) rfl ?_
  exact aq.d7 1 rfl (.int _ _) (.int _ _) rfl (aB _)
theorem Dv {n i:Nat} {y:Nat->Rat} (hi:i<n):((bd (ar n y)).take (i+1)).drop i=[aJ (y i)]:=by
 apply List.ext_getElem?
 intro k
 rw[List.getElem?_drop,List.getElem?_take]
 cases k with
 |zero=>rw[if_pos (by omega)];simp[ar,hi]
 |succ k=>rw[if_neg (by omega)];rfl
theorem t9 (m:Bool) (m':Bool) (n i:Nat) (y:Nat->Rat) (hi:i<n) (hn:n<=1000):wy Tryz.prog 198 [.int .i64 (i:Int),.eT m (ah m' (ar n y))] (.sl m' 3 [aJ (y i)]):=by
 refine mW (wr:=a9) a6 mixed Tryz.func198 (by kernel_rfl) rfl (by kernel_rfl) (af rfl) ?_
 refine ae.ao ((i+1:Nat):Int) (by omega) (by omega) ?_
 refine ae.ao ((i+1:Nat):Int) (by omega) (by omega) ?_
 refine SZ.mk ((i+1:Nat):Int) rfl<|bT.mk (by simp)<|fp.mk i (i+1) rfl rfl (by omega) (by simp[ar];omega)<|BE.sl<|cH.mk [aJ (y i)] (Dv hi) ?_
 exact rfl
theorem E3 (m m' m'':Bool) (n:Nat) (A:Nat->Nat->Rat) (y:Nat->Rat) (h0:0<n) (hn:n<=900):
  au Tryz.prog 197 [cm m m' n n A,.fn 198 [.eT true (ah m'' (ar n y))]] (.aF 0 0) (jb n (n+1) (kO n A y) id 1):=by
 refine aa (wr:=a9) a6 mixed Tryz.func197 (by kernel_rfl) rfl (by kernel_rfl) (af rfl) (by simp) ?_
 refine ab.pure (AW) ?_
 refine SZ.mk (n:Int) (by simp) ?_
 refine aM.Cf Nat (fun i=>match i with
   |0=>([(0,.p (cm m m' n n A)),(1,.p (.fn 198 [.eT true (ah m'' (ar n y))])),(5,.aF 0 0),(11,.p (cm m m' n n A)),(12,.p (.int .i64 n)),(13,.p (.int .i64 (0:Nat)))],[.box 209 [.p fB,.p (.bool (decide ((1:Rat).num<0))),.p (bC (1:Rat).num.natAbs),.p (bC (1:Rat).den)],.bt 38 3 (cY 0 (n+1) (kO n A y))])
   |i+1=>([(0,.p (cm m m' n n A)),(1,.p (.fn 198 [.eT true (ah m'' (ar n y))])),(5,.aF 0 0),(11,.p (cm m m' n n A)),(12,.p (.int .i64 n)),(13,.p (.int .i64 ((i+1:Nat):Int)))],[.box 209 (B7 (i+1) 1),.rows 24 (cZ 2 (n+1) (i+1) id),.bt 38 3 (cY (i+1) (n+1) (kO n A y))]))
  (fun i=>i<=n) (fun i=>n-i) 0 [0,1] _ _ (.bt 38 3 (.done _ _)) (Nat.zero_le _) ⟨rfl,by simp,rfl,rfl,rfl,⟨rfl,rfl,rfl,rfl,rfl,rfl,trivial⟩,⟨rfl,rfl,trivial⟩⟩ ?_
 intro i hi
 have hi:i<=n:=hi
 cases i with
 |zero=>
  refine ag.yes (decide_eq_true (by omega)) ?_
  refine aG.mf 0 rfl h0 ?_
  refine aO.cM (by kernel_rfl) ?_
  repeat refine aj.mk _ _ (And.intro rfl rfl) rfl ?_
  refine aj.mk _ _ (SZ.mk (n:Int) (by simp[ar]) (And.intro rfl rfl)) rfl ?_
  repeat refine aj.mk _ _ (And.intro rfl rfl) rfl ?_
  refine aj.mk _ _ (ae.ao ((2*n:Nat):Int) (by omega) (by omega) (And.intro rfl rfl)) rfl ?_
  refine aj.mk _ _ (bV.rat (2*n) rfl (by omega) (And.intro rfl rfl)) rfl ?_
  repeat refine aj.mk _ _ (And.intro rfl rfl) rfl ?_
  refine aj.mk _ _ (ga.mk rfl<|ck.mk (by simp[ar];omega) (by simp[ar];omega)<|cH.mk (bd (ar n (A 0))) (by simp)<|mQ.mk n (by simp[ar]) (And.intro rfl rfl)) rfl ?_
  repeat refine aj.mk _ _ (And.intro rfl rfl) rfl ?_
  refine aj.mk _ _ (ab.ni [.int .i64 ((0:Nat):Int),.eT true (ah m'' (ar n y))] _ rfl (t9 true m'' n 0 y h0 (by omega)) (And.intro rfl rfl)) rfl ?_
  refine aj.mk _ _ (ga.mk (by simp[ar])<|ck.mk (by simp[ar];omega) (by simp[ar];omega)<|cH.mk (bd (ar (n+1) (kO n A y 0))) (xi n A y 0)<|mQ.mk (n+1) (by simp[ar]) (And.intro rfl rfl)) rfl ?_
  repeat refine aj.mk _ _ (And.intro rfl rfl) rfl ?_
  refine aj.mk _ _ (ck.mk (by simp) (by simp) (And.intro rfl rfl)) rfl ?_
  repeat refine aj.mk _ _ (And.intro rfl rfl) rfl ?_
  refine br.mk (by kernel_rfl) ?_
  refine ae.ao ((0+1:Nat):Int) (by omega) (by omega) ?_
  exact⟨0+1,[0,6,5001],h0,by show n-(0+1)<n-0;omega,⟨rfl,by simp,rfl,rfl,rfl,⟨rfl,rfl,rfl,rfl,rfl,rfl,trivial⟩,⟨rfl,congrArg _ (fA rfl (by decide) (by simp[aN])),⟨_,_,_,_,rfl,rfl,congrArg _ dO⟩,aV fun i hi=>by simpa[aN]using hi,trivial⟩⟩⟩
 |succ i=>
  by_cases hin:i+1<n
  ·refine ag.yes (decide_eq_true (by omega)) ?_
   refine aG.mf (i+1) rfl hin ?_
   refine aO.cM (by kernel_rfl) ?_
   repeat refine aj.mk _ _ (And.intro rfl rfl) rfl ?_
   refine aj.mk _ _ (SZ.mk (n:Int) (by simp[ar]) (And.intro rfl rfl)) rfl ?_
   repeat refine aj.mk _ _ (And.intro rfl rfl) rfl ?_
   refine aj.mk _ _ (ae.ao ((2*n:Nat):Int) (by omega) (by omega) (And.intro rfl rfl)) rfl ?_
   refine aj.mk _ _ (bV.rat (2*n) rfl (by omega) (And.intro rfl rfl)) rfl ?_
   repeat refine aj.mk _ _ (And.intro rfl rfl) rfl ?_
   refine aj.mk _ _ (ga.mk rfl<|ck.mk (by simp[ar];omega) (by simp[ar];omega)<|cH.mk (bd (ar n (A (i+1)))) (by simp)<|mQ.mk n (by simp[ar]) (And.intro rfl rfl)) rfl ?_
   repeat refine aj.mk _ _ (And.intro rfl rfl) rfl ?_
   refine aj.mk _ _ (ab.ni [.int .i64 ((i+1:Nat):Int),.eT true (ah m'' (ar n y))] _ rfl (t9 true m'' n (i+1) y hin (by omega)) (And.intro rfl rfl)) rfl ?_
   refine aj.mk _ _ (ga.mk (by simp[ar])<|ck.mk (by simp[ar];omega) (by simp[ar];omega)<|cH.mk (bd (ar (n+1) (kO n A y (i+1)))) (xi n A y (i+1))<|mQ.mk (n+1) (by simp[ar]) (And.intro rfl rfl)) rfl ?_
   repeat refine aj.mk _ _ (And.intro rfl rfl) rfl ?_
   refine aj.mk _ _ (ga.mk (by simp)<|ck.mk (by simp;omega) (by simp;omega)<|pT.mk _ rfl<|mQ.mk (i+1+1) (by simp) (And.intro rfl rfl)) rfl ?_
   repeat refine aj.mk _ _ (And.intro rfl rfl) rfl ?_
   refine br.mk (by kernel_rfl) ?_
   refine ae.ao ((i+1+1:Nat):Int) (by omega) (by omega) ?_
   exact⟨i+1+1,[0,7,6002],hin,by show n-(i+1+1)<n-(i+1);omega,⟨rfl,by simp,rfl,rfl,rfl,⟨rfl,rfl,rfl,rfl,rfl,rfl,trivial⟩,⟨rfl,congrArg _ (fA rfl (by decide) (by simp[aN])),⟨_,_,_,_,rfl,rfl,congrArg _ dO⟩,aV fun i hi=>by simpa[aN]using hi,trivial⟩⟩⟩
  ·refine ag.no (decide_eq_false (by omega)) ?_
   obtain rfl:n=i+1:=by omega
   exact aq.mk [0,1,2] rfl (by decide) rfl (Nat.zero_le _) (fun h hl=>by rw[b6]at hl;exact hl.elim) (fun h hl=>absurd (b6 h) hl) (wR rfl) (.aF rfl)
theorem aq.cV {av:AV} {H:Hp} {T:TypeId} {W off len:Nat} {es:List PV} {v:PV} (h:Nat) (hav:av= .bq [.vec h W off len,.p v]) (hv:bZ v) (h0:look H h= .vec T W es) (hp:∀e∈es,∀c∈e.cells,bZ c):aq [] av H (.bq [.vec 0 W off len,.p v]) [.vec T W es]:=
 .mk [h] rfl (by simp) rfl (Nat.zero_le _) (fun h hl=>by rw[b6]at hl;exact hl.elim) (fun h hl=>absurd (b6 h) hl) (fun i h' B e1 e2=>by
  match i,e1,e2 with
  |0,e1,e2=>cases e1;cases e2;rw[fg h0 trivial];exact .vec hp) (by
  rw[hav]
  refine .bq rfl fun i c d e1 e2=>?_
  match i,e1,e2 with
  |0,e1,e2=>cases e1;cases e2;exact .vec rfl
  |1,e1,e2=>cases e1;cases e2;exact .p _ hv)
theorem ab.GO {P:Program} {wr:Bool} {f:FuncId} {L:Hd->aC} {n w:Nat} {K:AV->List (Hd×aC)->Prop} {G:Nat->Nat->Rat} {s:Nat->Nat} {q:Rat} {pvs:List PV} (hc:au P f pvs (.aF 0 0) (jb n w G s q))
  (hk:K (.aF 1 0) [(.t 1,.box 209 (CK n q)),(.t 2,.rows 24 (cZ 3 w n s)),(.t 3,.bt 38 3 (cY n w G))]) {raw:List AV}:ab P wr f raw (pvs.map .p) L 1 K:=by
 refine ab.news hc (fun B hB=>by simp only[jb,List.mem_cons,List.not_mem_nil,or_false]at hB;rcases hB with rfl|rfl|rfl<;>exact fun e=>by(cases e)) ?_
 have e:AV.cz (bn [] 1) (cZ 2 w n s)=cZ 3 w n s:=by
  rw[eu];exact aX fun i _=>rfl
 show K (.aF 1 0) [(.t 1,aC.box _ (CK n q)),(.t 2,.rows _ (AV.cz _ _)),(.t 3,_)]
 rw[e];exact hk
abbrev GN:FuncId->Bool:=fun f=>Nat.beq f 199
abbrev uh (n:Nat) (A:Nat->Nat->Rat) (y:Nat->Rat):Ew:=Ct n (kO n A y) n
def xD (n:Nat) (A:Nat->Nat->Rat) (y:Nat->Rat) (i:Nat):Rat:=(uh n A y).B i n/(uh n A y).B i i
theorem mF {n D:Nat} {A:Nat->Nat->Rat} {y:Nat->Rat} (hA:∀i k,i<n->k<n->Bz (A i k) D) (hy:∀i,i<n->Bz (y i) D):∀i k,i<n->k<n+1->Bz (kO n A y i k) D:=fun i k hi hk=>by
 unfold kO
 split
 ·exact hA i k hi (by assumption)
 ·exact hy i hi
theorem zN {D:Nat} (hD:D<=1000) {j:Nat} (hj:j<=5):zj D j<=2000000:=by
 have:j=0\/j=1\/j=2\/j=3\/j=4\/j=5:=by omega
 rcases this with rfl|rfl|rfl|rfl|rfl|rfl<;>simp only[zj]<;>omega
theorem D8 {n D:Nat} {A:Nat->Nat->Rat} {y:Nat->Rat} (hA:∀i k,i<n->k<n->Bz (A i k) D) (hy:∀i,i<n->Bz (y i) D) (d1:1<=D) (dD:D<=1000) (hn:n<=5):∀i,i<n->Bz (xD n A y i) 4000000:=fun i hi=>by
 have I:=jZ (mF hA hy) d1 (Nat.le_succ n) n (Nat.le_refl _)
 have:=zN dD (j:=n) hn
 exact((I.hB i n hi (by omega)).div (I.hB i i hi (by omega))).mono (by omega)
theorem qo (m m' m'':Bool) (n:Nat) (A:Nat->Nat->Rat) (y:Nat->Rat) {D:Nat} (hA:∀i k,i<n->k<n->Bz (A i k) D) (hy:∀i,i<n->Bz (y i) D) (h0:0<n) (hn:n<=5) (d1:1<=D) (dD:D<=1000)
  (R:AV) (nb:List aC) (e1:(uh n A y).r<n->R= .bq [.p (ah false []),.p (.int .i64 9)]/\nb=[]) (e2:(uh n A y).r=n->R= .bq [.vec 0 3 0 n,.p (.int .i64 0)]/\nb=[.vec 38 3 (bd (ar n (xD n A y)))]):
  au Tryz.prog 155 [cm m m' n n A,ah m'' (ar n y)] R nb:=by
 have I:=jZ (mF hA hy) d1 (Nat.le_succ n) n (Nat.le_refl _)
 have dd:=zN dD (j:=n) hn
 refine aa (wr:=GN) a6 mixed Tryz.func155 (by kernel_rfl) rfl (by kernel_rfl) (af rfl) (by simp) ?_
 refine ab.pure (od m m' n A hA (by omega) h0 (by omega)) ?_
 refine ag.no (rfl) ?_
 refine SZ.mk (n:Int) (by simp[ar]) ?_
 refine SZ.mk (n:Int) (by simp) ?_
 refine ag.no (by simp) ?_
 refine ab.pure (mI m'' n y hy (by omega) (by omega)) ?_
 refine ag.no (rfl) ?_
 refine ab.GO (E3 m m' m'' n A y h0 (by omega)) ?_
 refine ab.Hm (pvs:=[.bool true]) (yb n (n+1) (kO n A y) (mF hA hy) d1 (by omega) hn (by omega) dD) (fun _=>rfl) (by decide) ⟨rfl,fun _=>rfl⟩ ⟨rfl,fun _=>rfl⟩ ⟨rfl,fun _=>rfl⟩ ?_
 refine SZ.mk (n:Int) (by simp) ?_
 generalize hT:Ct n (kO n A y) n=t at I
 have hT':uh n A y=t:=hT
 rw[hT']at e1 e2
 by_cases hr:t.r<n
 ·obtain⟨rfl,rfl⟩:=e1 hr
  refine ag.yes (decide_eq_true (by omega)) ?_
  exact aq.pure (.bq rfl fun i c d e1 e2=>by
   match i,e1,e2 with
   |0,e1,e2=>cases e1;cases e2;exact .emp 3
   |1,e1,e2=>cases e1;cases e2;exact .p _ (.int _ _))
 ·have hr':t.r=n:=by have:=I.rn;omega
  obtain⟨rfl,rfl⟩:=e2 hr'
  have nz:=I.nz hr'
  refine ag.no (decide_eq_false (by omega)) ?_
  refine SZ.mk (n:Int) (by simp) ?_
  refine SZ.mk (n:Int) rfl ?_
  refine bT.mk (by simp) ?_
  refine bV.rat n rfl (by omega) ?_
  refine SZ.mk (n:Int) rfl ?_
  refine aM.mk Nat (fun i=>([(0,.p (cm m m' n n A)),(7,.vec 2 3 0 n),(39,.vec 0 1 0 n),(40,.p (.int .i64 n)),(41,.p (.int .i64 i))],[.rows 24 (cZ 1 (n+1) n t.s),.bt 38 3 (cY n (n+1) t.G),.vec 38 3 (fl n fun k=>if k<i then aJ (xD n A y k)else cu)]))
   (fun i=>i<=n) (fun i=>n-i) 0 [2,3,4] (Nat.zero_le _) ⟨rfl,by simp,rfl,rfl,rfl,⟨rfl,rfl,rfl,rfl,rfl,trivial⟩,⟨congrArg _ (aZ 3 rfl (by decide)),rfl,congrArg _ ((aX fun k hk=>if_neg (by omega)).trans (bE n cu).symm),aV fun q hq=>by simpa[aN]using I.ps.lt q hq,trivial⟩⟩ ?_
  intro i hi
  have hi:i<=n:=hi
  by_cases hin:i<n
  ·have z1:=I.hB i n hin (by omega)
   have z2:=I.hB i i hin (by omega)
   have hx:t.B i n/t.B i i=xD n A y i:=by unfold xD;rw[hT']
   have hq:=fY (t.B i n) (t.B i i) (nz i hin) z1.sz z2.sz (by omega)
   rw[hx]at hq
   refine ag.yes (decide_eq_true (by omega)) ?_
   refine aI.mk i rfl hin ?_
   refine cq.cZ (i+0) rfl hin ?_
   refine aO.cM (by kernel_rfl) ?_
   repeat refine aj.mk _ _ (And.intro rfl rfl) rfl ?_
   refine aj.mk _ _ (SZ.mk (n:Int) (by simp) (And.intro rfl rfl)) rfl ?_
   refine aj.mk _ _ (aI.mk n rfl (by omega) (And.intro rfl rfl)) rfl ?_
   refine aj.mk _ _ (fX.cY (I.ps.lt i hin)<|aG.rv (n+0) (t.B i n) rfl (by omega) (I.hG i n hin (by omega)) (And.intro rfl rfl)) rfl ?_
   repeat refine aj.mk _ _ (And.intro rfl rfl) rfl ?_
   refine aj.mk _ _ (aI.mk i rfl (by omega) (And.intro rfl rfl)) rfl ?_
   refine aj.mk _ _ (fX.cY (I.ps.lt i hin)<|aG.rv (i+0) (t.B i i) rfl (by omega) (I.hG i i hin (by omega)) (And.intro rfl rfl)) rfl ?_
   refine aj.mk _ _ (ab.bg (hq) (fun _=>rfl) (And.intro rfl rfl)) rfl ?_
   repeat refine aj.mk _ _ (And.intro rfl rfl) rfl ?_
   refine aj.mk _ _ (aI.mk i rfl hin (And.intro rfl rfl)) rfl ?_
   refine aj.mk _ _ (bT.mk (by simp;omega)<|cH.mk _ (du (f:=xD n A y) hin) (And.intro rfl rfl)) rfl ?_
   repeat refine aj.mk _ _ (And.intro rfl rfl) rfl ?_
   refine br.mk (by kernel_rfl) ?_
   refine ae.ao ((i+1:Nat):Int) (by omega) (by omega) ?_
   exact⟨i+1,[0,1,2],hin,by show n-(i+1)<n-i;omega,⟨rfl,by simp,rfl,rfl,rfl,⟨rfl,rfl,rfl,rfl,rfl,trivial⟩,⟨congrArg _ (aZ 1 rfl (by decide)),rfl,rfl,aV fun q hq=>by simpa[aN]using I.ps.lt q hq,trivial⟩⟩⟩
  ·refine ag.no (decide_eq_false (by omega)) ?_
   obtain rfl:i=n:=by omega
   rw[rQ]
   exact aq.cV 2 rfl (.int _ _) rfl (aB _)
theorem ab.cV {P:Program} {wr:Bool} {f:FuncId} {L:Hd->aC} {base:Nat} {K:AV->List (Hd×aC)->Prop} {pvs:List PV} {T:TypeId} {W off len:Nat} {es:List PV} {v:PV} (hc:au P f pvs (.bq [.vec 0 W off len,.p v]) [.vec T W es])
  (hk:K (.bq [.vec base W off len,.p v]) [(base,.vec T W es)]):∀{raw:List AV},ab P wr f raw (pvs.map .p) L base K:=fun{raw}=>
 .mk [] (pvs.map .p) (.bq [.vec 0 W off len,.p v]) [] [.vec T W es] (fun _=>rfl) .nil (fun _ h=>by simp at h) (by rw[AV.bJ,List.map_map];exact List.map_congr_left fun _ _=>rfl) rfl (fun i h B e=>by simp at e) (fun _ h=>by simp at h) (fun _ h=>by simp at h) (Nat.zero_le _) (fun B h=>by simp at h;subst h;exact fun e=>by cases e)
  (fun a ha k hk=>by obtain⟨v,_,rfl⟩:=List.mem_map.1 ha;simp only[AV.aU]at hk) hc hk
theorem sP (m m':Bool) (n:Nat) (x f:Nat->Rat) {s b:Nat} (hx:∀i,i<n+1->Bz (x i) s) (hf:∀i,i<n+1->Bz (f i) b) (hd:∀i j,i<n+1->j<n+1->x i=x j->i=j)
  (hb:bs (2*s+2) b (n+n+1)<=1048576) (hn:n<=1000000000):
  au Tryz.prog 235 [ah m (ar (n+1) x),ah m' (ar (n+1) f)] (.vec 0 3 0 (n+1)) [.vec 38 3 (bd (ar (n+1) (pH x n f)))]:=by
 refine aa (wr:=a9) a6 mixed Tryz.func235 (by kernel_rfl) rfl (by kernel_rfl) (af rfl) (by simp) ?_
 obtain⟨t,ht⟩:∃t,t=2*s+2:=⟨_,rfl⟩
 rw[<-ht]at hb
 have hB:∀r,r<=n+n->2*bs t b r+t<=1048576:=fun r hr=>Nat.le_trans (eC (t:=t) (b:=b) (show r+1<=n+n+1 by omega)) hb
 have ho:=xq m' (ar (n+1) f) (Bl.ar hf) (k:=b) (by have:=hB 0 (by omega);simp only[bs]at this;omega) (by rw[az];omega)
 rw[az]at ho
 refine ab.fresh ho ?_
 refine SZ.mk ((n+1:Nat):Int) rfl ?_
 refine ae.ao (n:Int) (by omega) (by omega) ?_
 obtain⟨X,hX⟩:∃X,X=ar (n+1) x:=⟨_,rfl⟩
 have hXl:X.length=n+1:=by rw[hX,az]
 have hXB:Bl X s:=by rw[hX];exact Bl.ar hx
 have hXg:∀i,i<n+1->X.getD i 0=x i:=fun i hi=>by rw[hX,bj hi]
 rw[<-hX]
 refine aM.mk Nat (fun k=>([(0,.p (ah m X)),(5,.vec 0 3 0 (n+1)),(6,.p (.int .i64 n)),(16,.p (.int .i64 n)),(17,.p (.int .i64 k))],[.vec 38 3 (bd (ar (n+1) (iter (dv x) k f)))]))
  (fun k=>k<=n/\∀i,i<n+1->Bz (iter (dv x) k f i) (bs t b k)) (fun k=>n-k) 0 [0] ⟨Nat.zero_le _,hf⟩
  ⟨rfl,by simp,rfl,rfl,rfl,⟨rfl,rfl,rfl,rfl,rfl,trivial⟩,⟨rfl,trivial⟩⟩ ?_
 intro k ⟨h1,h2⟩
 by_cases hk:k<n
 ·refine ag.yes (decide_eq_true (by omega)) ?_
  obtain⟨dh,hold⟩:∃dh,dh=iter (dv x) k f:=⟨_,rfl⟩
  rw[<-hold]at h2
  rw[<-hold]
  have hBk:=hB k (by omega)
  refine aM.mk Nat (fun i=>([(0,.p (ah m X)),(5,.vec 0 3 0 (n+1)),(6,.p (.int .i64 n)),(7,.p (.int .i64 k)),(8,.p (.int .i64 i)),(16,.p (.int .i64 n)),(17,.p (.int .i64 k))],[.vec 38 3 (bd (ar (n+1) (nj i (dv x k dh) dh)))]))
   (fun i=>k<=i/\i<=n/\∀j,j<n+1->i<j->Bz (dv x k dh j) (bs t b (k+1))) id n [0] ⟨by omega,Nat.le_refl _,fun j h1 h2=>by omega⟩
   ⟨rfl,by simp,rfl,rfl,rfl,⟨rfl,rfl,rfl,rfl,rfl,rfl,rfl,trivial⟩,⟨ka fun i hi=>iD (by omega),trivial⟩⟩ ?_
  intro i ⟨g1,g2,g3⟩
  by_cases hi:k<i
  ·refine ag.yes (decide_eq_true (by omega)) ?_
   have hA:=qk m X i (k+1) (by omega) (by omega) hXB (by omega) (by omega)
   rw[hXg i (by omega),hXg (i-(k+1)) (by omega)]at hA
   have hne:x i-x (i-(k+1))≠0:=Cg fun e=>by have:=hd _ _ (by omega) (by omega) e;omega
   have z1:=h2 i (by omega)
   have z2:=h2 (i-1) (by omega)
   have z3:=z1.sub z2
   have z4:=(hx i (by omega)).sub (hx (i-(k+1)) (by omega))
   refine aO.mk (by kernel_rfl) ?_
   repeat refine aj.mk _ _ (And.intro rfl rfl) rfl ?_
   refine aj.mk _ _ (aI.mk i rfl (by omega) (And.intro rfl rfl)) rfl ?_
   refine aj.mk _ _ (aG.rv i (dh i) rfl (by omega) (iD (by omega)) (And.intro rfl rfl)) rfl ?_
   repeat refine aj.mk _ _ (And.intro rfl rfl) rfl ?_
   refine aj.mk _ _ (ae.ao ((i-1:Nat):Int) (by omega) (by omega) (And.intro rfl rfl)) rfl ?_
   refine aj.mk _ _ (aI.mk (i-1) rfl (by omega) (And.intro rfl rfl)) rfl ?_
   refine aj.mk _ _ (aG.rv (i-1) (dh (i-1)) rfl (by omega) (iD (by omega)) (And.intro rfl rfl)) rfl ?_
   repeat refine aj.mk _ _ (And.intro rfl rfl) rfl ?_
   refine aj.mk _ _ (ab.pure (cn _ _ z1.sz z2.sz (by omega)) (And.intro rfl rfl)) rfl ?_
   repeat refine aj.mk _ _ (And.intro rfl rfl) rfl ?_
   refine aj.mk _ _ (ae.ao ((k+1:Nat):Int) (by omega) (by omega) (And.intro rfl rfl)) rfl ?_
   refine aj.mk _ _ (ab.pure (hA) (And.intro rfl rfl)) rfl ?_
   refine aj.mk _ _ (ab.pure (tD _ _ hne z3 z4 (by omega)) (And.intro rfl rfl)) rfl ?_
   have hnew:dv x k dh i=(dh i-dh (i-1))/(x i-x (i-(k+1))):=if_pos hi
   refine aj.mk _ _ (aI.mk i rfl (by omega) (And.intro rfl rfl)) rfl ?_
   refine aj.mk _ _ (bT.rf (show i+0<n+1 by omega)<|cH.rv (nj (i-1) (dv x k dh) dh) (by rw[<-hnew];exact sC (by omega)) (And.intro rfl rfl)) rfl ?_
   refine ae.ao ((i-1:Nat):Int) (by omega) (by omega) ?_
   refine⟨i-1,[0],⟨by omega,by omega,fun j hj1 hj2=>?_⟩,by show i-1<i;omega,⟨rfl,by simp,rfl,rfl,rfl,⟨rfl,rfl,rfl,rfl,rfl,rfl,rfl,trivial⟩,⟨rfl,trivial⟩⟩⟩
   by_cases e:j=i
   ·rw[e,hnew]
    refine(z3.div z4).mono ?_
    simp only[bs];omega
   ·exact g3 j hj1 (by omega)
  ·refine ag.no (decide_eq_false (by omega)) ?_
   have hik:i=k:=by omega
   subst hik
   refine ae.ao ((i+1:Nat):Int) (by omega) (by omega) ?_
   have hmix:nj i (dv x i dh) dh=iter (dv x) (i+1) f:=by
    funext m
    rw[iter,<-hold]
    unfold nj
    split
    ·rfl
    ·rename_i h;rw[dv,if_neg h]
   refine⟨i+1,[0],⟨hk,fun j hj=>?_⟩,by show n-(i+1)<n-i;omega,⟨rfl,by simp,rfl,rfl,rfl,⟨rfl,rfl,rfl,rfl,rfl,trivial⟩,⟨congrArg (fun g=>aC.vec 38 3 (bd (ar (n+1) g))) hmix.symm,trivial⟩⟩⟩
   rw[iter,<-hold]
   by_cases e:i<j
   ·exact g3 j hj e
   ·rw[dv,if_neg e]
    exact(h2 j hj).mono (eC (Nat.le_succ _))
 ·refine ag.no (decide_eq_false (by omega)) ?_
  have hkn:k=n:=by omega
  subst hkn
  obtain⟨c1,hc1⟩:∃c1,c1=iter (dv x) k f:=⟨_,rfl⟩
  rw[<-hc1]at h2
  rw[<-hc1]
  have hthr:pH x k f=iter (fun r=>cL x k (k-1-r)) k c1:=by rw[pH,hc1]
  rw[hthr]
  refine ae.ao ((k:Int)-1) rfl (by omega) ?_
  refine aM.mk (Nat×Int) (fun(j,z)=>([(0,.p (ah m X)),(5,.vec 0 3 0 (k+1)),(6,.p (.int .i64 k)),(9,.p (.int .i64 z))],[.vec 38 3 (bd (ar (k+1) (iter (fun r=>cL x k (k-1-r)) (k-j) c1)))]))
   (fun(j,z)=>j<=k/\z=(j:Int)-1/\∀i,i<k+1->Bz (iter (fun r=>cL x k (k-1-r)) (k-j) c1 i) (bs t b (k+(k-j)))) (fun x=>x.1) (k,(k:Int)-1) [0] ⟨Nat.le_refl _,rfl,by rw[Nat.sub_self];exact h2⟩
   ⟨rfl,by simp,rfl,rfl,rfl,⟨rfl,rfl,rfl,rfl,trivial⟩,⟨by rw[Nat.sub_self];rfl,trivial⟩⟩ ?_
  intro⟨j,z⟩ ⟨g1,g2,g3⟩
  by_cases hj:j=0
  ·subst hj
   refine ag.no (decide_eq_false (by omega)) ?_
   exact aq.new 0 rfl rfl (aB _)
  ·obtain⟨q,rfl⟩:=Nat.exists_eq_succ_of_ne_zero hj
   have hz:z=(q:Int):=by omega
   subst hz
   refine ag.yes (decide_eq_true (by omega)) ?_
   obtain⟨dh,hold⟩:∃dh,dh=iter (fun r=>cL x k (k-1-r)) (k-(q+1)) c1:=⟨_,rfl⟩
   have g3:∀i,i<k+1->Bz (dh i) (bs t b (k+(k-(q+1)))):=by rw[hold];exact g3
   have hBk:=hB (k+(k-(q+1))) (by omega)
   have hnext:iter (fun r=>cL x k (k-1-r)) (k-q) c1=cL x k q dh:=by
    rw[show k-q=(k-(q+1))+1 by omega,iter,<-hold,show k-1-(k-(q+1))=q by omega]
   refine aM.mk Nat (fun i=>([(0,.p (ah m X)),(5,.vec 0 3 0 (k+1)),(6,.p (.int .i64 k)),(9,.p (.int .i64 q)),(10,.p (.int .i64 i))],[.vec 38 3 (bd (ar (k+1) (lp i (cL x k q dh) dh)))]))
    (fun i=>q<=i/\i<=k/\∀j,j<i->Bz (cL x k q dh j) (bs t b (k+(k-q)))) (fun i=>k-i) q [0]
    ⟨Nat.le_refl _,by omega,fun j hj=>?_⟩
    ⟨rfl,by simp,rfl,rfl,rfl,⟨rfl,rfl,rfl,rfl,rfl,trivial⟩,⟨?_,trivial⟩⟩ ?_
   ·rw[cL,if_neg (by omega)]
    exact(g3 j (by omega)).mono (eC (by omega))
   ·show aC.vec _ _ _=aC.vec _ _ _
    rw[show k-q.succ=k-(q+1)from rfl,<-hold]
    refine ka fun i hi=>?_
    unfold lp
    split
    ·rename_i h;rw[cL,if_neg (by omega)]
    ·rfl
   ·intro i ⟨e1,e2,e3⟩
    by_cases hi:i<k
    ·refine ag.yes (decide_eq_true (by omega)) ?_
     have z1:=g3 i (by omega)
     have z2:=g3 (i+1) (by omega)
     have z3:=(hx q (by omega)).mul z2
     have hnew:cL x k q dh i=dh i-x q*dh (i+1):=if_pos ⟨e1,hi⟩
     refine aO.mk (by kernel_rfl) ?_
     repeat refine aj.mk _ _ (And.intro rfl rfl) rfl ?_
     refine aj.mk _ _ (aI.mk i rfl (by omega) (And.intro rfl rfl)) rfl ?_
     refine aj.mk _ _ (aG.rv i (dh i) rfl (by omega) (k3 (by omega)) (And.intro rfl rfl)) rfl ?_
     repeat refine aj.mk _ _ (And.intro rfl rfl) rfl ?_
     refine aj.mk _ _ (aG.rb q rfl (by omega) (And.intro rfl rfl)) rfl ?_
     repeat refine aj.mk _ _ (And.intro rfl rfl) rfl ?_
     rw[hXg q (by omega)]
     refine aj.mk _ _ (ae.ao ((i+1:Nat):Int) (by omega) (by omega) (And.intro rfl rfl)) rfl ?_
     refine aj.mk _ _ (aI.mk (i+1) rfl (by omega) (And.intro rfl rfl)) rfl ?_
     refine aj.mk _ _ (aG.rv (i+1) (dh (i+1)) rfl (by omega) (k3 (by omega)) (And.intro rfl rfl)) rfl ?_
     refine aj.mk _ _ (ab.pure (b9 _ _ (hx q (by omega)).sz z2.sz (by omega)) (And.intro rfl rfl)) rfl ?_
     refine aj.mk _ _ (ab.pure (cn _ _ z1.sz z3.sz (by omega)) (And.intro rfl rfl)) rfl ?_
     refine aj.mk _ _ (aI.mk i rfl (by omega) (And.intro rfl rfl)) rfl ?_
     refine aj.mk _ _ (bT.rf (show i+0<k+1 by omega)<|cH.rv (lp (i+1) (cL x k q dh) dh) (by rw[<-hnew];exact tw) (And.intro rfl rfl)) rfl ?_
     refine ae.ao ((i+1:Nat):Int) (by omega) (by omega) ?_
     refine⟨i+1,[0],⟨by omega,hi,fun j hj=>?_⟩,by show k-(i+1)<k-i;omega,⟨rfl,by simp,rfl,rfl,rfl,⟨rfl,rfl,rfl,rfl,rfl,trivial⟩,⟨rfl,trivial⟩⟩⟩
     by_cases e:j=i
     ·rw[e,hnew]
      refine(z1.sub z3).mono ?_
      rw[show k+(k-q)=k+(k-(q+1))+1 by omega]
      simp only[bs];omega
     ·exact e3 j (by omega)
    ·refine ag.no (decide_eq_false (by omega)) ?_
     have hik:i=k:=by omega
     subst hik
     refine ae.ao ((q:Int)-1) rfl (by omega) ?_
     have hmix:lp i (cL x i q dh) dh=iter (fun r=>cL x i (i-1-r)) (i-q) c1:=by
      rw[hnext]
      funext m
      unfold lp
      split
      ·rfl
      ·rename_i h;rw[cL,if_neg (by omega)]
     refine⟨(q,(q:Int)-1),[0],⟨by omega,rfl,fun j hj=>?_⟩,Nat.lt_succ_self q,⟨rfl,by simp,rfl,rfl,rfl,⟨rfl,rfl,rfl,rfl,trivial⟩,⟨congrArg (fun g=>aC.vec 38 3 (bd (ar (i+1) g))) hmix.symm,trivial⟩⟩⟩
     rw[hnext]
     by_cases e:j<i
     ·exact e3 j e
     ·rw[cL,if_neg (by omega)]
      exact(g3 j hj).mono (eC (by omega))
theorem AN (g:FuncId) (m m':Bool) (x f:List Rat) {k:Nat} (hx:Bl x k) (hk:k+k<=1048576) (hn:x.length<=1099511627776) (n:Nat) (r:Nat->Rat) (h:d9 x f=0)
  (hc:au Tryz.prog g [ah m x,ah m' f] (.vec 0 3 0 n) [.vec 38 3 (bd (ar n r))]):
  au Tryz.prog 234 [ah m x,ah m' f,.fn g []] (.bq [.vec 0 3 0 n,.p (.int .i64 0)]) [.vec 38 3 (bd (ar n r))]:=by
 refine aa (wr:=a9) a6 mixed Tryz.func234 (by kernel_rfl) rfl (by kernel_rfl) (af rfl) (by simp) ?_
 refine ab.pure (sO m m' x f hx hk hn) ?_
 refine ag.no (f0 h) ?_
 refine ab.fresh (pvs:=[ah m x,ah m' f]) hc ?_
 exact aq.cV 0 rfl (.int _ _) rfl (aB _)
theorem s9 (m m':Bool) (n:Nat) (x f:Nat->Rat) {s b:Nat} (hx:∀i,i<n+1->Bz (x i) s) (hf:∀i,i<n+1->Bz (f i) b) (hs:s+s<=1048576) (hb:bs (2*s+2) b (n+n+1)<=1048576) (hn:n<=1000) (h:d9 (ar (n+1) x) (ar (n+1) f)=0):
  au Tryz.prog 211 [ah m (ar (n+1) x),ah m' (ar (n+1) f)] (.bq [.vec 0 3 0 (n+1),.p (.int .i64 0)]) [.vec 38 3 (bd (ar (n+1) (pH x n f)))]:=by
 obtain⟨h0,h1,h2⟩:=m0 h
 have hl:(ar (n+1) x).length=n+1:=az
 have ht:=sP m m' n x f (s:=s) (b:=b) hx hf (fun i j hi hj e=>qu h2 (by omega) (by omega) (by rw[bj hi,bj hj];exact e)) hb (by omega)
 have hd:=AN 235 m m' (ar (n+1) x) (ar (n+1) f) (k:=s) (Bl.ar hx) hs (by rw[hl];omega) (n+1) (pH x n f) h ht
 refine aa (wr:=a9) a6 mixed Tryz.func211 (by kernel_rfl) rfl (by kernel_rfl) (af rfl) (by simp) ?_
 refine ab.cV (pvs:=[ah m (ar (n+1) x),ah m' (ar (n+1) f),.fn 235 []]) hd ?_
 exact aq.cV 0 rfl (.int _ _) rfl (aB _)
theorem uD (m:Nat->Bool) (m':Bool) (g:GV) {b c:Nat} (h:fy g b c) (ha:kR g.A g.n) (hb:kR g.B g.n) (y:Nat->Rat) (hy:∀i,i<g.n->Bz (y i) 100):
  au Tryz.prog 212 [cG m g,ah m' (ar g.n y)] (.bq [.vec 0 3 0 g.n,.p (.int .i64 0)]) [.vec 38 3 (bd (ar g.n (Gi g y)))]:=by
 have hk:=h.k5
 have h6:=h.n6
 have n1:=h.n1
 refine aa (wr:=a9) a6 mixed Tryz.func212 (by kernel_rfl) rfl (by kernel_rfl) (af rfl) (by simp) ?_
 refine ag.yes (kV (by omega)) ?_
 refine SZ.mk (g.n:Int) (by simp[ar]) ?_
 refine ag.no (f0 rfl) ?_
 refine ab.bg (DI m g h ha hb) (fun _=>rfl) ?_
 refine ag.no (rfl) ?_
 refine SZ.mk (g.n:Int) (by simp) ?_
 refine SZ.mk (g.n:Int) rfl ?_
 refine bT.mk (by simp) ?_
 refine bV.rat g.n rfl (by omega) ?_
 refine SZ.mk (g.n:Int) (by simp) ?_
 refine aM.mk Nat (fun i=>([(1,.p (ah m' (ar g.n y))),(6,.p (cm false false g.n g.n (ud g))),(8,.vec 0 3 0 g.n),(34,.p (.int .i64 g.n)),(35,.p (.int .i64 i))],[.vec 38 3 (fl g.n fun j=>if j<i then aJ (Gi g y j)else cu)]))
  (fun i=>i<=g.n) (fun i=>g.n-i) 0 [1] (Nat.zero_le _) ⟨rfl,by simp,rfl,rfl,rfl,⟨rfl,rfl,rfl,rfl,rfl,trivial⟩,⟨congrArg _ ((aX fun k hk=>if_neg (by omega)).trans (bE g.n cu).symm),trivial⟩⟩ ?_
 intro i hi
 have hi:i<=g.n:=hi
 by_cases hin:i<g.n
 ·refine ag.yes (decide_eq_true (by omega)) ?_
  refine ab.pure (Av) ?_
  refine aI.mk i rfl hin ?_
  refine bT.mk (by simp;omega)<|cH.mk _ Bk ?_
  refine aG.mf i rfl hin ?_
  refine SZ.mk (g.n:Int) (by simp[ar]) ?_
  refine aM.mk (Nat×Rat) (fun(k,s)=>([(1,.p (ah m' (ar g.n y))),(6,.p (cm false false g.n g.n (ud g))),(8,.vec 0 3 0 g.n),(9,.p (.int .i64 i)),(34,.p (.int .i64 g.n)),(35,.p (.int .i64 i)),(45,.p (ah false (ar g.n (ud g i)))),(46,.p (.int .i64 g.n)),(47,.p (.int .i64 k))],[.vec 38 3 (FF g.n (Gi g y) i s)]))
   (fun(k,s)=>k<=g.n/\s=sm k (fun k=>ud g i k*y k)/\Bz s (1+k*5600)) (fun x=>g.n-x.1) (0,0) [0] ⟨Nat.zero_le _,rfl,bS⟩ ⟨rfl,by simp,rfl,rfl,rfl,⟨rfl,rfl,rfl,rfl,rfl,rfl,rfl,rfl,rfl,trivial⟩,⟨rfl,trivial⟩⟩ ?_
  intro⟨k,s⟩ ⟨hk,hs,zs⟩
  by_cases hkn:k<g.n
  ·refine ag.yes (decide_eq_true (by omega)) ?_
   refine aG.rf k rfl hkn ?_
   have z1:=(vM h hin hkn).mul (hy k hkn)
   refine aO.cM (by kernel_rfl) ?_
   repeat refine aj.mk _ _ (And.intro rfl rfl) rfl ?_
   refine aj.mk _ _ (aI.mk i rfl hin (And.intro rfl rfl)) rfl ?_
   refine aj.mk _ _ (aG.mk (i+0) _ rfl (DT hin) (And.intro rfl rfl)) rfl ?_
   repeat refine aj.mk _ _ (And.intro rfl rfl) rfl ?_
   refine aj.mk _ _ (aG.rf k rfl hkn (And.intro rfl rfl)) rfl ?_
   repeat refine aj.mk _ _ (And.intro rfl rfl) rfl ?_
   refine aj.mk _ _ (ab.pure (b9 _ _ (vM h hin hkn).sz (hy k hkn).sz (by omega)) (And.intro rfl rfl)) rfl ?_
   refine aj.mk _ _ (ab.pure (dZ _ _ zs.sz z1.sz (by omega)) (And.intro rfl rfl)) rfl ?_
   refine aj.mk _ _ (aI.mk i rfl hin (And.intro rfl rfl)) rfl ?_
   refine aj.mk _ _ (bT.mk (by simp;omega)<|cH.mk _ Dh (And.intro rfl rfl)) rfl ?_
   repeat refine aj.mk _ _ (And.intro rfl rfl) rfl ?_
   refine br.mk (by kernel_rfl) ?_
   refine ae.ao ((k+1:Nat):Int) (by omega) (by omega) ?_
   exact⟨(k+1,_),[0],⟨hkn,by rw[hs];rfl,(zs.add z1).mono (by omega)⟩,by show g.n-(k+1)<g.n-k;omega,⟨rfl,by simp,rfl,rfl,rfl,⟨rfl,rfl,rfl,rfl,rfl,rfl,rfl,rfl,rfl,trivial⟩,⟨rfl,trivial⟩⟩⟩
  ·refine ag.no (decide_eq_false (by omega)) ?_
   obtain rfl:k=g.n:=by omega
   have hs:s=Gi g y i:=hs
   subst hs
   refine ae.ao ((i+1:Nat):Int) (by omega) (by omega) ?_
   exact⟨i+1,[0],hin,by show g.n-(i+1)<g.n-i;omega,⟨rfl,by simp,rfl,rfl,rfl,⟨rfl,rfl,rfl,rfl,rfl,trivial⟩,⟨congrArg _ zJ.symm,trivial⟩⟩⟩
 ·refine ag.no (decide_eq_false (by omega)) ?_
  obtain rfl:i=g.n:=by omega
  exact aq.cV 0 rfl (.int _ _) (congrArg (aC.vec 38 3) BT) (aB _)
def pj (D:Nat):Nat->Nat
 |0=>2*D
 |i+1=>2*D+(i+1)*(D+1+pj D i)
theorem j6 {D i j:Nat} (h:i<=j):pj D i<=pj D j:=by
 induction j with
 |zero=>rw[Nat.le_zero.1 h];exact Nat.le_refl _
 |succ j ih=>
  by_cases e:i=j+1
  ·rw[e];exact Nat.le_refl _
  ·have h1:=ih (by omega)
   have h2:1*(D+1+pj D j)<=(j+1)*(D+1+pj D j):=Nat.mul_le_mul_right _ (by omega)
   simp only[pj];omega
theorem El {L:Nat->Nat->Rat} {b:Nat->Rat} {n D:Nat} (hL:∀i j,i<n->j<n->Bz (L i j) D) (hb:∀i,i<n->Bz (b i) D):∀k,k<=n->∀i,i<k->Bz (np L b k i) (pj D i):=by
 intro k
 induction k with
 |zero=>exact fun _ i hi=>absurd hi (Nat.not_lt_zero _)
 |succ k ih=>
  intro hk i hi
  have ih:=ih (by omega)
  simp only[np]
  by_cases e:i=k
  ·rw[e,aA]
   cases k with
   |zero=>exact(hb 0 (by omega)).mono (by simp only[pj];omega)
   |succ k=>
    have:=xg (a:=L (k+1)) (x:=np L b (k+1)) (lo:=0) (d:=k+1) (bx:=pj D k) (hb (k+1) (by omega)) (fun j _ h=>hL (k+1) j (by omega) (by omega)) (fun j _ h=>(ih j (by omega)).mono (j6 (by omega)))
    refine this.mono ?_
    simp only[pj]
    have:D+pj D k+1=D+1+pj D k:=by omega
    rw[this];omega
  ·rw[aD _ _ e];exact ih i (by omega)
theorem D7 {U:Nat->Nat->Rat} {b:Nat->Rat} {n D:Nat} (hU:∀i j,i<n->j<n->Bz (U i j) D) (hb:∀i,i<n->Bz (b i) D):∀t,t<=n->∀i,n<=i+t->i<n->Bz (ph U b n t i) (pj D (n-1-i)):=by
 intro t
 induction t with
 |zero=>exact fun _ i h1 h2=>absurd h2 (by omega)
 |succ t ih=>
  intro ht i h1 h2
  have ih:=ih (by omega)
  simp only[ph]
  by_cases e:i=n-1-t
  ·subst e
   rw[aA,show n-1-(n-1-t)=t by omega]
   have hd:=hU (n-1-t) (n-1-t) h2 h2
   cases t with
   |zero=>exact((hb _ h2).div hd).mono (by simp only[pj];omega)
   |succ t=>
    have:=xg (a:=U (n-1-(t+1))) (x:=ph U b n (t+1)) (lo:=n-(t+1)) (d:=t+1) (bx:=pj D t) (hb _ h2) (fun j _ h=>hU _ j h2 (by omega)) (fun j h h'=>(ih j (by omega) (by omega)).mono (j6 (by omega)))
    refine(this.div hd).mono ?_
    simp only[pj]
    have:D+pj D t+1=D+1+pj D t:=by omega
    rw[this];omega
  ·rw[aD _ _ e];exact ih i (by omega) h2
theorem nT (m m' q:Bool) (n K:Nat) (U:Nat->Nat->Rat) (b:Nat->Rat) {D X:Nat} (hn:n<=900) (hU:∀i j,i<n->j<n->Bz (U i j) D) (hb:∀i,i<n->Bz (b i) D) (hX:∀t,t<=K->∀i,n<=i+t->i<n->Bz (ph U b n t i) X) (hD:D+n*(D+X+1)+D+X<=100000000000)
  (hK:K<=n) (hp:∀t,t<K->U (n-1-t) (n-1-t)≠0) (hz:K<n->U (n-1-K) (n-1-K)=0)
  (R:AV) (nb:List aC) (h1:K<n->R= .bq [.p (ah false []),.p (.int .i64 5)]/\nb=[]) (h2:K=n->R= .bq [.vec 0 3 0 n,.p (.int .i64 0)]/\nb=[.vec 38 3 (bd (ar n (ph U b n n)))]):
  au Tryz.prog 207 [cm m m' n n U,ah q (ar n b)] R nb:=by
 refine aa (wr:=a9) a6 mixed Tryz.func207 (by kernel_rfl) rfl (by kernel_rfl) (af rfl) (by simp) ?_
 refine ab.pure (qD m m' q n U b hn hU hb (by omega)) ?_
 refine ag.no (rfl) ?_
 refine SZ.mk (n:Int) (by simp[ar]) ?_
 refine SZ.mk (n:Int) rfl ?_
 refine bT.mk (by simp) ?_
 refine bV.rat n rfl (by omega) ?_
 refine SZ.mk (n:Int) (by simp[ar]) ?_
 refine ae.ao ((n:Int)-1-(0:Nat)) (by omega) (by omega) ?_
 refine aM.mk Nat (fun t=>([(0,.p (cm m m' n n U)),(1,.p (ah q (ar n b))),(6,.vec 0 3 0 n),(7,.p (.int .i64 ((n:Int)-1-(t:Nat))))],[.vec 38 3 (fl n fun k=>if n<=k+t then aJ (ph U b n t k)else cu)]))
  (fun t=>t<=K) (fun t=>n-t) 0 [0] (Nat.zero_le _) ⟨rfl,by simp,rfl,rfl,rfl,⟨rfl,rfl,rfl,rfl,trivial⟩,⟨congrArg _ ((aX fun k hk=>if_neg (by omega)).trans (bE n cu).symm),trivial⟩⟩ ?_
 intro t ht
 have ht:t<=K:=ht
 by_cases htn:t<n
 ·refine ag.yes (decide_eq_true (by omega)) ?_
  have hl:=wU m' true (b (n-1-t)) n (U (n-1-t)) (ph U b n t) (fun k=>if n<=k+t then aJ (ph U b n t k)else cu) (n-t) n (by omega) (by omega) (Nat.le_refl _) (fun j h _=>if_pos (by omega)) (hb _ (by omega)) (fun j _ h=>hU _ j (by omega) h) (fun j h1 h2=>hX t ht j (by omega) h2) (by omega)
  rw[show n-(n-t)=t by omega]at hl
  have zs:=xg (a:=U (n-1-t)) (x:=ph U b n t) (lo:=n-t) (d:=t) (hb (n-1-t) (by omega)) (fun j h1 h2=>hU (n-1-t) j (by omega) (by omega)) (fun j h1 h2=>hX t ht j (by omega) (by omega))
  have zt:t*(D+X+1)<=n*(D+X+1):=Nat.mul_le_mul_right _ (by omega)
  have zu:=hU (n-1-t) (n-1-t) (by omega) (by omega)
  by_cases htK:t<K
  ·have hq:=fY (sb (U (n-1-t)) (ph U b n t) (b (n-1-t)) (n-t) t) (U (n-1-t) (n-1-t)) (hp t htK) zs.sz zu.sz (by omega)
   refine aO.cM (by kernel_rfl) ?_
   repeat refine aj.mk _ _ (And.intro rfl rfl) rfl ?_
   refine aj.mk _ _ (aG.rf (n-1-t) (by omega) (by omega) (And.intro rfl rfl)) rfl ?_
   repeat refine aj.mk _ _ (And.intro rfl rfl) rfl ?_
   refine aj.mk _ _ (aG.mf (n-1-t) (by omega) (by omega) (And.intro rfl rfl)) rfl ?_
   repeat refine aj.mk _ _ (And.intro rfl rfl) rfl ?_
   refine aj.mk _ _ (ae.ao ((n-t:Nat):Int) (by omega) (by omega) (And.intro rfl rfl)) rfl ?_
   repeat refine aj.mk _ _ (And.intro rfl rfl) rfl ?_
   refine aj.mk _ _ (SZ.mk (n:Int) (by simp[ar]) (And.intro rfl rfl)) rfl ?_
   repeat refine aj.mk _ _ (And.intro rfl rfl) rfl ?_
   refine aj.mk _ _ (bp.all (by simp)<|ab.pure (pvs:=[aJ (b (n-1-t)),ah m' (ar n (U (n-1-t))),.sl true 3 (fl n fun k=>if n<=k+t then aJ (ph U b n t k)else cu),.int .i64 ((n-t:Nat):Int),.int .i64 n]) hl (And.intro rfl rfl)) rfl ?_
   repeat refine aj.mk _ _ (And.intro rfl rfl) rfl ?_
   refine aj.mk _ _ (aG.mf (n-1-t) (by omega) (by omega) (And.intro rfl rfl)) rfl ?_
   repeat refine aj.mk _ _ (And.intro rfl rfl) rfl ?_
   refine aj.mk _ _ (aG.rf (n-1-t) (by omega) (by omega) (And.intro rfl rfl)) rfl ?_
   repeat refine aj.mk _ _ (And.intro rfl rfl) rfl ?_
   refine aj.mk _ _ (ab.bg (hq) (fun _=>rfl) (And.intro rfl rfl)) rfl ?_
   repeat refine aj.mk _ _ (And.intro rfl rfl) rfl ?_
   refine br.mk (by kernel_rfl) ?_
   refine ag.no (rfl) ?_
   refine aI.mk (n-1-t) (by omega) (by omega) ?_
   refine bT.mk (by simp;omega) ?_
   refine cH.mk _ (Dz htn) ?_
   refine ae.ao ((n:Int)-1-((t+1:Nat):Int)) (by omega) (by omega) ?_
   exact⟨t+1,[0],htK,by show n-(t+1)<n-t;omega,⟨rfl,by simp,rfl,rfl,rfl,⟨rfl,rfl,rfl,rfl,trivial⟩,⟨rfl,trivial⟩⟩⟩
  ·obtain rfl:t=K:=by omega
   have hq:=ri (sb (U (n-1-t)) (ph U b n t) (b (n-1-t)) (n-t) t) zs.sz (by omega)
   rw[<-hz htn]at hq
   obtain⟨rfl,rfl⟩:=h1 htn
   refine aO.cM (by kernel_rfl) ?_
   repeat refine aj.mk _ _ (And.intro rfl rfl) rfl ?_
   refine aj.mk _ _ (aG.rf (n-1-t) (by omega) (by omega) (And.intro rfl rfl)) rfl ?_
   repeat refine aj.mk _ _ (And.intro rfl rfl) rfl ?_
   refine aj.mk _ _ (aG.mf (n-1-t) (by omega) (by omega) (And.intro rfl rfl)) rfl ?_
   repeat refine aj.mk _ _ (And.intro rfl rfl) rfl ?_
   refine aj.mk _ _ (ae.ao ((n-t:Nat):Int) (by omega) (by omega) (And.intro rfl rfl)) rfl ?_
   repeat refine aj.mk _ _ (And.intro rfl rfl) rfl ?_
   refine aj.mk _ _ (SZ.mk (n:Int) (by simp[ar]) (And.intro rfl rfl)) rfl ?_
   repeat refine aj.mk _ _ (And.intro rfl rfl) rfl ?_
   refine aj.mk _ _ (bp.all (by simp)<|ab.pure (pvs:=[aJ (b (n-1-t)),ah m' (ar n (U (n-1-t))),.sl true 3 (fl n fun k=>if n<=k+t then aJ (ph U b n t k)else cu),.int .i64 ((n-t:Nat):Int),.int .i64 n]) hl (And.intro rfl rfl)) rfl ?_
   repeat refine aj.mk _ _ (And.intro rfl rfl) rfl ?_
   refine aj.mk _ _ (aG.mf (n-1-t) (by omega) (by omega) (And.intro rfl rfl)) rfl ?_
   repeat refine aj.mk _ _ (And.intro rfl rfl) rfl ?_
   refine aj.mk _ _ (aG.rf (n-1-t) (by omega) (by omega) (And.intro rfl rfl)) rfl ?_
   repeat refine aj.mk _ _ (And.intro rfl rfl) rfl ?_
   refine aj.mk _ _ (ab.bg (hq) (fun _=>rfl) (And.intro rfl rfl)) rfl ?_
   repeat refine aj.mk _ _ (And.intro rfl rfl) rfl ?_
   refine br.mk (by kernel_rfl) ?_
   refine ag.yes (rfl) ?_
   exact aq.pure (.bq rfl fun i c d e1 e2=>by
    match i,e1,e2 with
    |0,e1,e2=>cases e1;cases e2;exact .emp 3
    |1,e1,e2=>cases e1;cases e2;exact .p _ (.int _ _))
 ·refine ag.no (decide_eq_false (by omega)) ?_
  obtain rfl:n=t:=by omega
  obtain⟨rfl,rfl⟩:=h2 (by omega)
  exact aq.cV 0 rfl (.int _ _) (congrArg (aC.vec 38 3) ((aX fun k hk=>by rw[if_pos (show n<=k+n by omega),if_pos hk]).trans lY.symm)) (aB _)
abbrev F5 (n:Nat) (A:Nat->Nat->Rat):List AV:=[.p (.sl false 1 (cW n (gO n A))),.p (cm false false n n (gL n A)),.p (cm false false n n (gU n A)),.p (.bool (decide ((FA n A).num<0))),.p (bC (FA n A).num.natAbs),.p (bC (FA n A).den)]
abbrev kj (n:Nat) (A:Nat->Nat->Rat) (b:Nat->Rat) (i:Nat):Rat:=b (gO n A i)
abbrev FW (n:Nat) (A:Nat->Nat->Rat) (b:Nat->Rat):Nat->Rat:=ph (gU n A) (np (gL n A) (kj n A b) n) n n
theorem vY (q:Bool) (n:Nat) (A:Nat->Nat->Rat) (b:Nat->Rat) (n1:1<=n) (hn:n<=5) (hB:An n A 42100) (hp:∀t,t<n->kN n A t≠0) (zb:∀i,i<n->Bz (b i) 5):
  au Tryz.prog 157 [D0 n A,ah q (ar n b)] (.bq [.vec 0 3 0 n,.p (.int .i64 0)]) [.vec 38 3 (bd (ar n (FW n A b)))]/\∀i,i<n->Bz (FW n A b i) 4000000000:=by
 obtain⟨o1,_,_⟩:=eE (n:=n) (A:=A) n (Nat.le_refl _)
 have o1:∀i,i<n->gO n A i<n:=o1
 have zL:∀i j,i<n->j<n->Bz (gL n A i j) 84200:=fun i j hi _=>Em hB (by decide) n (Nat.le_refl _) i j hi
 have zU:∀i j,i<n->j<n->Bz (gU n A i j) 20000000:=fun i j hi hj=>(hB n (Nat.le_refl _) i j hi hj).mono (by decide)
 have zc:∀i,i<n->Bz (kj n A b i) 84200:=fun i hi=>(zb _ (o1 i hi)).mono (by decide)
 have e1:pj 84200 4<=20000000:=by decide+kernel
 have e2:pj 20000000 4<=4000000000:=by decide+kernel
 have lX:∀k,k<=n->∀i,i<k->Bz (np (gL n A) (kj n A b) k i) 20000000:=fun k hk i hi=>(El zL zc k hk i hi).mono (Nat.le_trans (j6 (by omega)) e1)
 have hlo:=o6 false false true n (gL n A) (kj n A b) (by omega) zL zc lX (by omega)
 have zz:∀i,i<n->Bz (np (gL n A) (kj n A b) n i) 20000000:=fun i hi=>lX n (Nat.le_refl _) i hi
 have uX:∀t,t<=n->∀i,n<=i+t->i<n->Bz (ph (gU n A) (np (gL n A) (kj n A b) n) n t i) 4000000000:=fun t ht i h1 h2=>(D7 zU zz t ht i h1 h2).mono (Nat.le_trans (j6 (by omega)) e2)
 refine⟨?_,fun i hi=>uX n (Nat.le_refl _) i (by omega) hi⟩
 have hup:=nT false false false n n (gU n A) (np (gL n A) (kj n A b) n) (by omega) zU zz uX (by omega) (Nat.le_refl _) (fun t ht=>by rw[DU (by omega)];exact hp _ (by omega)) (fun h=>absurd h (Nat.lt_irrefl _)) _ _ (fun h=>absurd h (Nat.lt_irrefl _)) (fun _=>⟨rfl,rfl⟩)
 refine aa (wr:=a9) a6 mixed Tryz.func157 (by kernel_rfl) rfl (by kernel_rfl) (af rfl) (by simp) ?_
 refine SZ.mk (n:Int) (by simp[ar]) ?_
 refine SZ.mk (n:Int) (by simp) ?_
 refine ag.no (f0 rfl) ?_
 refine SZ.mk (n:Int) (by simp[ar]) ?_
 refine SZ.mk (n:Int) rfl ?_
 refine bT.mk (by simp) ?_
 refine bV.rat n rfl (by omega) ?_
 refine SZ.mk (n:Int) (by simp) ?_
 refine aM.mk Nat (fun i=>([(1,.p (ah q (ar n b))),(2,.aF 0 0),(6,.vec 1 3 0 n),(20,.p (.sl false 1 (cW n (gO n A)))),(21,.p (.int .i64 n)),(22,.p (.int .i64 (i:Nat)))],[.box 168 (F5 n A),.vec 38 3 (fl n fun k=>if k<i then aJ (kj n A b k)else cu)]))
  (fun i=>i<=n) (fun i=>n-i) 0 [0,1] (Nat.zero_le _) ⟨rfl,by simp,rfl,rfl,rfl,⟨rfl,rfl,rfl,rfl,rfl,rfl,trivial⟩,⟨rfl,congrArg _ ((aX fun k hk=>if_neg (by omega)).trans (bE n cu).symm),trivial⟩⟩ ?_
 intro i hi
 have hi:i<=n:=hi
 by_cases hin:i<n
 ·refine ag.yes (decide_eq_true (by omega)) ?_
  have ho:=o1 i hin
  refine aG.perm i rfl hin ?_
  refine ag.no (decide_eq_false (by omega)) ?_
  refine SZ.mk (n:Int) (by simp[ar]) ?_
  refine ag.no (decide_eq_false (by omega)) ?_
  refine aG.rf (gO n A i) rfl ho ?_
  refine aI.mk i rfl hin ?_
  refine bT.mk (by simp;omega)<|cH.mk _ (du (f:=kj n A b) hin) ?_
  refine ae.ao ((i+1:Nat):Int) (by omega) (by omega) ?_
  exact⟨i+1,[0,1],hin,by show n-(i+1)<n-i;omega,⟨rfl,by simp,rfl,rfl,rfl,⟨rfl,rfl,rfl,rfl,rfl,rfl,trivial⟩,⟨rfl,rfl,trivial⟩⟩⟩
 ·refine ag.no (decide_eq_false (by omega)) ?_
  obtain rfl:i=n:=by omega
  refine bp.mk (bd (ar i (kj i A b))) (by rw[List.drop_zero,lY];exact List.take_of_length_le (by simp)) (by simp) ?_
  refine ab.pure (hlo) ?_
  refine SZ.mk (i:Int) (by simp[ar]) ?_
  refine SZ.mk (i:Int) rfl ?_
  refine ag.no (f0 rfl) ?_
  refine ab.cV hup ?_
  exact aq.cV 2 rfl (.int _ _) rfl (aB _)
theorem vv (n:Nat) (A:Nat->Nat->Rat):(∀t,t<n->kN n A t≠0)\/∃K,K<n/\(∀t,t<K->kN n A t≠0)/\kN n A K=0:=by
 have key:∀m,m<=n->(∀t,t<m->kN n A t≠0)\/∃K,K<m/\(∀t,t<K->kN n A t≠0)/\kN n A K=0:=by
  intro m
  induction m with
  |zero=>exact fun _=>.inl fun t h=>absurd h (Nat.not_lt_zero _)
  |succ m ih=>
   intro hm
   rcases ih (by omega)with h|⟨K,h1,h2,h3⟩
   ·by_cases e:kN n A m=0
    ·exact .inr ⟨m,Nat.lt_succ_self _,h,e⟩
    ·refine .inl fun t ht=>?_
     by_cases et:t=m
     ·rw[et];exact e
     ·exact h t (by omega)
   ·exact .inr ⟨K,by omega,h2,h3⟩
 exact key n (Nat.le_refl _)
end Go.Proofs.YtnilcfiemgmfdaaGreat
