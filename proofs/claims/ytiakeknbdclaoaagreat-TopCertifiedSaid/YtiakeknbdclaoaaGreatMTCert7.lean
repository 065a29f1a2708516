/- FTCert: what its proof needs, part 7. -/
import Derived.Test.YtiakeknbdclaoaaGreatMTCert6
set_option linter.unusedVariables false
set_option linter.unusedSimpArgs false
namespace Go.Proofs.YtiakeknbdclaoaaGreat
open Go
set_option maxRecDepth 10000
abbrev P6:FuncId->Bool:=fun f=>Nat.beq f 180||(Nat.beq f 181||Nat.beq f 182)
abbrev lC:List AV:=[.p (.raw (.slice none 0 0)),.p (.raw (.slice none 0 0)),.p (.raw (.slice none 0 0)),.p (.bool false),.p (.sl false 1 []),.p (.sl false 1 [])]
theorem LP {n:Nat}:List.replicate n (PV.int .i64 0)=eV n fun t=>if t<0 then t else 0:=(bQ n _).trans (aU fun i _=>congrArg (fun x:Nat=>PV.int .i64 (x:Int)) (if_neg (Nat.not_lt_zero i)).symm)
theorem Dd {n k:Nat} {A:Nat->Nat->Rat} {si:Nat->Nat} (hk:k<n) (hsi:∀r,r<n->si r<n/\(gk n A (k+1)).s (si r)=r):∀i j,i<n->j<n->(fun r j=>ky (mc n A k) k (si r) j) ((gk n A (k+1)).s i) j=(gk n A (k+1)).B i j:=fun i j hi hj=>by
 obtain⟨h1,h2,_⟩:=i6 (n:=n) (A:=A) (k+1) hk
 obtain⟨a,b⟩:=hsi _ (h1 i hi)
 have e:=h2 _ _ a hi b
 show ky (mc n A k) k (si ((gk n A (k+1)).s i)) j=_
 rw[e,fc]
theorem Gc {n k:Nat} {A G:Nat->Nat->Rat} (hk:k<n) (hG:∀i j,i<n->j<n->G ((gk n A k).s i) j=(gk n A k).B i j):∀i j,i<n->j<n->G ((gk n A (k+1)).s i) j=mc n A k i j:=fun i j hi hj=>by
 obtain⟨p1,p2,_⟩:=dL (B:=(gk n A k).B) hk
 rw[fc]
 exact hG _ j (ez p2 hk hi) hj
theorem GP {n k:Nat} {A:Nat->Nat->Rat} (hk:k<=n):∃si:Nat->Nat,∀r,r<n->si r<n/\(gk n A k).s (si r)=r:=by
 obtain⟨_,_,h3⟩:=i6 (n:=n) (A:=A) k hk
 refine⟨fun r=>if h:r<n then(h3 r h).choose else 0,fun r hr=>?_⟩
 show(if h:r<n then(h3 r h).choose else 0)<n/\(gk n A k).s (if h:r<n then(h3 r h).choose else 0)=r
 rw[dif_pos hr]
 exact(h3 r hr).choose_spec
theorem As (m:Nat->Bool) (g:GV) {b c D K:Nat} (h:Wf g b c) (e:g.k=7) (hB:It g.n (aQ g) D) (h1:1<=D) (hD:4*D+1<=1000000) (hK:K<g.n) (hp:∀t,t<K->kH g.n (aQ g) t≠0) (hz:kH g.n (aQ g) K=0):
  ae Tryz.prog 163 [dP m g] (.bK [.p LN,.p (.int .i64 9)]) []:=by
 have h6:=h.n6
 have n1:=h.n1
 refine df.OR ?_ (VR.Pd Lh) NR
 refine Jy (wr:=P6) Tryz.func163 ?_
 refine ao.yes (BA (by rw[e];decide)) ?_
 refine ao.no (uQ (by rw[e];rfl)) ?_
 refine aa.Qb (q7 m g h) ?_
 refine uT.mk (fun _=>?_) (fun h=>absurd h qO)
 refine cS ?_
 repeat refine aq ?_
 refine ag (SZ.mk (g.n:Int) rfl af) ?_
 repeat refine aq ?_
 refine ag (SZ.mk (g.n:Int) rfl<|cm.mk qS<|cy.mk g.n rfl (by show g.n*8<=_;omega) qO af) ?_
 repeat refine aq ?_
 refine ag (aa.pure (kD) af) ?_
 repeat refine aq ?_
 refine cX ?_
 refine SZ.mk (g.n:Int) rfl ?_
 refine aJ.mk (Nat×(Nat->Nat)) (fun(i,s)=>([(2,.aC 5 0),(5,.aC 0 0),(39,.p (.int .i64 g.n)),(40,.p (.int .i64 (i:Nat)))],
   [.box 187 (Lm g.n 0),.rows 24 (cO 2 g.n g.n id),.bu 31 3 (c9 g.n g.n (aQ g)),.vec 3 1 (eV g.n s),.map [],.box 171 lC]))
  (fun(i,s)=>i<=g.n/\∀t,t<g.n->s t=if t<i then t else 0) (fun x=>g.n-x.1) (0,fun t=>if t<0 then t else 0) [6,2,3,4,5,1] ⟨Nat.zero_le _,fun t _=>rfl⟩
  (aY ⟨rfl,congrArg _ (aS 3 rfl qD),rfl,congrArg _ LP.symm,rfl,rfl,aN fun q hq=>by simpa[aD]using hq,trivial⟩) ?_
 intro⟨i,s⟩ ⟨hi,hs⟩
 by_cases hin:i<g.n
 ·refine bo ?_
  refine aK.mk i rfl hin ?_
  refine cm.perm hin ?_
  refine dp.perm ?_
  refine a5 (i+1) ?_
  refine⟨(i+1,_),[0,1,2,3,4,5],⟨hin,fun t ht=>?_⟩,cA,aY ⟨rfl,congrArg _ (aS 2 rfl qD),rfl,rfl,rfl,rfl,aN fun q hq=>by simpa[aD]using hq,trivial⟩ (ss:=⟨rfl,rfl,rfl,rfl,trivial⟩)⟩
  show a8 s (i+0) i t=_
  unfold a8
  by_cases e:t=i
  ·rw[if_pos qO,if_pos qO,e]
  ·rw[if_neg qO,hs t ht]
   by_cases e2:t<i
   ·rw[if_pos e2,if_pos qO]
   ·rw[if_neg e2,if_neg qO]
 refine bd ?_
 obtain rfl:i=g.n:=qO
 have es:eV g.n s=eV g.n id:=rz fun t ht=>by rw[hs t ht,if_pos ht];rfl
 refine aa.gw (lP g.n 0 (aQ g) (aQ g) id [] 0 (Nat.zero_le _) qO (fun i hi=>hi) (fun _ _ _ _=>rfl) (hB 0 (Nat.zero_le _)) (cB.mono h1) qO (fun e he=>by simp at he)) (fun _=>rfl) qD ⟨rfl,fun _=>rfl⟩ ⟨rfl,fun _=>rfl⟩ ⟨rfl,fun _=>rfl⟩ ⟨congrArg (aA.vec 3 1) es,fun _=>rfl⟩ ⟨rfl,fun _=>rfl⟩ ?_
 refine SZ.mk (g.n:Int) rfl ?_
 refine aJ.mk (Nat×(Nat->Nat->Rat)) (fun(k,G)=>([(2,.aC 5 0),(5,.aC 0 0),(7,.aC 6 0),(61,.p (.int .i64 g.n)),(62,.p (.int .i64 (k:Nat)))],
   oO g.n G (gk g.n (aQ g) k).s (rG g.n (aQ g) k) (oB g.n (aQ g) k)++[.box 171 lC,.box 31 (lr (oB g.n (aQ g) 0))]))
  (fun(k,G)=>k<=K/\∀i j,i<g.n->j<g.n->G ((gk g.n (aQ g) k).s i) j=(gk g.n (aQ g) k).B i j) (fun x=>g.n-x.1) (0,aQ g) [0,1,2,3,4,5,6] ⟨Nat.zero_le _,fun _ _ _ _=>rfl⟩
  (aY ⟨rfl,congrArg _ (aS 2 rfl qD),rfl,rfl,rfl,rfl,rfl,aN (s:=id) fun q hq=>by simpa[aD]using hq,trivial⟩) ?_
 intro⟨k,G⟩ ⟨hkn,hG⟩
 obtain⟨r1,r2,r3⟩:=i6 (n:=g.n) (A:=aQ g) k qO
 have zr:=wQ hB h1 k qO
 refine bo ?_
 by_cases e:k<K
 ·refine aa.gw (lP g.n k G (gk g.n (aQ g) k).B (gk g.n (aQ g) k).s (rG g.n (aQ g) k) (oB g.n (aQ g) k) qO qO r1 hG (hB k qO) zr qO (iy k).wH)
   (fun _=>rfl) qD ⟨rfl,fun _=>rfl⟩ ⟨rfl,fun _=>rfl⟩ ⟨rfl,fun _=>rfl⟩ ⟨rfl,fun _=>rfl⟩ ⟨rfl,fun _=>rfl⟩ ?_
  refine aa.gw (tq g.n k G (gk g.n (aQ g) k).B (gk g.n (aQ g) k).s (rG g.n (aQ g) k) (oB g.n (aQ g) (k+1)) true qO qO r1 hG (hB k qO) qO (iy k).wH ((decide_eq_true (by rw[<-oY];exact hp k e)).symm))
   (fun _=>rfl) qD ⟨rfl,fun _=>rfl⟩ ⟨rfl,fun _=>rfl⟩ ⟨rfl,fun _=>rfl⟩ ⟨rfl,fun _=>rfl⟩ ⟨rfl,fun _=>rfl⟩ ?_
  refine cJ ?_
  obtain⟨si,hsi⟩:=GP (n:=g.n) (A:=aQ g) (k:=k+1) qO
  obtain⟨q1,q2,_⟩:=i6 (n:=g.n) (A:=aQ g) (k+1) qO
  refine aa.gw (vL g.n k G (mc g.n (aQ g) k) (gk g.n (aQ g) (k+1)).s si (rG g.n (aQ g) k) (oB g.n (aQ g) (k+1)) qO qO q1 q2 hsi (Gc qO hG) (hB.P qO) qO (hp k e) (iy k))
   (fun _=>rfl) qD ⟨rfl,fun _=>rfl⟩ ⟨rfl,fun _=>rfl⟩ ⟨rfl,fun _=>rfl⟩ ⟨rfl,fun _=>rfl⟩ ⟨rfl,fun _=>rfl⟩ ?_
  refine a5 (k+1) ?_
  exact⟨(k+1,fun r j=>ky (mc g.n (aQ g) k) k (si r) j),[0,1,2,3,4,5,6],⟨qO,Dd qO hsi⟩,cA,aY ⟨rfl,congrArg _ (aS 2 rfl qD),rfl,rfl,rfl,rfl,rfl,aN fun q hq=>by simpa[aD]using q1 q hq,trivial⟩⟩
 ·obtain rfl:k=K:=qO
  refine aa.gw (lP g.n k G (gk g.n (aQ g) k).B (gk g.n (aQ g) k).s (rG g.n (aQ g) k) (oB g.n (aQ g) k) qO qO r1 hG (hB k qO) zr qO (iy k).wH)
   (fun _=>rfl) qD ⟨rfl,fun _=>rfl⟩ ⟨rfl,fun _=>rfl⟩ ⟨rfl,fun _=>rfl⟩ ⟨rfl,fun _=>rfl⟩ ⟨rfl,fun _=>rfl⟩ ?_
  refine aa.gw (tq g.n k G (gk g.n (aQ g) k).B (gk g.n (aQ g) k).s (rG g.n (aQ g) k) (oB g.n (aQ g) (k+1)) false qO qO r1 hG (hB k qO) qO (iy k).wH ((decide_eq_false (by rw[<-oY];exact fun h=>h hz)).symm))
   (fun _=>rfl) qD ⟨rfl,fun _=>rfl⟩ ⟨rfl,fun _=>rfl⟩ ⟨rfl,fun _=>rfl⟩ ⟨rfl,fun _=>rfl⟩ ⟨rfl,fun _=>rfl⟩ ?_
  refine ir ?_
  refine ab.pure (.bK rfl fun i c d e1 e2=>?_)
  match i,e1,e2 with
  |0,e1,e2=>cases e1;cases e2;exact .p _ Cm
  |1,e1,e2=>cases e1;cases e2;exact .p _ (.int _ _)
theorem Cj (m:Nat->Bool) (g:GV) {b c D:Nat} (h:Wf g b c) (e:g.k=7) (hB:It g.n (aQ g) D) (h1:1<=D) (hD:4*D+1<=1000000) (hp:∀t,t<g.n->kH g.n (aQ g) t≠0):
  ae Tryz.prog 163 [dP m g] (.bK [.p (Md g.n (aQ g)),.p (.int .i64 0)]) []:=by
 have h6:=h.n6
 have n1:=h.n1
 have zL:∀i j,i<g.n->Bz (gL g.n (aQ g) i j) (D+D):=fun i j hi=>Mk hB h1 g.n (Nat.le_refl _) i j hi
 refine Jy (wr:=P6) Tryz.func163 ?_
 refine ao.yes (BA (by rw[e];decide)) ?_
 refine ao.no (uQ (by rw[e];rfl)) ?_
 refine aa.Qb (q7 m g h) ?_
 refine uT.mk (fun _=>?_) (fun h=>absurd h qO)
 refine cS ?_
 repeat refine aq ?_
 refine ag (SZ.mk (g.n:Int) rfl af) ?_
 repeat refine aq ?_
 refine ag (SZ.mk (g.n:Int) rfl<|cm.mk qS<|cy.mk g.n rfl (by show g.n*8<=_;omega) qO af) ?_
 repeat refine aq ?_
 refine ag (aa.pure (kD) af) ?_
 repeat refine aq ?_
 refine cX ?_
 refine SZ.mk (g.n:Int) rfl ?_
 refine aJ.mk (Nat×(Nat->Nat)) (fun(i,s)=>([(2,.aC 5 0),(5,.aC 0 0),(39,.p (.int .i64 g.n)),(40,.p (.int .i64 (i:Nat)))],
   [.box 187 (Lm g.n 0),.rows 24 (cO 2 g.n g.n id),.bu 31 3 (c9 g.n g.n (aQ g)),.vec 3 1 (eV g.n s),.map [],.box 171 lC]))
  (fun(i,s)=>i<=g.n/\∀t,t<g.n->s t=if t<i then t else 0) (fun x=>g.n-x.1) (0,fun t=>if t<0 then t else 0) [6,2,3,4,5,1] ⟨Nat.zero_le _,fun t _=>rfl⟩
  (aY ⟨rfl,congrArg _ (aS 3 rfl qD),rfl,congrArg _ LP.symm,rfl,rfl,aN fun q hq=>by simpa[aD]using hq,trivial⟩) ?_
 intro⟨i,s⟩ ⟨hi,hs⟩
 by_cases hin:i<g.n
 ·refine bo ?_
  refine aK.mk i rfl hin ?_
  refine cm.perm hin ?_
  refine dp.perm ?_
  refine a5 (i+1) ?_
  refine⟨(i+1,_),[0,1,2,3,4,5],⟨hin,fun t ht=>?_⟩,cA,aY ⟨rfl,congrArg _ (aS 2 rfl qD),rfl,rfl,rfl,rfl,aN fun q hq=>by simpa[aD]using hq,trivial⟩ (ss:=⟨rfl,rfl,rfl,rfl,trivial⟩)⟩
  show a8 s (i+0) i t=_
  unfold a8
  by_cases e:t=i
  ·rw[if_pos qO,if_pos qO,e]
  ·rw[if_neg qO,hs t ht]
   by_cases e2:t<i
   ·rw[if_pos e2,if_pos qO]
   ·rw[if_neg e2,if_neg qO]
 refine bd ?_
 obtain rfl:i=g.n:=qO
 have es:eV g.n s=eV g.n id:=rz fun t ht=>by rw[hs t ht,if_pos ht];rfl
 refine aa.gw (lP g.n 0 (aQ g) (aQ g) id [] 0 (Nat.zero_le _) qO (fun i hi=>hi) (fun _ _ _ _=>rfl) (hB 0 (Nat.zero_le _)) (cB.mono h1) qO (fun e he=>by simp at he)) (fun _=>rfl) qD ⟨rfl,fun _=>rfl⟩ ⟨rfl,fun _=>rfl⟩ ⟨rfl,fun _=>rfl⟩ ⟨congrArg (aA.vec 3 1) es,fun _=>rfl⟩ ⟨rfl,fun _=>rfl⟩ ?_
 refine SZ.mk (g.n:Int) rfl ?_
 refine aJ.mk (Nat×(Nat->Nat->Rat)) (fun(k,G)=>([(2,.aC 5 0),(5,.aC 0 0),(7,.aC 6 0),(61,.p (.int .i64 g.n)),(62,.p (.int .i64 (k:Nat)))],
   oO g.n G (gk g.n (aQ g) k).s (rG g.n (aQ g) k) (oB g.n (aQ g) k)++[.box 171 lC,.box 31 (lr (oB g.n (aQ g) 0))]))
  (fun(k,G)=>k<=g.n/\∀i j,i<g.n->j<g.n->G ((gk g.n (aQ g) k).s i) j=(gk g.n (aQ g) k).B i j) (fun x=>g.n-x.1) (0,aQ g) [0,1,2,3,4,5,6] ⟨Nat.zero_le _,fun _ _ _ _=>rfl⟩
  (aY ⟨rfl,congrArg _ (aS 2 rfl qD),rfl,rfl,rfl,rfl,rfl,aN (s:=id) fun q hq=>by simpa[aD]using hq,trivial⟩) ?_
 intro⟨k,G⟩ ⟨hkn,hG⟩
 obtain⟨r1,r2,r3⟩:=i6 (n:=g.n) (A:=aQ g) k qO
 have zr:=wQ hB h1 k qO
 by_cases hkn2:k<g.n
 ·refine bo ?_
  refine aa.gw (lP g.n k G (gk g.n (aQ g) k).B (gk g.n (aQ g) k).s (rG g.n (aQ g) k) (oB g.n (aQ g) k) qO qO r1 hG (hB k qO) zr qO (iy k).wH)
   (fun _=>rfl) qD ⟨rfl,fun _=>rfl⟩ ⟨rfl,fun _=>rfl⟩ ⟨rfl,fun _=>rfl⟩ ⟨rfl,fun _=>rfl⟩ ⟨rfl,fun _=>rfl⟩ ?_
  refine aa.gw (tq g.n k G (gk g.n (aQ g) k).B (gk g.n (aQ g) k).s (rG g.n (aQ g) k) (oB g.n (aQ g) (k+1)) true qO qO r1 hG (hB k qO) qO (iy k).wH ((decide_eq_true (by rw[<-oY];exact hp k hkn2)).symm))
   (fun _=>rfl) qD ⟨rfl,fun _=>rfl⟩ ⟨rfl,fun _=>rfl⟩ ⟨rfl,fun _=>rfl⟩ ⟨rfl,fun _=>rfl⟩ ⟨rfl,fun _=>rfl⟩ ?_
  refine cJ ?_
  obtain⟨si,hsi⟩:=GP (n:=g.n) (A:=aQ g) (k:=k+1) qO
  obtain⟨q1,q2,_⟩:=i6 (n:=g.n) (A:=aQ g) (k+1) qO
  refine aa.gw (vL g.n k G (mc g.n (aQ g) k) (gk g.n (aQ g) (k+1)).s si (rG g.n (aQ g) k) (oB g.n (aQ g) (k+1)) qO qO q1 q2 hsi (Gc qO hG) (hB.P qO) qO (hp k hkn2) (iy k))
   (fun _=>rfl) qD ⟨rfl,fun _=>rfl⟩ ⟨rfl,fun _=>rfl⟩ ⟨rfl,fun _=>rfl⟩ ⟨rfl,fun _=>rfl⟩ ⟨rfl,fun _=>rfl⟩ ?_
  refine a5 (k+1) ?_
  exact⟨(k+1,fun r j=>ky (mc g.n (aQ g) k) k (si r) j),[0,1,2,3,4,5,6],⟨qO,Dd qO hsi⟩,cA,aY ⟨rfl,congrArg _ (aS 2 rfl qD),rfl,rfl,rfl,rfl,rfl,aN fun q hq=>by simpa[aD]using q1 q hq,trivial⟩⟩
 ·refine bd ?_
  obtain rfl:k=g.n:=qO
  have r1:∀i,i<g.n->gO g.n (aQ g) i<g.n:=r1
  have own:=Lv true true g.n (fun i=>G (gO g.n (aQ g) i)) n1 qO (fun i j hi hj=>by
   have e:G (gO g.n (aQ g) i) j=(gk g.n (aQ g) g.n).B i j:=hG i j hi hj
   rw[e];exact hB g.n (Nat.le_refl _) i j hi hj) qO
  have eU:cn false false g.n g.n (fun i=>G (gO g.n (aQ g) i))=cn false false g.n g.n (gU g.n (aQ g)):=uJ fun i j hi hj=>hG i j hi hj
  rw[eU]at own
  refine cS ?_
  repeat refine aq ?_
  refine ag (ie.cO rfl r1<|aa.pure own af) ?_
  repeat refine aq ?_
  refine cX ?_
  refine SZ.mk (g.n:Int) rfl ?_
  refine aJ.yu Nat (fun i=>match i with
    |0=>([(2,.aC 5 0),(5,.aC 0 0),(7,.aC 6 0),(9,.aC 7 0),(91,.p (.int .i64 g.n)),(92,.p (.int .i64 0))],
     oO g.n G (gO g.n (aQ g)) (rG g.n (aQ g) g.n) (oB g.n (aQ g) g.n)++([aA.box 171 lC,aA.box 31 (lr (oB g.n (aQ g) 0)),aA.box 171 [.vec (.t 3) 1 0 g.n,.p (.raw (.slice none 0 0)),.p (cn false false g.n g.n (gU g.n (aQ g))),.p (.bool false),.p (.sl false 1 []),.p (.sl false 1 [])],aA.bu 31 3 (c9 0 g.n (gL g.n (aQ g)))]:List aA))
    |i+1=>([(2,.aC 5 0),(5,.aC 0 0),(7,.aC 6 0),(9,.aC 7 0),(91,.p (.int .i64 g.n)),(92,.p (.int .i64 ((i+1:Nat):Int)))],
     oO g.n G (gO g.n (aQ g)) (rG g.n (aQ g) g.n) (oB g.n (aQ g) g.n)++([aA.box 171 lC,aA.box 31 (lr (oB g.n (aQ g) 0)),aA.box 171 [.vec (.t 3) 1 0 g.n,.vec (.t 9) 1 0 (i+1),.p (cn false false g.n g.n (gU g.n (aQ g))),.p (.bool false),.p (.sl false 1 []),.p (.sl false 1 [])],aA.bu 31 3 (c9 (i+1) g.n (gL g.n (aQ g))),aA.rows 24 (cO 8 g.n (i+1) id)]:List aA)))
   (fun i=>i<=g.n) (fun i=>g.n-i) 0 [0,1,2,3,4,5,6,7,8] _ _ (.bu 31 3 (.done _ _)) (Nat.zero_le _) (aY ⟨rfl,congrArg _ (aS 2 rfl qD),rfl,rfl,rfl,rfl,rfl,rfl,rfl,aN fun q hq=>by simpa[aD]using r1 q hq,trivial⟩) ?_
  intro i hi
  match i,hi with
  |0,hi=>
   refine bo ?_
   refine SZ.mk (g.n:Int) rfl ?_
   refine SZ.mk (g.n:Int) rfl ?_
   refine cm.mk qS ?_
   refine cy.rat g.n rfl qO ?_
   refine SZ.mk (g.n:Int) rfl ?_
   refine aJ.mk Nat (fun j=>([(2,.aC 5 0),(5,.aC 0 0),(7,.aC 6 0),(9,.aC 7 0),(10,.p (.int .i64 0)),(11,.vec 9 3 0 g.n),(91,.p (.int .i64 g.n)),(92,.p (.int .i64 0)),(102,.p (.int .i64 g.n)),(103,.p (.int .i64 (j:Nat)))],
     oO g.n G (gO g.n (aQ g)) (rG g.n (aQ g) g.n) (oB g.n (aQ g) g.n)++([aA.box 171 lC,aA.box 31 (lr (oB g.n (aQ g) 0)),aA.box 171 [.vec (.t 3) 1 0 g.n,.p (.raw (.slice none 0 0)),.p (cn false false g.n g.n (gU g.n (aQ g))),.p (.bool false),.p (.sl false 1 []),.p (.sl false 1 [])],aA.bu 31 3 (c9 0 g.n (gL g.n (aQ g))),aA.vec 31 3 (fl g.n fun k=>if k<j then aB (gL g.n (aQ g) (0) k)else cU)]:List aA)))
    (fun j=>j<=g.n) (fun j=>g.n-j) 0 [0,1,2,3,4,5,6,7,8,9] (Nat.zero_le _) (aY ⟨rfl,congrArg _ (aS 2 rfl qD),rfl,rfl,rfl,rfl,rfl,rfl,rfl,congrArg _ ((aU fun k hk=>if_neg qO).trans (bQ g.n cU).symm),aN fun q hq=>by simpa[aD]using r1 q hq,trivial⟩) ?_
   intro j (hj:j<=g.n)
   by_cases hjn:j<g.n
   ·refine bo ?_
    have low:=vB g.n (aQ g) (fl g.n fun i=>ar true (aH g.n (G (gO g.n (aQ g) i)))) (oB g.n (aQ g) g.n) (0) j qO hjn (zL (0) j qO) qO
    refine ie.cO rfl r1 ?_
    refine bl.all qS ?_
    refine aa.pure (low) ?_
    refine aK.mk j rfl hjn ?_
    refine cm.mk (by simp;omega)<|dp.mk _ (eQ hjn) ?_
    refine a5 (j+1) ?_
    exact⟨j+1,[0,1,2,3,4,5,6,7,8,9],hjn,cA,aY ⟨rfl,congrArg _ (aS 2 rfl qD),rfl,rfl,rfl,rfl,rfl,rfl,rfl,rfl,aN fun q hq=>by simpa[aD]using r1 q hq,trivial⟩⟩
   ·refine bd ?_
    obtain rfl:j=g.n:=qO
    refine cG.mk qS qS ?_
    refine a5 (0+1) ?_
    exact⟨1,[0,1,2,3,4,5,6,7,10008,11],n1,cA,aY ⟨rfl,congrArg _ (aS 2 rfl qD),rfl,rfl,rfl,rfl,rfl,rfl,⟨_,_,_,_,rfl,rfl,congrArg _ (eW.trans (congrArg (fun r=>c9 0 g.n (gL g.n (aQ g))++[some r]) ks))⟩,congrArg _ (gb (p':=8) (q:=9) (c:=g.n) (k:=0) rfl qD (by simp[aD])),aN fun q hq=>by simpa[aD]using r1 q hq,aN fun q hq=>by simpa[aD]using hq,trivial⟩⟩
  |i+1,hi=>
   have hi:i+1<=g.n:=hi
   by_cases hin:i+1<g.n
   ·refine bo ?_
    refine SZ.mk (g.n:Int) rfl ?_
    refine SZ.mk (g.n:Int) rfl ?_
    refine cm.mk qS ?_
    refine cy.rat g.n rfl qO ?_
    refine SZ.mk (g.n:Int) rfl ?_
    refine aJ.mk Nat (fun j=>([(2,.aC 5 0),(5,.aC 0 0),(7,.aC 6 0),(9,.aC 7 0),(10,.p (.int .i64 ((i+1:Nat):Int))),(11,.vec 10 3 0 g.n),(91,.p (.int .i64 g.n)),(92,.p (.int .i64 ((i+1:Nat):Int))),(102,.p (.int .i64 g.n)),(103,.p (.int .i64 (j:Nat)))],
      oO g.n G (gO g.n (aQ g)) (rG g.n (aQ g) g.n) (oB g.n (aQ g) g.n)++([aA.box 171 lC,aA.box 31 (lr (oB g.n (aQ g) 0)),aA.box 171 [.vec (.t 3) 1 0 g.n,.vec (.t 9) 1 0 (i+1),.p (cn false false g.n g.n (gU g.n (aQ g))),.p (.bool false),.p (.sl false 1 []),.p (.sl false 1 [])],aA.bu 31 3 (c9 (i+1) g.n (gL g.n (aQ g))),aA.rows 24 (cO 8 g.n (i+1) id),aA.vec 31 3 (fl g.n fun k=>if k<j then aB (gL g.n (aQ g) (i+1) k)else cU)]:List aA)))
     (fun j=>j<=g.n) (fun j=>g.n-j) 0 [0,1,2,3,4,5,6,7,8,9,10] (Nat.zero_le _) (aY ⟨rfl,congrArg _ (aS 2 rfl qD),rfl,rfl,rfl,rfl,rfl,rfl,rfl,congrArg _ (aS 8 rfl qD),congrArg _ ((aU fun k hk=>if_neg qO).trans (bQ g.n cU).symm),aN fun q hq=>by simpa[aD]using r1 q hq,aN fun q hq=>by simpa[aD]using hq,trivial⟩) ?_
    intro j (hj:j<=g.n)
    by_cases hjn:j<g.n
    ·refine bo ?_
     have low:=vB g.n (aQ g) (fl g.n fun i=>ar true (aH g.n (G (gO g.n (aQ g) i)))) (oB g.n (aQ g) g.n) (i+1) j qO hjn (zL (i+1) j qO) qO
     refine ie.cO rfl r1 ?_
     refine bl.all qS ?_
     refine aa.pure (low) ?_
     refine aK.mk j rfl hjn ?_
     refine cm.mk (by simp;omega)<|dp.mk _ (eQ hjn) ?_
     refine a5 (j+1) ?_
     exact⟨j+1,[0,1,2,3,4,5,6,7,8,9,10],hjn,cA,aY ⟨rfl,congrArg _ (aS 2 rfl qD),rfl,rfl,rfl,rfl,rfl,rfl,rfl,congrArg _ (aS 8 rfl qD),rfl,aN fun q hq=>by simpa[aD]using r1 q hq,aN fun q hq=>by simpa[aD]using hq,trivial⟩⟩
    ·refine bd ?_
     obtain rfl:j=g.n:=qO
     refine iq.mk qS ?_
     refine cG.mk (by simp;omega) (by simp;omega) ?_
     refine rR.mk _ rfl ?_
     refine pa.mk (i+1+1) qS ?_
     refine a5 (i+1+1) ?_
     exact⟨i+1+1,[0,1,2,3,4,5,6,7,11008,12],hin,cA,aY ⟨rfl,congrArg _ (aS 2 rfl qD),rfl,rfl,rfl,rfl,rfl,rfl,⟨_,_,_,_,rfl,rfl,congrArg _ (eW.trans (congrArg (fun r=>c9 (i+1) g.n (gL g.n (aQ g))++[some r]) ks))⟩,congrArg _ (gb (p':=8) (q:=10) (c:=g.n) (k:=i+1) rfl qD (by simp[aD])),aN fun q hq=>by simpa[aD]using r1 q hq,aN fun q hq=>by simpa[aD]using hq,trivial⟩⟩
   ·refine bd ?_
    have hn:i+1=g.n:=qO
    have z0:oB g.n (aQ g) 0≠0:=fun e=>by have:=LA n1 (hp 0 n1);rw[e]at this;exact absurd this qD
    have gq:=iS (oB g.n (aQ g) g.n) (oB g.n (aQ g) 0) z0 (wQ hB h1 g.n (Nat.le_refl _)).sz (wQ hB h1 0 (Nat.zero_le _)).sz qO
    refine cS ?_
    repeat refine aq ?_
    refine ag (aa.aO (gq) (fun _=>rfl) af) ?_
    repeat refine aq ?_
    refine cX ?_
    have eL:cn false false g.n g.n (gL g.n (aQ g))=cn false false (i+1) g.n (gL g.n (aQ g)):=by rw[hn]
    refine ab.pure (.bK rfl fun a c d e1 e2=>?_)
    match a,e1,e2 with
    |0,e1,e2=>
     cases e1;cases e2
     refine .ov (ps:=Hz g.n (aQ g)) (fun d hd=>by simp only[Hz,List.mem_cons,List.not_mem_nil,or_false]at hd;rcases hd with rfl|rfl|rfl|rfl|rfl|rfl<;>rfl) rfl fun a c d e1 e2=>?_
     match a,e1,e2 with
     |0,e1,e2=>cases e1;cases e2;exact .JE (h:=.t 3) rfl qS qS wq (by rw[List.drop_zero];exact List.take_of_length_le qS)
     |1,e1,e2=>cases e1;cases e2;rw[eL];exact yR (h:=9) (p:=8) rfl rfl fun q hq=>hq
     |2,e1,e2=>cases e1;cases e2;exact .p _ eY
     |3,e1,e2=>cases e1;cases e2;exact .p _ (.bool _)
     |4,e1,e2=>cases e1;cases e2;exact .p _ (.sl _ _ (aL _))
     |5,e1,e2=>cases e1;cases e2;exact .p _ (.sl _ _ (aL _))
    |1,e1,e2=>cases e1;cases e2;exact .p _ (.int _ _)
theorem bn.Qc {b:PV->Bool} {A:Nat->Nat->Rat} {n k:Nat} {K:Prop} (hk:k<=n) (hb:∀i k:Nat,b (cI i k)=true) (hK:K):bn b (oA A n k) K:=
 .mk (fun e he=>by obtain⟨i,j,rfl,_⟩:=qo k hk e he;exact hb _ _) hK
theorem eo.tk {A:Nat->Nat->Rat} {n i j:Nat} {K:Option PV->Prop} (hji:j<i) (hin:i<n) (hK:K (some (aB (Nk A i j)))):eo (oA A n n) (cI i j) K:=by
 obtain⟨a,h1,h2⟩:=MN hji hin n (Nat.le_refl _) (show j<n by omega)
 exact .yes a _ h1 (by rw[dc];exact decide_eq_true ⟨rfl,rfl⟩) h2 hK
theorem eo.PU {A:Nat->Nat->Rat} {n i j:Nat} {K:Option PV->Prop} (hij:i<=j) (hK:K Option.none):eo (oA A n n) (cI i j) K:=
 .no (fun e he=>by
  obtain⟨i',j',rfl,_,h3,_⟩:=qo n (Nat.le_refl _) e he
  rw[dc];exact decide_eq_false fun h=>qO) hK
abbrev PF (n:Nat) (A:Nat->Nat->Rat):PV:=.f5 true (.agg [.int .i64 (n:Int),.mp true (ff n (gs A n) (n*n)),.mp true (oA A n n)])
theorem Ff (A:Nat->Nat->Rat) (n i j:Nat) (hi:i<n) (hj:j<n):ae Tryz.prog 215 [PF n A,cI i j] (.p (aB (fT A i j))) []:=by
 have hc:=FO i j
 by_cases e:i=j
 ·rw[decide_eq_true e]at hc
  have:fT A i j=1:=if_pos e
  rw[this]
  refine aW Tryz.func215 ?_
  refine aa.pure (hc) ?_
  refine gv ?_
  refine aa.pure (JJ) ?_
  exact ab.pure (.p _ (aG _ _ _))
 ·rw[decide_eq_false e]at hc
  by_cases c:j<i
  ·have:fT A i j=Nk A i j:=by unfold fT;rw[if_neg e,if_pos c];rfl
   rw[this]
   refine aW Tryz.func215 ?_
   refine aa.pure (hc) ?_
   refine fI ?_
   refine cS ?_
   repeat refine aq ?_
   refine ag (bn.Qc (Nat.le_refl _) (fun _ _=>rfl)<|eo.tk c hi af) ?_
   repeat refine aq ?_
   refine cX ?_
   exact ab.pure (.p _ (aG _ _ _))
  ·have:fT A i j=0:=by unfold fT;rw[if_neg e,if_neg c]
   rw[this]
   refine aW Tryz.func215 ?_
   refine aa.pure (hc) ?_
   refine fI ?_
   refine cS ?_
   repeat refine aq ?_
   refine ag (bn.Qc (Nat.le_refl _) (fun _ _=>rfl)<|eo.PU qO af) ?_
   repeat refine aq ?_
   refine cX ?_
   refine aa.pure (pb) ?_
   exact ab.pure (.p _ (aG _ _ _))
theorem EA (A:Nat->Nat->Rat) (n i j:Nat) (hi:i<n) (hj:j<n):ae Tryz.prog 216 [PF n A,cI i j] (.p (aB (iJ A i j))) []:=by
 by_cases c:j<i
 ·have:iJ A i j=0:=if_pos c
  rw[this]
  refine aW Tryz.func216 ?_
  refine aK.mk 0 rfl qD ?_
  refine aK.mk 1 rfl qD ?_
  refine bo ?_
  refine aa.pure (pb) ?_
  exact ab.pure (.p _ (aG _ _ _))
 ·have:iJ A i j=gs A n i j:=by unfold iJ;rw[if_neg c];exact(Kv qO).symm
  rw[this]
  refine aW Tryz.func216 ?_
  refine aK.mk 0 rfl qD ?_
  refine aK.mk 1 rfl qD ?_
  refine bd ?_
  refine cS ?_
  repeat refine aq ?_
  refine ag (bn.nW (fun _ _=>rfl)<|eo.nW hi hj af) ?_
  repeat refine aq ?_
  refine cX ?_
  exact ab.pure (.p _ (aG _ _ _))
theorem yC (f:FuncId) (p:PV) (n:Nat) (F:Nat->Nat->Rat) {b:Nat} (hF:∀i j,i<n->j<n->ae Tryz.prog f [p,cI i j] (.p (aB (F i j))) []) (hB:∀i j,i<n->j<n->Bz (F i j) b) (hb:b<=1000000) (hn:n<=1000):
  ae Tryz.prog 214 [.int .i64 n,.lp f [p]] (.p (cn false false n n F)) []:=by
 refine aW Tryz.func214 ?_
 refine SZ.mk (n:Int) rfl ?_
 refine cm.mk qS ?_
 refine cy.mk n rfl (by simp;omega) qO ?_
 refine Ou.rows ?_
 refine SZ.mk (n:Int) rfl ?_
 refine aJ.yu Nat (fun i=>([(0,.p (.int .i64 n)),(1,.p (.lp f [p])),(5,.vec 0 1 0 n),(11,.p (.int .i64 n)),(12,.p (.int .i64 i))],[.rows 24 (half 1 n n i),.bu 31 3 (c9 i n F)]))
  (fun i=>i<=n) (fun i=>n-i) 0 [0,1] _ _ (.bu 31 3 (.done _ _)) (Nat.zero_le _) (aY ⟨congrArg _ ke,rfl,fW fun i hi=>absurd hi (Nat.not_lt_zero _),trivial⟩) ?_
 intro i (hi:i<=n)
 by_cases hin:i<n
 ·refine bo ?_
  refine SZ.mk (n:Int) rfl ?_
  refine cm.mk qS ?_
  refine cy.rat n rfl qO ?_
  refine aK.mk i rfl hin ?_
  refine cm.mk (by simp;omega) ?_
  refine rR.mk (qJ 1 n n i 2) tI ?_
  refine aK.mk i rfl hin ?_
  refine bJ.mk i _ rfl (kc hin) ?_
  refine SZ.mk (n:Int) rfl ?_
  refine aJ.mk Nat (fun j=>([(0,.p (.int .i64 n)),(1,.p (.lp f [p])),(5,.vec 0 1 0 n),(6,.p (.int .i64 i)),(11,.p (.int .i64 n)),(12,.p (.int .i64 i)),(24,.p (.int .i64 n)),(25,.p (.int .i64 j))],[.rows 24 (qJ 1 n n i 2),.bu 31 3 (c9 i n F),.vec 31 3 (fl n fun k=>if k<j then aB (F i k)else cU)]))
   (fun j=>j<=n) (fun j=>n-j) 0 [0,1,2] (Nat.zero_le _) (aY ⟨congrArg _ (kf 1 2 rfl qD rfl qD),rfl,congrArg _ ((aU fun k hk=>if_neg qO).trans (bQ n cU).symm),mZ (fun i hi=>by simpa[aD]using hi) (fun e=>by cases e),trivial⟩) ?_
  intro j (hj:j<=n)
  by_cases hjn:j<n
  ·refine bo ?_
   have hFij:=hF i j hin hjn
   refine cS ?_
   repeat refine aq ?_
   refine ag (aK.mk i rfl hin af) ?_
   refine ag (bJ.mk i _ rfl (kc hin) af) ?_
   repeat refine aq ?_
   refine ag (aa.pure (pvs:=[p,cI i j]) hFij af) ?_
   refine ag (aa.pure (pb) af) ?_
   refine ag (aa.pure (jv (hB i j hin hjn) hb) af) ?_
   refine ag (aK.mk j rfl hjn af) ?_
   refine ag (cm.mk (by simp;omega)<|dp.mk _ (eQ hjn) af) ?_
   repeat refine aq ?_
   refine cX ?_
   refine a5 (j+1) ?_
   exact⟨j+1,[0,1,2],hjn,cA,aY ⟨congrArg _ (kf 1 2 rfl qD rfl qD),rfl,rfl,mZ (fun i hi=>by simpa[aD]using hi) (fun e=>by cases e),trivial⟩⟩
  ·refine bd ?_
   obtain rfl:j=n:=qO
   refine a5 (i+1) ?_
   exact⟨i+1,[0,3001],hin,cA,aY ⟨congrArg _ (iH rfl qD (by simp[aD])),⟨_,_,_,_,rfl,rfl,congrArg _ (eW.trans (congrArg (fun r=>c9 i j F++[some r]) ks))⟩,fW fun i hi=>by simpa[aD]using hi,trivial⟩⟩
 ·refine bd ?_
  obtain rfl:i=n:=qO
  exact ab.pure (yR (H:=[_,_]) (h:=0) (p:=1) (congrArg (aA.rows _) kq) rfl fun i hi=>hi)
abbrev P8:FuncId->Bool:=fun f=>Nat.beq f 213
theorem zn (m:Nat->Bool) (g:GV) {b c D:Nat} (h:Wf g b c) (hB:NA (aQ g) g.n D) (hD:4*D<=1048576) (hz:zX (aQ g) g.n<g.n):
  ae Tryz.prog 192 [dP m g] (.bK [.p (.sl false 1 []),.p (.sl false 1 []),.p (.int .i64 ((zX (aQ g) g.n+1:Nat):Int)),.p (.int .i64 8)]) []:=by
 have h6:=h.n6
 have n1:=h.n1
 obtain⟨b1,b2,b3⟩:=vU (aQ g) g.n
 obtain⟨K,hK⟩:∃K,K=zX (aQ g) g.n:=⟨_,rfl⟩
 rw[<-hK]at b1 b2 b3 hz⊢
 have b3:=b3 hz
 refine Jy (wr:=P8) Tryz.func192 ?_
 refine aa.pure (eI m g h) ?_
 refine uT.mk (fun _=>?_) (fun h=>absurd h (by simp;omega))
 refine aa.news (HP false false g.n (aQ g) qO) (fun B hB=>by simp only[HL,List.mem_cons,List.not_mem_nil,or_false]at hB;rcases hB with rfl|rfl|rfl<;>exact fun e=>by cases e) ?_
 refine aJ.mk Nat (fun k=>([(7,.aC 0 0),(18,.p (.int .i64 g.n)),(19,.p (.int .i64 k))],HL g.n (ff g.n (gs (aQ g) k) (g.n*g.n)) (oA (aQ g) g.n k)))
  (fun k=>k<=K) (fun k=>g.n-k) 0 [1,2,3] (Nat.zero_le _) aY ?_
 intro k (hk:k<=K)
 refine bo ?_
 by_cases e:k<K
 ·refine aa.three 0 1 2 (DA (aQ g) g.n k qO qO (b2 k e) hB hD)
   qD qD qD qD rfl ⟨rfl,fun _=>rfl⟩ ⟨rfl,fun _=>rfl⟩ ⟨rfl,fun _=>rfl⟩
    (fun B hB=>by simp only[List.mem_cons,List.not_mem_nil,or_false]at hB;rcases hB with rfl|rfl|rfl<;>exact⟨fun e=>by(cases e),fun e=>by(cases e)⟩)
    (fun B hB k hk=>by
     simp only[List.mem_cons,List.not_mem_nil,or_false]at hB
     rcases hB with rfl|rfl|rfl
     ·simp only[aA.aT,AV.bm,AV.aT,or_false,false_or]at hk
      rcases hk with rfl|rfl<;>decide
     ·exact hk.elim
     ·exact hk.elim)
    (fun B hB=>by simp only[List.mem_cons,List.not_mem_nil,or_false]at hB;rcases hB with rfl|rfl|rfl<;>exact fun e=>by(cases e))
    (fun a ha k hk=>by
     simp only[List.mem_cons,List.not_mem_nil,or_false]at ha
     rcases ha with rfl|rfl
     ·simp only[AV.aT]at hk;subst hk;decide
     ·simp only[AV.aT]at hk) ?_
  refine cJ ?_
  refine a5 (k+1) ?_
  exact⟨k+1,[0,1,2],e,cA,aY⟩
 ·obtain rfl:k=K:=qO
  refine aa.three 0 1 2 (IQ (aQ g) g.n k qO qO b3)
   qD qD qD qD rfl ⟨rfl,fun _=>rfl⟩ ⟨rfl,fun _=>rfl⟩ ⟨rfl,fun _=>rfl⟩
    (fun B hB=>by simp only[List.mem_cons,List.not_mem_nil,or_false]at hB;rcases hB with rfl|rfl|rfl<;>exact⟨fun e=>by(cases e),fun e=>by(cases e)⟩)
    (fun B hB k hk=>by
     simp only[List.mem_cons,List.not_mem_nil,or_false]at hB
     rcases hB with rfl|rfl|rfl
     ·simp only[aA.aT,AV.bm,AV.aT,or_false,false_or]at hk
      rcases hk with rfl|rfl<;>decide
     ·exact hk.elim
     ·exact hk.elim)
    (fun B hB=>by simp only[List.mem_cons,List.not_mem_nil,or_false]at hB;rcases hB with rfl|rfl|rfl<;>exact fun e=>by(cases e))
    (fun a ha k hk=>by
     simp only[List.mem_cons,List.not_mem_nil,or_false]at ha
     rcases ha with rfl|rfl
     ·simp only[AV.aT]at hk;subst hk;decide
     ·simp only[AV.aT]at hk) ?_
  refine ir ?_
  refine a5 (k+1) ?_
  exact ab.pure (.bK rfl fun i c d e1 e2=>by
   match i,e1,e2 with
   |0,e1,e2=>cases e1;cases e2;exact .emp 1
   |1,e1,e2=>cases e1;cases e2;exact .emp 1
   |2,e1,e2=>cases e1;cases e2;exact .p _ (.int _ _)
   |3,e1,e2=>cases e1;cases e2;exact .p _ (.int _ _))
theorem B9 (m:Nat->Bool) (g:GV) {b c D:Nat} (h:Wf g b c) (hB:NA (aQ g) g.n D) (hD:4*D<=1000000) (hp:∀t,t<g.n->wi (aQ g) t≠0):
  ae Tryz.prog 192 [dP m g] (.bK [.p (cn false false g.n g.n (fT (aQ g))),.p (cn false false g.n g.n (iJ (aQ g))),.p (.int .i64 0),.p (.int .i64 0)]) []:=by
 have h6:=h.n6
 have n1:=h.n1
 have zL:∀i j,i<g.n->j<g.n->Bz (fT (aQ g) i j) (D+D+1):=fun i j hi hj=>by
  unfold fT
  split
  ·exact dv.mono qO
  ·split
   ·exact((hB j qO i j hi hj).div (hB j qO j j hj hj)).mono qO
   ·exact cB.mono qO
 have zU:∀i j,i<g.n->j<g.n->Bz (iJ (aQ g) i j) (D+D+1):=fun i j hi hj=>by
  unfold iJ
  split
  ·exact cB.mono qO
  ·exact(hB i qO i j hi hj).mono qO
 refine Jy (wr:=P8) Tryz.func192 ?_
 refine aa.pure (eI m g h) ?_
 refine uT.mk (fun _=>?_) (fun h=>absurd h (by simp;omega))
 refine aa.news (HP false false g.n (aQ g) qO) (fun B hB=>by simp only[HL,List.mem_cons,List.not_mem_nil,or_false]at hB;rcases hB with rfl|rfl|rfl<;>exact fun e=>by cases e) ?_
 refine aJ.mk Nat (fun k=>([(7,.aC 0 0),(18,.p (.int .i64 g.n)),(19,.p (.int .i64 k))],HL g.n (ff g.n (gs (aQ g) k) (g.n*g.n)) (oA (aQ g) g.n k)))
  (fun k=>k<=g.n) (fun k=>g.n-k) 0 [1,2,3] (Nat.zero_le _) aY ?_
 intro k (hk:k<=g.n)
 by_cases hkn:k<g.n
 ·refine bo ?_
  refine aa.three 0 1 2 (DA (aQ g) g.n k hkn qO (hp k hkn) hB qO)
   qD qD qD qD rfl ⟨rfl,fun _=>rfl⟩ ⟨rfl,fun _=>rfl⟩ ⟨rfl,fun _=>rfl⟩
    (fun B hB=>by simp only[List.mem_cons,List.not_mem_nil,or_false]at hB;rcases hB with rfl|rfl|rfl<;>exact⟨fun e=>by(cases e),fun e=>by(cases e)⟩)
    (fun B hB k hk=>by
     simp only[List.mem_cons,List.not_mem_nil,or_false]at hB
     rcases hB with rfl|rfl|rfl
     ·simp only[aA.aT,AV.bm,AV.aT,or_false,false_or]at hk
      rcases hk with rfl|rfl<;>decide
     ·exact hk.elim
     ·exact hk.elim)
    (fun B hB=>by simp only[List.mem_cons,List.not_mem_nil,or_false]at hB;rcases hB with rfl|rfl|rfl<;>exact fun e=>by(cases e))
    (fun a ha k hk=>by
     simp only[List.mem_cons,List.not_mem_nil,or_false]at ha
     rcases ha with rfl|rfl
     ·simp only[AV.aT]at hk;subst hk;decide
     ·simp only[AV.aT]at hk) ?_
  refine cJ ?_
  refine a5 (k+1) ?_
  exact⟨k+1,[0,1,2],hkn,cA,aY⟩
 ·refine bd ?_
  obtain rfl:k=g.n:=qO
  have c1:=yC 215 (PF g.n (aQ g)) g.n (fT (aQ g)) (fun i j hi hj=>Ff (aQ g) g.n i j hi hj) zL qO qO
  have c2:=yC 216 (PF g.n (aQ g)) g.n (iJ (aQ g)) (fun i j hi hj=>EA (aQ g) g.n i j hi hj) zU qO qO
  refine cS ?_
  repeat refine aq ?_
  refine ag (aa.pure (c1) af) ?_
  repeat refine aq ?_
  refine ag (aa.pure (c2) af) ?_
  repeat refine aq ?_
  refine cX ?_
  exact ab.pure (.bK rfl fun i c d e1 e2=>by
   match i,e1,e2 with
   |0,e1,e2=>cases e1;cases e2;exact .p _ eY
   |1,e1,e2=>cases e1;cases e2;exact .p _ eY
   |2,e1,e2=>cases e1;cases e2;exact .p _ (.int _ _)
   |3,e1,e2=>cases e1;cases e2;exact .p _ (.int _ _))
theorem gT.PQ {g:GV} {b c:Nat} (h:gT g b c) (ha:j9 g.A g.n) (hb:j9 g.B g.n):uR g.n g.A g.B:=⟨ha,hb,fun i k hi hk=>h.Ql hi hk⟩
theorem GD {g:GV} {b c:Nat} (h:gT g b c) {i k:Nat} (hi:i<g.n) (hk:k<g.n):∀m,m<=g.n->Bz (vn g.A g.B i k m) (300+m*850):=by
 intro m
 induction m with
 |zero=>intro _;simp only[vn];exact(dv.div (h.Mh hk hi)).mono qO
 |succ m ih=>
  intro hm
  have zm:=(ih qO).mul ((h.Mh hk (show m<g.n by omega)).mul (h.Mh (show m<g.n by omega) hi))
  simp only[vn]
  have z1:=zm.div (h.Pt hk (show m<g.n by omega))
  have z2:=z1.div (h.OS (show m<g.n by omega) hi)
  have z3:=zm.div (h.OS (show m<g.n by omega) hi)
  split<;>split
  ·exact zm.mono qO
  ·exact z1.mono qO
  ·exact z3.mono qO
  ·exact z2.mono qO
theorem vM (g:GV) {b c:Nat} (h:gT g b c) (ha:j9 g.A g.n) (hb:j9 g.B g.n) (i k:Nat) (hi:i<g.n) (hk:k<g.n):
  ae Tryz.prog 231 [.agg (oe g.n g.A g.B false false),.int .i64 i,.int .i64 k] (.p (aB (vn g.A g.B i k g.n))) []:=by
 have h6:=h.n6
 have H:=h.PQ ha hb
 refine aW Tryz.func231 ?_
 refine cS ?_
 repeat refine aq ?_
 refine ag (aa.pure (Lj) af) ?_
 repeat refine aq ?_
 refine ag (bn.nW (fun _ _=>rfl)<|eo.nW hk hi af) ?_
 repeat refine aq ?_
 refine ag (aa.pure (pE _ _ (H.dx hk hi) dv (h.Mh hk hi) qO) af) ?_
 repeat refine aq ?_
 refine cX ?_
 refine aJ.mk (Nat×Rat) (fun(m,q)=>([(1,.p (.int .i64 i)),(2,.p (.int .i64 k)),(3,.aC 0 0),(6,.aC 1 0),(7,.aC 2 0),(18,.p (.int .i64 g.n)),(19,.p (.int .i64 m))],[.box 235 (xK g.n g.A g.B false false),.box 31 t6,.box 31 (lr q)]))
  (fun(m,q)=>m<=g.n/\q=vn g.A g.B i k m) (fun x=>g.n-x.1) (0,_) [0,1,2] ⟨Nat.zero_le _,rfl⟩ aY ?_
 intro⟨m,q⟩ ⟨hm,hq⟩
 by_cases hmn:m<g.n
 ·refine bo ?_
  have zq:Bz q (300+m*850):=by rw[hq];exact GD h hi hk m hm
  have z1:=(h.Mh hk hmn).mul (h.Mh hmn hi)
  have z2:=zq.mul z1
  refine cS ?_
  repeat refine aq ?_
  refine ag (bn.nW (fun _ _=>rfl)<|eo.nW hk hmn af) ?_
  repeat refine aq ?_
  refine ag (bn.nW (fun _ _=>rfl)<|eo.nW hmn hi af) ?_
  repeat refine aq ?_
  refine ag (aa.pure (cE _ _ (h.Mh hk hmn).sz (h.Mh hmn hi).sz qO) af) ?_
  refine ag (aa.pure (cE _ _ zq.sz z1.sz qO) af) ?_
  repeat refine aq ?_
  refine cX ?_
  by_cases e2:m=k
  ·refine ao.no (uQ qO) ?_
   by_cases e1:m=i
   ·refine ao.no (uQ qO) ?_
    refine a5 (m+1) ?_
    exact⟨(m+1,_),[0,1,2],⟨hmn,by rw[hq];simp only[vn];rw[if_pos e1,if_pos e2]⟩,cA,aY ⟨rfl,rfl,rfl,trivial⟩ (ss:=⟨rfl,rfl,rfl,rfl,rfl,rfl,rfl,trivial⟩)⟩
   ·refine ao.yes (BA qO) ?_
    refine cS ?_
    repeat refine aq ?_
    refine ag (bn.nW (fun _ _=>rfl)<|eo.nW hmn hi af) ?_
    repeat refine aq ?_
    refine ag (aa.pure (pE _ _ (H.db hmn hi e1) z2 (h.OS hmn hi) qO) af) ?_
    repeat refine aq ?_
    refine cX ?_
    refine a5 (m+1) ?_
    exact⟨(m+1,_),[0,1,2],⟨hmn,by rw[hq];simp only[vn];rw[if_neg e1,if_pos e2]⟩,cA,aY ⟨rfl,rfl,rfl,trivial⟩ (ss:=⟨rfl,rfl,rfl,rfl,rfl,rfl,rfl,trivial⟩)⟩
  ·refine ao.yes (BA qO) ?_
   refine cS ?_
   repeat refine aq ?_
   refine ag (bn.nW (fun _ _=>rfl)<|eo.nW hk hmn af) ?_
   repeat refine aq ?_
   refine ag (aa.pure (pE _ _ (H.da hk hmn (Ne.symm e2)) z2 (h.Pt hk hmn) qO) af) ?_
   repeat refine aq ?_
   refine cX ?_
   by_cases e1:m=i
   ·refine ao.no (uQ qO) ?_
    refine a5 (m+1) ?_
    exact⟨(m+1,_),[0,1,2],⟨hmn,by rw[hq];simp only[vn];rw[if_pos e1,if_neg e2]⟩,cA,aY ⟨rfl,rfl,rfl,trivial⟩ (ss:=⟨rfl,rfl,rfl,rfl,rfl,rfl,rfl,trivial⟩)⟩
   ·refine ao.yes (BA qO) ?_
    have z3:=z2.div (h.Pt hk hmn)
    refine cS ?_
    repeat refine aq ?_
    refine ag (bn.nW (fun _ _=>rfl)<|eo.nW hmn hi af) ?_
    repeat refine aq ?_
    refine ag (aa.pure (pE _ _ (H.db hmn hi e1) z3 (h.OS hmn hi) qO) af) ?_
    repeat refine aq ?_
    refine cX ?_
    refine a5 (m+1) ?_
    exact⟨(m+1,_),[0,1,2],⟨hmn,by rw[hq];simp only[vn];rw[if_neg e1,if_neg e2]⟩,cA,aY ⟨rfl,rfl,rfl,trivial⟩ (ss:=⟨rfl,rfl,rfl,rfl,rfl,rfl,rfl,trivial⟩)⟩
 ·refine bd ?_
  obtain rfl:m=g.n:=qO
  rw[<-hq]
  exact ab.pure (.p _ (aG _ _ _))
theorem Bb (m:Nat->Bool) (g:GV) {b c:Nat} (h:gT g b c) (ht:¬(j9 g.A g.n/\j9 g.B g.n)):ae Tryz.prog 210 [dP m g] (.bK [.p (.sl false 1 []),.p (.int .i64 9)]) []:=by
 have hb:=yV m g h
 refine aW Tryz.func210 ?_
 by_cases hA:j9 g.A g.n
 ·rw[show oq g= .agg (oe g.n g.A g.B false true) by rw[oq,qc hA,vH fun hB=>ht ⟨hA,hB⟩]]at hb
  refine aa.aO (hb) (fun _=>rfl) ?_
  refine ir ?_
  refine fI ?_
  refine gv ?_
  refine ir ?_
  exact eT (.emp 1) (.p _ (.int _ _))
 ·rw[show oq g= .agg (oe g.n g.A g.B true (j4 g.B g.n)) by rw[oq,vH hA]]at hb
  refine aa.aO (hb) (fun _=>rfl) ?_
  refine ir ?_
  refine gv ?_
  refine ir ?_
  exact eT (.emp 1) (.p _ (.int _ _))
abbrev uv (p c n k q l:Nat):List AV:=fl n fun i=>if i<k then .vec (.r p i) 3 0 c else if i=k then .vec (.t q) 3 0 l else .emp
theorem Fb {p c n k q l:Nat}:(half p c n k).set k (.vec (.t q) 3 0 l)=uv p c n k q l:=by
 rw[gF]
 refine aU fun i _=>?_
 unfold a8
 by_cases e:i=k
 ·rw[if_pos e,if_neg qO,if_pos e]
 ·rw[if_neg e]
  show(if i<k then AV.vec (.r p i) 3 0 c else .emp)=_
  by_cases e2:i<k
  ·rw[if_pos e2,if_pos e2]
  ·rw[if_neg e2,if_neg e2,if_neg e]
theorem HO {p c n k q l q' l':Nat}:(uv p c n k q l).set k (.vec (.t q') 3 0 l')=uv p c n k q' l':=by
 rw[gF]
 refine aU fun i _=>?_
 unfold a8
 by_cases e:i=k
 ·rw[if_pos e,if_neg qO,if_pos e]
 ·rw[if_neg e]
  show(if i<k then AV.vec (.r p i) 3 0 c else if i=k then _ else .emp)=_
  by_cases e2:i<k
  ·rw[if_pos e2,if_pos e2]
  ·rw[if_neg e2,if_neg e2,if_neg e,if_neg e]
theorem Hv {p c n k q l:Nat} (h:k<n):(uv p c n k q l)[k]?=some (.vec (.t q) 3 0 l):=by
 rw[dM h,if_neg (Nat.lt_irrefl k),if_pos rfl]
theorem yx {hs:List Nat} {P:Hp} {p c n k q l:Nat} (p' q':Nat) (hp:hs.getD p 0=p') (hp':p'<1000) (hq:hs.getD q 0=q') (hq':q'<1000):AV.de (dy hs P) (uv p c n k q l)=uv p' c n k q' l:=by
 rw[fU]
 refine aU fun i hi=>?_
 have eb:Nat.blt p' 1000=true:=cD.2 hp'
 have ec:Nat.blt q' 1000=true:=cD.2 hq'
 by_cases e:i<k
 ·rw[if_pos e,if_pos e];simp only[AV.dm,dy,hp,eb,cond_true]
 ·rw[if_neg e,if_neg e]
  by_cases e2:i=k
  ·rw[if_pos e2,if_pos e2];simp only[AV.dm,dy,hq,ec,cond_true];rw[show vp q'=q' from Nat.mod_eq_of_lt hq']
  ·rw[if_neg e2,if_neg e2];simp only[AV.dm]
theorem CS {P:Hp} {p c n k q l:Nat} (h:∀i,i<k->i<aD P p) (hq:look P (.t q)≠ .free):∀x∈uv p c n k q l,∀h,x.aT h->look P h≠ .free:=by
 intro x hx g hg
 obtain⟨i,hi,rfl⟩:=dX hx
 by_cases e:i<k
 ·rw[if_pos e]at hg
  simp only[AV.aT]at hg
  subst hg
  exact kI (h i e)
 ·rw[if_neg e]at hg
  by_cases e2:i=k
  ·rw[if_pos e2]at hg
   simp only[AV.aT]at hg
   subst hg;exact hq
  ·rw[if_neg e2]at hg;exact hg.elim
abbrev AQ (g:GV):Nat->Nat->Rat:=fun i k=>vn g.A g.B i k g.n
theorem KD (m:Nat->Bool) (g:GV) {b c:Nat} (h:gT g b c) (ha:j9 g.A g.n) (hb:j9 g.B g.n):ae Tryz.prog 210 [dP m g] (.bK [.p (cn false false g.n g.n (AQ g)),.p (.int .i64 0)]) []:=by
 have h6:=h.n6
 have n1:=h.n1
 have hbg:=yV m g h
 rw[show oq g= .agg (oe g.n g.A g.B false false) by rw[oq,qc ha,qc hb]]at hbg
 refine aW Tryz.func210 ?_
 refine aa.aO (hbg) (fun _=>rfl) ?_
 refine ir ?_
 refine fI ?_
 refine fI ?_
 refine cJ ?_
 refine SZ.mk (g.n:Int) rfl ?_
 refine cm.mk qS ?_
 refine cy.mk g.n rfl (by simp;omega) qO ?_
 refine Ou.rows ?_
 refine SZ.mk (g.n:Int) rfl ?_
 refine aJ.yu Nat (fun i=>([(4,.aC 0 0),(6,.vec 1 1 0 g.n),(31,.p (.int .i64 g.n)),(32,.p (.int .i64 i))],[.box 235 (xK g.n g.A g.B false false),.rows 24 (half 2 g.n g.n i),.bu 31 3 (c9 i g.n (AQ g))]))
  (fun i=>i<=g.n) (fun i=>g.n-i) 0 [1,2,3] _ _ (.bu 31 3 (.done _ _)) (Nat.zero_le _) (aY ⟨rfl,congrArg _ ke,rfl,fW fun i hi=>absurd hi (Nat.not_lt_zero _),trivial⟩) ?_
 intro i (hi:i<=g.n)
 by_cases hin:i<g.n
 ·refine bo ?_
  refine aJ.mk Nat (fun k=>match k with
   |0=>([(4,.aC 0 0),(6,.vec 1 1 0 g.n),(7,.p (.int .i64 i)),(31,.p (.int .i64 g.n)),(32,.p (.int .i64 i)),(36,.p (.int .i64 g.n)),(37,.p (.int .i64 (0:Nat)))],[.box 235 (xK g.n g.A g.B false false),.rows 24 (half 2 g.n g.n i),.bu 31 3 (c9 i g.n (AQ g))])
   |k+1=>([(4,.aC 0 0),(6,.vec 1 1 0 g.n),(7,.p (.int .i64 i)),(31,.p (.int .i64 g.n)),(32,.p (.int .i64 i)),(36,.p (.int .i64 g.n)),(37,.p (.int .i64 ((k+1:Nat):Int)))],[.box 235 (xK g.n g.A g.B false false),.rows 24 (uv 2 g.n g.n i 3 (k+1)),.bu 31 3 (c9 i g.n (AQ g)),.vec 31 3 (a7 (aH (k+1) (AQ g i)))]))
   (fun k=>k<=g.n) (fun k=>g.n-k) 0 [0,1,2] (Nat.zero_le _) (aY ⟨rfl,congrArg _ (z5 2 rfl qD),rfl,fW fun i hi=>by simpa[aD]using hi,trivial⟩) ?_
  intro k (hk:k<=g.n)
  cases k with
  |zero=>
   have hkn:0<g.n:=n1
   refine bo ?_
   refine cS ?_
   repeat refine aq ?_
   refine ag (aK.mk i rfl hin af) ?_
   refine ag (bJ.mk i _ rfl (yo hin) af) ?_
   repeat refine aq ?_
   refine ag (aa.pure (vM g h ha hb i 0 hin hkn) af) ?_
   repeat refine aq ?_
   refine ag (bl.all rfl<|cG.mk qS qS af) ?_
   refine ag (aK.mk i rfl hin af) ?_
   refine ag (cm.mk (by simp;omega)<|rR.mk (uv 2 g.n g.n i 4 1) Fb af) ?_
   repeat refine aq ?_
   refine cX ?_
   refine a5 (0+1) ?_
   exact⟨0+1,[0,1,2,4],hkn,cA,aY ⟨rfl,congrArg _ (yx 2 4 rfl qD rfl qD),rfl,rfl,CS (fun i hi=>by simpa[aD]using hi) (fun e=>by cases e),trivial⟩⟩
  |succ k=>
   by_cases hkn:k+1<g.n
   ·refine bo ?_
    refine cS ?_
    repeat refine aq ?_
    refine ag (aK.mk i rfl hin af) ?_
    refine ag (bJ.mk i _ rfl (Hv hin) af) ?_
    repeat refine aq ?_
    refine ag (aa.pure (vM g h ha hb i (k+1) hin hkn) af) ?_
    repeat refine aq ?_
    refine ag (iq.mk (by simp[aH])<|bl.all rfl<|cG.mk (by simp[aH];omega) (by simp[aH];omega)<|dp.mk (a7 (aH (k+1+1) (AQ g i))) (jR _ _ _ (rfl))<|pa.mk (k+1+1) (by simp[aH]) af) ?_
    refine ag (aK.mk i rfl hin af) ?_
    refine ag (cm.mk (by simp;omega)<|rR.mk (uv 2 g.n g.n i 5 (k+1+1)) HO af) ?_
    repeat refine aq ?_
    refine cX ?_
    refine a5 (k+1+1) ?_
    exact⟨k+1+1,[0,1,2,5],hkn,cA,aY ⟨rfl,congrArg _ (yx 2 5 rfl qD rfl qD),rfl,rfl,CS (fun i hi=>by simpa[aD]using hi) (fun e=>by cases e),trivial⟩⟩
   ·refine bd ?_
    have hkn:k+1=g.n:=qO
    have e1:uv 2 g.n g.n i 3 (k+1)=qJ 2 g.n g.n i 3:=by rw[hkn]
    have e2:a7 (aH (k+1) (AQ g i))=a7 (aH g.n (AQ g i)):=by rw[hkn]
    refine a5 (i+1) ?_
    exact⟨i+1,[0,1,4002],hin,cA,aY ⟨rfl,congrArg _ ((iH rfl qD (by simp[aD])).trans e1.symm),⟨_,_,_,_,rfl,rfl,congrArg _ (eW.trans (congrArg (fun r=>c9 i g.n (AQ g)++[some r]) e2.symm))⟩,fW fun i hi=>by simpa[aD]using hi,trivial⟩⟩
 ·refine bd ?_
  obtain rfl:i=g.n:=qO
  exact eT (yR (H:=[_,_,_]) (h:=1) (p:=2) (congrArg (aA.rows _) kq) rfl fun i hi=>hi) (.p _ (.int _ _))
abbrev Oq (n:Nat) (F:Nat->Rat) (i:Nat) (s:Rat):List PV:=fl n fun j=>if j<i then aB (F j)else if j=i then aB s else cU
theorem IS {n i:Nat} {F:Nat->Rat} {s:Rat}:(fl n fun j=>if j<i then aB (F j)else cU).set (i+0) (aB s)=Oq n F i s:=by
 rw[gF]
 refine aU fun j _=>?_
 simp only[a8,Nat.add_zero]
 by_cases e:j=i
 ·rw[if_pos e,if_neg qO,if_pos e]
 ·rw[if_neg e]
  by_cases e2:j<i
  ·rw[if_pos e2,if_pos e2]
  ·rw[if_neg e2,if_neg e2,if_neg e]
theorem KF {n i:Nat} {F:Nat->Rat} {s s':Rat}:(Oq n F i s).set (i+0) (aB s')=Oq n F i s':=by
 rw[gF]
 refine aU fun j _=>?_
 simp only[a8,Nat.add_zero]
 by_cases e:j=i
 ·rw[if_pos e,if_neg qO,if_pos e]
 ·rw[if_neg e]
  by_cases e2:j<i
  ·rw[if_pos e2,if_pos e2]
  ·rw[if_neg e2,if_neg e2,if_neg e,if_neg e]
theorem Jj {n i:Nat} {F:Nat->Rat}:Oq n F i (F i)=fl n fun j=>if j<i+1 then aB (F j)else cU:=aU fun j _=>by
 by_cases e:j=i
 ·rw[if_neg qO,if_pos e,if_pos qO,e]
 ·by_cases e2:j<i
  ·rw[if_pos e2,if_pos qO]
  ·rw[if_neg e2,if_neg e,if_neg qO]
theorem K0 {n i:Nat} {F:Nat->Rat} {s:Rat} (h:i<n):(Oq n F i s)[i+0]?=some (aB s):=by
 rw[Nat.add_zero,dM h,if_neg (Nat.lt_irrefl i),if_pos rfl]
theorem II {n:Nat} {F:Nat->Rat}:(fl n fun j=>if j<n then aB (F j)else cU)=a7 (aH n F):=by
 rw[a7,Cs,wO];exact aU fun j hj=>if_pos hj
def Mn (g:GV) (y:Nat->Rat) (i:Nat):Rat:=sm g.n fun k=>AQ g i k*y k
theorem yc (m:Nat->Bool) (m':Bool) (g:GV) {b c:Nat} (h:gT g b c) (y:Nat->Rat) (ht:¬(j9 g.A g.n/\j9 g.B g.n)):ae Tryz.prog 191 [dP m g,ar m' (aH g.n y)] (.bK [.p (ar false []),.p (.int .i64 9)]) []:=by
 have hk:=h.k5
 have h6:=h.n6
 refine aW Tryz.func191 ?_
 refine ao.yes (jx qO) ?_
 refine SZ.mk (g.n:Int) (by simp[aH]) ?_
 refine ao.no (uQ rfl) ?_
 refine aa.aO (Bb m g h ht) (fun _=>rfl) ?_
 refine ir ?_
 exact eT (.emp 3) (.p _ (.int _ _))
theorem Cv {g:GV} {b c:Nat} (h:gT g b c) {i k:Nat} (hi:i<g.n) (hk:k<g.n):Bz (AQ g i k) 5400:=(GD h hi hk g.n (Nat.le_refl _)).mono (by have:=h.n6;omega)
abbrev Gk (n:Nat) (q:Rat):List AV:=[.vec (.t 1) 1 0 n,.p (.bool (decide (q.num<0))),.p (cg q.num.natAbs),.p (cg q.den)]
abbrev lj (n w:Nat) (G:Nat->Nat->Rat) (s:Nat->Nat) (q:Rat):List aA:=[.box 183 (Gk n q),.rows 24 (cO 2 w n s),.bu 31 3 (c9 n w G)]
theorem D8 {n w:Nat} {G':Nat->Nat->Rat} {s':Nat->Nat} {q':Rat} {H:Hp} (hH:H.take 3=lj n w G' s' q'):∀(i h:Nat) B,[0,1,2][i]?=some h->(lj n w G' s' q')[i]?=some B->jO [0,1,2] H (H.getD h .free) B:=fun i h B e1 e2=>by
 have get:∀i,i<3->H.getD i .free=(lj n w G' s' q').getD i .free:=fun i hi=>by
  rw[<-hH];simp[List.getD,List.getElem?_take_of_lt hi]
 have g0:H.getD 0 .free= .box 183 (Gk n q'):=get 0 qD
 have g1:H.getD 1 .free= .rows 24 (cO 2 w n s'):=get 1 qD
 have g2:H.getD 2 .free= .bu 31 3 (c9 n w G'):=get 2 qD
 match i,e1,e2 with
 |0,e1,e2=>
  cases e1;cases e2;rw[g0]
  refine .box (fun d hd=>by simp only[Gk,List.mem_cons,List.not_mem_nil,or_false]at hd;rcases hd with rfl|rfl|rfl|rfl<;>rfl) rfl fun b c d e1 e2=>?_
  match b,e1,e2 with
  |0,e1,e2=>cases e1;cases e2;exact .vec rfl
  |1,e1,e2=>cases e1;cases e2;exact .p _ (.bool _)
  |2,e1,e2=>cases e1;cases e2;exact .p _ (.sl _ _ (aL _))
  |3,e1,e2=>cases e1;cases e2;exact .p _ (.sl _ _ (aL _))
 |1,e1,e2=>
  cases e1;cases e2;rw[g1]
  refine .rows (fun d hd=>by obtain⟨i,_,rfl⟩:=dX hd;rfl) rfl fun b c d e1 e2=>?_
  obtain⟨hb,rfl⟩:=cu.1 e1
  obtain⟨_,rfl⟩:=cu.1 e2
  exact .Ia rfl
 |2,e1,e2=>
  cases e1;cases e2;rw[g2]
  exact .bu fun k es hk=>by
   obtain⟨_,h⟩:=cu.1 hk
   cases h;exact au _
theorem ab.dw {n w:Nat} {G G':Nat->Nat->Rat} {s s':Nat->Nat} {q q':Rat} {H:Hp} {av r:AV} (hH:H.take 3=lj n w G' s' q') (hv:Conv [0,1,2] H av r):ab (lj n w G s q) av H r (lj n w G' s' q'):=by
 have get:∀i,i<3->H.getD i .free=(lj n w G' s' q').getD i .free:=fun i hi=>by
  rw[<-hH];simp[List.getD,List.getElem?_take_of_lt hi]
 have g0:H.getD 0 .free= .box 183 (Gk n q'):=get 0 qD
 have g1:H.getD 1 .free= .rows 24 (cO 2 w n s'):=get 1 qD
 have g2:H.getD 2 .free= .bu 31 3 (c9 n w G'):=get 2 qD
 have key:∀h:Hd,look (lj n w G s q) h≠ .free->(look H h).live\/(h= .t 2/\look H h≠ .free):=fun h hh=>by
  have hk:=d7 hh
  have hk:h.key<3:=hk
  cases h with
  |t i=>
   simp only[look]
   have hk:i<3:=hk
   match i,hk with
   |0,_=>rw[g0];exact .inl trivial
   |1,_=>rw[g1];exact .inl trivial
   |2,_=>rw[g2];exact .inr ⟨rfl,fun e=>by cases e⟩
  |r i k=>
   have hk:i<3:=hk
   match i,hk with
   |0,_=>exact absurd rfl hh
   |1,_=>exact absurd rfl hh
   |2,_=>
    have hkn:k<n:=by
     apply Classical.byContradiction
     intro hkn
     refine hh ?_
     show(aA.bu 31 3 (c9 n w G)).row k= .free
     simp only[aA.row]
     rw[List.getElem?_eq_none (by simp;omega)]
    left
    simp only[look]
    rw[g2]
    simp only[aA.row]
    rw[dM hkn];trivial
 refine .mk [0,1,2] rfl qD rfl (Nat.le_refl _) (fun h hh=>?_) (fun h hh=>?_) (D8 hH) hv
 ·rcases key h (aA.ck hh)with h1|⟨rfl,_⟩
  ·exact h1
  ·exact hh.elim
 ·rcases key h hh with h1|⟨_,h1⟩
  ·exact aA.ck h1
  ·exact h1
theorem aa.dw {P:Program} {f:FuncId} {L:Hd->aA} {base n w:Nat} {K:AV->List (Hd×aA)->Prop} {G G':Nat->Nat->Rat} {s s':Nat->Nat} {q q':Rat} {r:AV} {pvs:List PV}
  (hc:df P f (.aC 0 0::pvs.map .p) (lj n w G s q) r (lj n w G' s' q')) (hr:∀ρ,r.dm ρ=r) (hb:3<=base)
  (e0:L (.t 0)= .box 183 (Gk n q)/\∀k,L (.r 0 k)= .free) (e1:L (.t 1)= .rows 24 (cO 2 w n s)/\∀k,L (.r 1 k)= .free) (e2:L (.t 2)= .dead/\∀k,L (.r 2 k)=(aA.bu 31 3 (c9 n w G)).row k)
  (hk:K r [(.t 0,.box 183 (Gk n q')),(.t 1,.rows 24 (cO 2 w n s')),(.t 2,.bu 31 3 (c9 n w G'))]) {raw:List AV}:aa P true f raw (.aC 0 0::pvs.map .p) L base K:=by
 have hρ:∀k,bz [0,1,2] base (.r 2 k)= .r 2 k:=fun k=>rfl
 refine .mk [0,1,2] (.aC 0 0::pvs.map .p) r (lj n w G s q) (lj n w G' s' q') (fun e=>by cases e) qD (fun h hh=>by simp only[List.mem_cons,List.not_mem_nil,or_false]at hh;omega) (by
   show AV.aC 0 0::AV.de _ (pvs.map .p)=_
   rw[AV.bP,List.map_map];exact congrArg _ (List.map_congr_left fun _ _=>rfl)) rfl (fun i h B g1 g2=>?_)
  (fun B hB=>by simp only[lj,List.mem_cons,List.not_mem_nil,or_false]at hB;rcases hB with rfl|rfl|rfl<;>exact⟨fun e=>by(cases e),fun e=>by(cases e)⟩)
  (fun B hB k hk=>?_) (Nat.le_refl _) (fun B hB=>by simp only[lj,List.mem_cons,List.not_mem_nil,or_false]at hB;rcases hB with rfl|rfl|rfl<;>exact fun e=>by(cases e))
  (fun a ha k hk=>by
   rcases List.mem_cons.1 ha with rfl|ha
   ·simp only[AV.aT]at hk;subst hk;decide
   ·obtain⟨v,_,rfl⟩:=List.mem_map.1 ha;simp only[AV.aT]at hk) hc ?_
 ·match i,g1,g2 with
  |0,g1,g2=>cases g1;cases g2;exact e0
  |1,g1,g2=>
   cases g1;cases g2
   refine⟨?_,e1.2⟩
   show _=aA.rows _ (AV.de _ _)
   rw[wM hρ];exact e1.1
  |2,g1,g2=>cases g1;cases g2;exact e2
 ·simp only[lj,List.mem_cons,List.not_mem_nil,or_false]at hB
  rcases hB with rfl|rfl|rfl
  ·simp only[aA.aT,Gk,AV.bm,AV.aT,or_false,false_or]at hk
   subst hk;decide
  ·simp only[aA.aT,AV.dN]at hk
   obtain⟨c,hc,hk⟩:=hk
   obtain⟨i,_,rfl⟩:=dX hc
   simp only[AV.aT]at hk
   subst hk;exact(by decide:2<3)
  ·exact hk.elim
 ·rw[hr]
  show K r [_,(_,aA.rows _ (AV.de _ _)),_]
  rw[wM hρ]
  exact hk
abbrev Le (n:Nat) (q:Rat):List AV:=[.vec (.t 2) 1 0 n,.p (.bool (decide (q.num<0))),.p (cg q.num.natAbs),.p (cg q.den)]
theorem aa.Qd {P:Program} {f:FuncId} {L:Hd->aA} {base n w:Nat} {K:AV->List (Hd×aA)->Prop} {G G':Nat->Nat->Rat} {s s':Nat->Nat} {q q':Rat} {r:AV} {pvs:List PV}
  (hc:df P f (.aC 0 0::pvs.map .p) (lj n w G s q) r (lj n w G' s' q')) (hr:∀ρ,r.dm ρ=r) (hb:4<=base)
  (e0:L (.t 1)= .box 183 (Le n q)/\∀k,L (.r 1 k)= .free) (e1:L (.t 2)= .rows 24 (cO 3 w n s)/\∀k,L (.r 2 k)= .free) (e2:L (.t 3)= .dead/\∀k,L (.r 3 k)=(aA.bu 31 3 (c9 n w G)).row k)
  (hk:K r [(.t 1,.box 183 (Le n q')),(.t 2,.rows 24 (cO 3 w n s')),(.t 3,.bu 31 3 (c9 n w G'))]) {raw:List AV}:aa P true f raw (.aC 1 0::pvs.map .p) L base K:=by
 have hρ:∀s,AV.de (bz [1,2,3] base) (cO 2 w n s)=cO 3 w n s:=fun s=>by
  rw[fU];exact aU fun i _=>rfl
 refine .mk [1,2,3] (.aC 0 0::pvs.map .p) r (lj n w G s q) (lj n w G' s' q') (fun e=>by cases e) qD (fun h hh=>by simp only[List.mem_cons,List.not_mem_nil,or_false]at hh;omega) (by
   show AV.aC 1 0::AV.de _ (pvs.map .p)=_
   rw[AV.bP,List.map_map];exact congrArg _ (List.map_congr_left fun _ _=>rfl)) rfl (fun i h B g1 g2=>?_)
  (fun B hB=>by simp only[lj,List.mem_cons,List.not_mem_nil,or_false]at hB;rcases hB with rfl|rfl|rfl<;>exact⟨fun e=>by(cases e),fun e=>by(cases e)⟩)
  (fun B hB k hk=>?_) (Nat.le_refl _) (fun B hB=>by simp only[lj,List.mem_cons,List.not_mem_nil,or_false]at hB;rcases hB with rfl|rfl|rfl<;>exact fun e=>by(cases e))
  (fun a ha k hk=>by
   rcases List.mem_cons.1 ha with rfl|ha
   ·simp only[AV.aT]at hk;subst hk;decide
   ·obtain⟨v,_,rfl⟩:=List.mem_map.1 ha;simp only[AV.aT]at hk) hc ?_
 ·match i,g1,g2 with
  |0,g1,g2=>cases g1;cases g2;exact e0
  |1,g1,g2=>
   cases g1;cases g2
   refine⟨?_,e1.2⟩
   show _=aA.rows _ (AV.de _ _)
   rw[hρ];exact e1.1
  |2,g1,g2=>cases g1;cases g2;exact e2
 ·simp only[lj,List.mem_cons,List.not_mem_nil,or_false]at hB
  rcases hB with rfl|rfl|rfl
  ·simp only[aA.aT,Gk,AV.bm,AV.aT,or_false,false_or]at hk
   subst hk;decide
  ·simp only[aA.aT,AV.dN]at hk
   obtain⟨c,hc,hk⟩:=hk
   obtain⟨i,_,rfl⟩:=dX hc
   simp only[AV.aT]at hk
   subst hk;exact(by decide:2<3)
  ·exact hk.elim
 ·rw[hr]
  show K r [_,(_,aA.rows _ (AV.de _ _)),_]
  rw[hρ]
  exact hk
theorem jm (q:Rat):ae Tryz.prog 217 [aB q] (.p (.bool (decide (q=0)))) []:=by
 refine aW Tryz.func217 ?_
 refine SZ.mk (az q.num.natAbs:Int) qS ?_
 by_cases h:q=0
 ·refine ao.yes (jx (by rw[Hw h];rfl)) ?_
  rw[decide_eq_true h]
  exact ab.pure (.tf _)
 ·refine ao.no (iO (by have:=I5 h;omega)) ?_
  rw[decide_eq_false h]
  exact ab.pure (.tf _)
theorem Gr:ae Tryz.prog 193 [] (.p (aB 1)) []:=by
 refine aW Tryz.func193 ?_
 refine ab.pure ?_
 rw[jd]
 exact iY ⟨rfl,rfl,rfl⟩ (.p _ (.bool _)) (ka rfl) (ka rfl)
theorem GL (n w at' j:Nat) (G B:Nat->Nat->Rat) (s:Nat->Nat) (q:Rat) (ha:at'<=n) (hj:j<w) (hn:n<=1000) (hs:∀i,i<n->s i<n) (hG:∀i k,i<n->k<w->G (s i) k=B i k) (hp:pv B j n at'=n):
  df Tryz.prog 194 [.aC 0 0,.p (.int .i64 (at':Int)),.p (.int .i64 (j:Int))] (lj n w G s q) (.p (.bool false)) (lj n w G s q):=by
 obtain⟨_,_,p3,_⟩:=dI (A:=B) (j:=j) ha
 rw[hp]at p3
 refine aW Tryz.func194 ?_
 refine aJ.mk Nat (fun i=>([(0,.aC 0 0),(1,.p (.int .i64 at')),(2,.p (.int .i64 j)),(7,.p (.int .i64 (i:Nat)))],lj n w G s q))
  (fun i=>at'<=i/\i<=n) (fun i=>n-i) at' [0,1,2] ⟨Nat.le_refl _,ha⟩ (aY ⟨rfl,congrArg _ (aS 2 rfl qD),rfl,aN fun q hq=>by simpa[aD]using hs q hq,qS,trivial⟩) ?_
 intro i ⟨h1,h2⟩
 refine SZ.mk (n:Int) rfl ?_
 by_cases hin:i<n
 ·refine bo ?_
  refine aK.mk i rfl hin ?_
  refine bJ.cO (i+0) rfl hin ?_
  refine aK.mk j rfl hj ?_
  refine eH.c9 (hs _ hin)<|aF.rv (j+0) (B i j) rfl hj (hG i j hin hj) ?_
  have hz:ae Tryz.prog 217 [aB (B i j)] (.p (.bool true)) []:=by
   have:=jm (B i j)
   rwa[decide_eq_true (p3 i h1 hin)]at this
  refine aa.pure (hz) ?_
  refine gv ?_
  refine a5 (i+1) ?_
  exact⟨i+1,[0,1,2],⟨qO,hin⟩,cA,aY ⟨rfl,congrArg _ (aS 2 rfl qD),rfl,aN fun q hq=>by simpa[aD]using hs q hq,qS,trivial⟩⟩
 ·refine bd ?_
  exact ab.dw rfl (.tf _)
theorem JB (n w at' j p:Nat) (G B:Nat->Nat->Rat) (s:Nat->Nat) (q:Rat) {D Q:Nat} (ha:at'<=n) (hj:j<w) (hn:n<=1000) (hs:∀i,i<n->s i<n) (hG:∀i k,i<n->k<w->G (s i) k=B i k) (hp:pv B j n at'=p) (hpn:p<n)
  (hB:∀i k,i<n->k<w->Bz (B i k) D) (hq:Bz q Q) (hD:D+Q<=1000000000):
  df Tryz.prog 194 [.aC 0 0,.p (.int .i64 (at':Int)),.p (.int .i64 (j:Int))] (lj n w G s q) (.p (.bool true)) (lj n w G (se s at' p) ((if p=at' then q else-q)*B p j)):=by
 obtain⟨p1,_,p3,p4⟩:=dI (A:=B) (j:=j) ha
 rw[hp]at p1 p3 p4
 have p4:B p j≠0:=p4.resolve_left qO
 have haN:at'<n:=qO
 have zp:=hB p j hpn hj
 refine aW Tryz.func194 ?_
 refine aJ.mk Nat (fun i=>([(0,.aC 0 0),(1,.p (.int .i64 at')),(2,.p (.int .i64 j)),(7,.p (.int .i64 (i:Nat)))],lj n w G s q))
  (fun i=>at'<=i/\i<=p) (fun i=>n-i) at' [0,1,2] ⟨Nat.le_refl _,p1⟩ (aY ⟨rfl,congrArg _ (aS 2 rfl qD),rfl,aN fun q hq=>by simpa[aD]using hs q hq,qS,trivial⟩) ?_
 intro i ⟨h1,h2⟩
 refine SZ.mk (n:Int) rfl ?_
 have hin:i<n:=qO
 refine bo ?_
 refine aK.mk i rfl hin ?_
 refine bJ.cO (i+0) rfl hin ?_
 refine aK.mk j rfl hj ?_
 refine eH.c9 (hs _ hin)<|aF.rv (j+0) (B i j) rfl hj (hG i j hin hj) ?_
 by_cases hip:i<p
 ·have hz:ae Tryz.prog 217 [aB (B i j)] (.p (.bool true)) []:=by
   have:=jm (B i j)
   rwa[decide_eq_true (p3 i h1 hip)]at this
  refine aa.pure (hz) ?_
  refine gv ?_
  refine a5 (i+1) ?_
  exact⟨i+1,[0,1,2],⟨qO,hip⟩,cA,aY ⟨rfl,congrArg _ (aS 2 rfl qD),rfl,aN fun q hq=>by simpa[aD]using hs q hq,qS,trivial⟩⟩
 ·obtain rfl:i=p:=qO
  have hz:ae Tryz.prog 217 [aB (B i j)] (.p (.bool false)) []:=by
   have:=jm (B i j)
   rwa[decide_eq_false p4]at this
  refine aa.pure (hz) ?_
  refine fI ?_
  by_cases e:i=at'
  ·subst e
   rw[if_pos rfl,IZ]
   refine ao.no (uQ rfl) ?_
   refine cS ?_
   repeat refine aq ?_
   refine ag (aK.mk i rfl hin af) ?_
   refine ag (bJ.cO (i+0) rfl hin af) ?_
   repeat refine aq ?_
   refine ag (aK.mk j rfl hj af) ?_
   refine ag (eH.c9 (hs _ hin)<|aF.rv (j+0) (B i j) rfl hj (hG i j hin hj) af) ?_
   refine ag (aa.pure (cE _ _ hq.sz zp.sz qO) af) ?_
   repeat refine aq ?_
   refine cX ?_
   exact ab.dw rfl (.tf _)
  ·rw[if_neg e]
   have hs':=BT (p:=at') (k:=i) hs haN hin
   have eg:G (a8 (a8 s i (s at')) at' (s i) at') j=B i j:=by
    rw[kL]
    show G (s (if at'=at' then i else if at'=i then at' else at')) j=_
    rw[if_pos rfl];exact hG i j hin hj
   have el:a8 (a8 s i (s at')) at' (s i) at'<n:=by rw[kL];exact hs' at' haN
   refine ao.yes (BA qO) ?_
   refine cS ?_
   repeat refine aq ?_
   refine ag (aK.mk at' rfl haN af) ?_
   refine ag (bJ.cO (at'+0) rfl haN af) ?_
   repeat refine aq ?_
   refine ag (aK.mk i rfl hin af) ?_
   refine ag (bJ.cO (i+0) rfl hin af) ?_
   refine ag (aK.mk i rfl hin af) ?_
   refine ag (cm.cO hin<|rR.cO af) ?_
   refine ag (aK.mk at' rfl haN af) ?_
   refine ag (cm.cO haN<|rR.cO af) ?_
   refine cX ?_
   refine aa.pure (x5 q (by have:=hq.sz.1;omega) (by have:=hq.sz.2;omega)) ?_
   rw[<-kL]
   refine cS ?_
   repeat refine aq ?_
   refine ag (aK.mk at' rfl haN af) ?_
   refine ag (bJ.cO (at'+0) rfl haN af) ?_
   repeat refine aq ?_
   refine ag (aK.mk j rfl hj af) ?_
   refine ag (eH.c9 el<|aF.rv (j+0) (B i j) rfl hj eg af) ?_
   refine ag (aa.pure (cE _ _ hq.neg.sz zp.sz qO) af) ?_
   repeat refine aq ?_
   refine cX ?_
   exact ab.dw rfl (.tf _)
structure nH (n:Nat) (s:Nat->Nat):Prop where
 lt:∀i,i<n->s i<n
 inj:∀i j,i<n->j<n->s i=s j->i=j
 PH:∀r,r<n->∃t,t<n/\s t=r
theorem nH.sw {n p k:Nat} {s:Nat->Nat} (h:nH n s) (hp:p<n) (hk:k<n):nH n (se s p k) where
 lt:=BT h.lt hp hk
 inj:=fun i j hi hj e=>by
  have:=h.inj _ _ (ez hp hk hi) (ez hp hk hj) e
  split at this<;>split at this<;>(try split at this)<;>(try split at this)<;>omega
 PH:=fun r hr=>by
  obtain⟨t,ht,e⟩:=h.PH r hr
  refine⟨if t=p then k else if t=k then p else t,ez hp hk ht,?_⟩
  rw[<-e]
  unfold se
  congr 1
  (repeat' split)<;>omega
theorem nH.id (n:Nat):nH n _root_.id:=⟨fun _ h=>h,fun _ _ _ _ e=>e,fun r h=>⟨r,h,rfl⟩⟩
def jD (B:Nat->Nat->Rat) (r j i:Nat) (k:Nat):Rat:=if j<=k then B i k-B i j/B r j*B r k else B i k
def Kz (B:Nat->Nat->Rat) (s:Nat->Nat) (r j:Nat) (G:Nat->Nat->Rat):Nat->Nat->Nat->Rat
 |0=>G
 |i+1=>if i=r then Kz B s r j G i else a8 (Kz B s r j G i) (s i) (jD B r j i)
theorem Jn {n w r j:Nat} {B G:Nat->Nat->Rat} {s:Nat->Nat} (hs:nH n s) (hG:∀t x,t<n->x<w->G (s t) x=B t x):∀i,i<=n->∀t x,t<n->x<w->Kz B s r j G i (s t) x=if t<i/\t≠r then jD B r j t x else B t x:=by
 intro i
 induction i with
 |zero=>intro _ t x ht hx;rw[if_neg qO];exact hG t x ht hx
 |succ i ih=>
  intro hi t x ht hx
  unfold Kz
  by_cases e:i=r
  ·rw[if_pos e,ih qO t x ht hx]
   by_cases c:t<i/\t≠r
   ·rw[if_pos c,if_pos qO]
   ·rw[if_neg c,if_neg qO]
  ·rw[if_neg e]
   unfold a8
   by_cases e2:s t=s i
   ·obtain rfl:=hs.inj t i ht qO e2
    rw[if_pos rfl,if_pos qO]
   ·have e3:t≠i:=fun h=>e2 (by rw[h])
    rw[if_neg e2,ih qO t x ht hx]
    by_cases c:t<i/\t≠r
    ·rw[if_pos c,if_pos qO]
    ·rw[if_neg c,if_neg qO]
structure LS where
 B:Nat->Nat->Rat
 G:Nat->Nat->Rat
 s:Nat->Nat
 q:Rat
 r:Nat
def nC (B:Nat->Nat->Rat) (r j:Nat) (i k:Nat):Rat:=if i=r then B i k else jD B r j i k
def Jq (n j:Nat) (t:LS):LS:=
 if n<=pv t.B j n t.r then t else
  ⟨nC (bO t.B (pv t.B j n t.r) t.r) t.r j,Kz (bO t.B (pv t.B j n t.r) t.r) (se t.s t.r (pv t.B j n t.r)) t.r j t.G n,se t.s t.r (pv t.B j n t.r),(if pv t.B j n t.r=t.r then t.q else-t.q)*t.B (pv t.B j n t.r) j,t.r+1⟩
def rA (n:Nat) (A:Nat->Nat->Rat):Nat->LS
 |0=>⟨A,A,id,1,0⟩
 |j+1=>Jq n j (rA n A j)
structure On (n w j:Nat) (t:LS) (D Q:Nat):Prop where
 ps:nH n t.s
 hG:∀i x,i<n->x<w->t.G (t.s i) x=t.B i x
 hB:∀i x,i<n->x<w->Bz (t.B i x) D
 hq:Bz t.q Q
 rj:t.r<=j
 rn:t.r<=n
 nz:t.r=j->∀i,i<j->t.B i i≠0
theorem On.sw {n w j p:Nat} {t:LS} {D Q:Nat} (h:On n w j t D Q) (hr:t.r<n) (hp:p<n):nH n (se t.s t.r p)/\∀i x,i<n->x<w->t.G (se t.s t.r p i) x=bO t.B p t.r i x:=by
 refine⟨h.ps.sw hr hp,fun i x hi hx=>?_⟩
 unfold se bO
 rw[h.hG _ x (ez hr hp hi) hx]
 congr 1
 split
 ·split<;>omega
 ·split<;>(try split)<;>omega
theorem On.next {n w j:Nat} {t:LS} {D Q:Nat} (h:On n w j t D Q) (hj:j<w) (hjn:j<n) (d1:1<=D):On n w (j+1) (Jq n j t) (4*D+1) (Q+D):=by
 have hr:t.r<n:=by have:=h.rj;omega
 obtain⟨p1,p2,p3,p4⟩:=dI (A:=t.B) (j:=j) h.rn
 unfold Jq
 by_cases hp:n<=pv t.B j n t.r
 ·rw[if_pos hp]
  exact⟨h.ps,h.hG,fun i x hi hx=>(h.hB i x hi hx).mono qO,h.hq.mono qO,by have:=h.rj;omega,h.rn,fun e=>by have:=h.rj;omega⟩
 ·rw[if_neg hp]
  generalize hpe:pv t.B j n t.r=p at p1 p2 p3 p4 hp
  have hpn:p<n:=qO
  obtain⟨q1,q2⟩:=h.sw hr hpn
  have p4:t.B p j≠0:=p4.resolve_left qO
  have zs:∀i x,i<n->x<w->Bz (bO t.B p t.r i x) D:=fun i x hi hx=>h.hB _ x (ez hpn hr hi) hx
  have er:∀x,bO t.B p t.r t.r x=t.B p x:=fun x=>by rw[iU]
  refine⟨q1,fun i x hi hx=>?_,fun i x hi hx=>?_,?_,by have:=h.rj;show t.r+1<=j+1;omega,hr,fun e i hi=>?_⟩
  ·show Kz _ _ _ _ _ n (se t.s t.r p i) x=nC _ _ _ i x
   rw[Jn q1 q2 n (Nat.le_refl _) i x hi hx]
   unfold nC
   by_cases e:i=t.r
   ·rw[if_neg qO,if_pos e]
   ·rw[if_pos ⟨hi,e⟩,if_neg e]
  ·show Bz (nC _ _ _ i x) _
   unfold nC jD
   split
   ·exact(zs i x hi hx).mono qO
   ·split
    ·exact((zs i x hi hx).sub (((zs i j hi hj).div (zs t.r j hr hj)).mul (zs t.r x hr hx))).mono qO
    ·exact(zs i x hi hx).mono qO
  ·show Bz ((if p=t.r then t.q else-t.q)*t.B p j) _
   split
   ·exact h.hq.mul (h.hB p j hpn hj)
   ·exact h.hq.neg.mul (h.hB p j hpn hj)
  ·have e:t.r+1=j+1:=e
   have er':t.r=j:=qO
   show nC _ _ _ i i≠0
   unfold nC
   by_cases ei:i=t.r
   ·rw[if_pos ei,ei,er];rw[er'];exact p4
   ·rw[if_neg ei]
    unfold jD
    rw[if_neg qO]
    unfold bO
    rw[if_neg qO,if_neg ei]
    exact h.nz er' i qO
def FR (D:Nat):Nat->Nat
 |0=>D
 |j+1=>4*FR D j+1
def PB (D:Nat):Nat->Nat
 |0=>1
 |j+1=>PB D j+FR D j
theorem Jg {D:Nat}:∀j,D<=FR D j
 |0=>Nat.le_refl _
 |j+1=>by have:=Jg (D:=D) j;simp only[FR];omega
theorem m7 {n w D:Nat} {A:Nat->Nat->Rat} (hA:∀i x,i<n->x<w->Bz (A i x) D) (d1:1<=D) (hw:n<=w):∀j,j<=n->On n w j (rA n A j) (FR D j) (PB D j):=by
 intro j
 induction j with
 |zero=>exact fun _=>⟨nH.id n,fun i x _ _=>rfl,hA,dv,Nat.le_refl _,Nat.zero_le _,fun _ i hi=>absurd hi (Nat.not_lt_zero _)⟩
 |succ j ih=>exact fun hj=>(ih qO).next qO qO (Nat.le_trans d1 (Jg j))
theorem Es (n w i r j:Nat) (G B:Nat->Nat->Rat) (s:Nat->Nat) (q:Rat) {D:Nat} (hi:i<n) (hr:r<n) (hir:i≠r) (hj:j<w) (hn:n<=1000) (hw:w<=1000) (ps:nH n s) (hG:∀t x,t<n->x<w->G (s t) x=B t x) (hB:∀t x,t<n->x<w->Bz (B t x) D) (hD:D<=100000000) (hp:B r j≠0):
  df Tryz.prog 195 [.aC 0 0,.p (.int .i64 (i:Int)),.p (.int .i64 (r:Int)),.p (.int .i64 (j:Int))] (lj n w G s q) (.bK []) (lj n w (a8 G (s i) (jD B r j i)) s q):=by
 obtain⟨hs,inj,PH⟩:=id ps
 have fin:∀G2:Nat->Nat->Rat,(∀t x,t<n->x<w->G2 (s t) x=if t=i then jD B r j i x else B t x)->c9 n w G2=c9 n w (a8 G (s i) (jD B r j i)):=fun G2 h=>vK fun a x ha hx=>by
  obtain⟨t,ht,rfl⟩:=PH a ha
  rw[h t x ht hx]
  unfold a8
  by_cases e:t=i
  ·rw[if_pos e,if_pos (by rw[e])]
  ·rw[if_neg e,if_neg (fun h=>e (inj t i ht hi h)),hG t x ht hx]
 have z1:=hB i j hi hj
 have z2:=hB r j hr hj
 have zq:=z1.div z2
 have hq:=iS (B i j) (B r j) hp z1.sz z2.sz qO
 obtain⟨Q,hQ⟩:∃Q,Q=B i j/B r j:=⟨_,rfl⟩
 rw[<-hQ]at zq hq
 refine aW Tryz.func195 ?_
 refine cS ?_
 repeat refine aq ?_
 refine ag (aK.mk i rfl hi af) ?_
 refine ag (bJ.cO (i+0) rfl hi af) ?_
 repeat refine aq ?_
 refine ag (aK.mk j rfl hj af) ?_
 refine ag (eH.c9 (hs _ hi)<|aF.rv (j+0) (B i j) rfl hj (hG i j hi hj) af) ?_
 repeat refine aq ?_
 refine ag (aK.mk r rfl hr af) ?_
 refine ag (bJ.cO (r+0) rfl hr af) ?_
 repeat refine aq ?_
 refine ag (aK.mk j rfl hj af) ?_
 refine ag (eH.c9 (hs _ hr)<|aF.rv (j+0) (B r j) rfl hj (hG r j hr hj) af) ?_
 repeat refine aq ?_
 refine ag (aa.aO (hq) (fun _=>rfl) af) ?_
 repeat refine aq ?_
 refine cX ?_
 by_cases q0:Q=0
 ·have hz:ae Tryz.prog 217 [aB Q] (.p (.bool true)) []:=by
   have:=jm Q
   rwa[decide_eq_true q0]at this
  refine aa.pure (hz) ?_
  refine gv ?_
  have e:=fin G fun t x ht hx=>by
   rw[hG t x ht hx]
   by_cases e:t=i
   ·rw[if_pos e,e];unfold jD
    split
    ·rw[<-hQ,q0];grind
    ·rfl
   ·rw[if_neg e]
  exact ab.dw (congrArg (fun x=>[aA.box 183 (Gk n q),.rows 24 (cO 2 w n s),.bu 31 3 x]) e) (.bK rfl fun i c d e=>by simp at e)
 ·have hz:ae Tryz.prog 217 [aB Q] (.p (.bool false)) []:=by
   have:=jm Q
   rwa[decide_eq_false q0]at this
  refine aa.pure (hz) ?_
  refine fI ?_
  refine aJ.mk (Nat×(Nat->Nat->Rat)) (fun(c,G)=>([(0,.aC 0 0),(1,.p (.int .i64 i)),(2,.p (.int .i64 r)),(8,.aC 3 0),(10,.p (.int .i64 (c:Nat)))],lj n w G s q++[.box 31 (lr Q)]))
   (fun(c,G)=>j<=c/\c<=w/\∀t x,t<n->x<w->G (s t) x=if t=i then(if x<c then jD B r j i x else B i x)else B t x) (fun x=>w-x.1) (j,G) [0,1,2,3]
   ⟨Nat.le_refl _,qO,fun t x ht hx=>by
    rw[hG t x ht hx]
    by_cases e:t=i
    ·rw[if_pos e,e]
     split
     ·unfold jD;rw[if_neg qO]
     ·rfl
    ·rw[if_neg e]⟩ (aY ⟨rfl,congrArg _ (aS 2 rfl qD),rfl,rfl,aN fun q hq=>by simpa[aD]using hs q hq,qS,trivial⟩) ?_
  intro⟨c,G2⟩ ⟨hc0,hc,hG2⟩
  refine aK.mk i rfl hi ?_
  refine bJ.cO (i+0) rfl hi ?_
  refine SZ.mk (w:Int) rfl ?_
  by_cases hcn:c<w
  ·refine bo ?_
   have di:G2 (s i) c=B i c:=by rw[hG2 i c hi hcn,if_pos rfl,if_neg (Nat.lt_irrefl c)]
   have dk:G2 (s r) c=B r c:=by rw[hG2 r c hr hcn,if_neg (fun h=>hir h.symm)]
   have z3:=hB i c hi hcn
   have z4:=hB r c hr hcn
   refine cS ?_
   repeat refine aq ?_
   refine ag (aK.mk i rfl hi af) ?_
   refine ag (bJ.cO (i+0) rfl hi af) ?_
   repeat refine aq ?_
   refine ag (aK.mk i rfl hi af) ?_
   refine ag (bJ.cO (i+0) rfl hi af) ?_
   repeat refine aq ?_
   refine ag (aK.mk c rfl hcn af) ?_
   refine ag (eH.c9 (hs _ hi)<|aF.rv (c+0) (B i c) rfl hcn di af) ?_
   repeat refine aq ?_
   refine ag (aK.mk r rfl hr af) ?_
   refine ag (bJ.cO (r+0) rfl hr af) ?_
   repeat refine aq ?_
   refine ag (aK.mk c rfl hcn af) ?_
   refine ag (eH.c9 (hs _ hr)<|aF.rv (c+0) (B r c) rfl hcn dk af) ?_
   refine ag (aa.pure (cE Q (B r c) zq.sz z4.sz qO) af) ?_
   refine ag (aa.pure (dh (B i c) (Q*B r c) z3.sz (zq.mul z4).sz qO) af) ?_
   refine ag (aK.mk c rfl hcn af) ?_
   refine ag (eH.c9 (hs _ hi)<|cm.rf (show c+0<w by omega)<|dp.rf af) ?_
   refine rE.c9 (hs _ hi) ?_
   refine cX ?_
   refine a5 (c+1) ?_
   refine⟨(c+1,_),[0,1,2,3],⟨qO,hcn,?_⟩,cA,aY ⟨rfl,congrArg _ (aS 2 rfl qD),rfl,rfl,aN fun q hq=>by simpa[aD]using hs q hq,qS,trivial⟩ (ss:=⟨rfl,rfl,rfl,rfl,rfl,trivial⟩)⟩
   have st:=mX (S:=s) (G2:=G2) (G1:=fun t x=>G (t) x) (f:=jD B r j i) (g:=fun x=>B i x) (i:=n) (w:=w) (q:=i) (k:=c) inj hi hcn (v:=B i c-Q*B r c) (fun t x ht hx=>by rw[hG2 t x ht hx,hG t x ht hx]) (by unfold jD;rw[if_pos hc0,hQ])
   intro t x ht hx
   rw[st t x ht hx,hG t x ht hx]
  ·refine bd ?_
   obtain rfl:c=w:=qO
   have e:=fin G2 fun t x ht hx=>by
    rw[hG2 t x ht hx]
    by_cases e:t=i
    ·rw[if_pos e,if_pos hx,if_pos e]
    ·rw[if_neg e,if_neg e]
   exact ab.dw (congrArg (fun x=>[aA.box 183 (Gk n q),.rows 24 (cO 2 c n s),.bu 31 3 x]) e) (.bK rfl fun i c d e=>by simp at e)
abbrev PS:FuncId->Bool:=fun f=>Nat.beq f 194||Nat.beq f 195
theorem E5 (n w:Nat) (A:Nat->Nat->Rat) {D:Nat} (hA:∀i x,i<n->x<w->Bz (A i x) D) (d1:1<=D) (hnw:n<=w) (hn:n<=5) (hw:w<=1000) (hD:D<=1000):
  df Tryz.prog 178 [.aC 0 0,.p (.bool true)] (lj n w A id 1) (.p (.int .i64 ((rA n A n).r:Nat))) (lj n w (rA n A n).G (rA n A n).s (rA n A n).q):=by
 have inv:=m7 hA d1 hnw
 have dj:∀j,j<=5->FR D j<=2000000:=fun j hj=>by
  have:j=0\/j=1\/j=2\/j=3\/j=4\/j=5:=qO
  rcases this with rfl|rfl|rfl|rfl|rfl|rfl<;>simp only[FR]<;>omega
 have qj:∀j,j<=5->PB D j<=10000000:=fun j hj=>by
  have:j=0\/j=1\/j=2\/j=3\/j=4\/j=5:=qO
  rcases this with rfl|rfl|rfl|rfl|rfl|rfl<;>simp only[PB,FR]<;>omega
 refine Jy (wr:=PS) Tryz.func178 ?_
 refine aJ.mk (Nat×LS) (fun(j,t)=>([(0,.aC 0 0),(1,.p (.bool true)),(5,.p (.int .i64 (t.r:Nat))),(6,.p (.int .i64 (j:Nat)))],lj n w t.G t.s t.q))
  (fun(j,t)=>j<=n/\t=rA n A j) (fun x=>n-x.1) (0,⟨A,A,id,1,0⟩) [0,1,2] ⟨Nat.zero_le _,rfl⟩ (aY ⟨rfl,congrArg _ (aS 2 rfl qD),rfl,aN fun q hq=>by simpa[aD,id]using hq,qS,trivial⟩) ?_
 intro⟨j,t⟩ ⟨hj,ht⟩
 have I:=inv j hj
 have D1:=dj j qO
 have Q1:=qj j qO
 rw[<-ht]at I
 refine SZ.mk (n:Int) rfl ?_
 by_cases hjn:j<n
 ·have hr:t.r<n:=by have:=I.rj;omega
  obtain⟨p1,p2,p3,p4⟩:=dI (A:=t.B) (j:=j) I.rn
  have ej:rA n A (j+1)=Jq n j t:=by rw[ht];rfl
  refine bo ?_
  refine SZ.mk (n:Int) rfl ?_
  refine bo ?_
  by_cases hp:n<=pv t.B j n t.r
  ·rw[Jq,if_pos hp]at ej
   refine aa.dw (pvs:=[.int .i64 (t.r:Int),.int .i64 (j:Int)]) (GL n w t.r j t.G t.B t.s t.q I.rn qO qO I.ps.lt I.hG qO) (fun _=>rfl) qD ⟨rfl,fun _=>rfl⟩ ⟨rfl,fun _=>rfl⟩ ⟨rfl,fun _=>rfl⟩ ?_
   refine ir ?_
   refine a5 (j+1) ?_
   exact⟨(j+1,t),[0,1,2],⟨hjn,ej.symm⟩,cA,aY ⟨rfl,congrArg _ (aS 2 rfl qD),rfl,aN fun q hq=>by simpa[aD]using I.ps.lt q hq,qS,trivial⟩⟩
  ·generalize hpe:pv t.B j n t.r=p at p1 p2 p3 p4 hp
   have hpn:p<n:=qO
   obtain⟨q1,q2⟩:=I.sw hr hpn
   have p4:t.B p j≠0:=p4.resolve_left qO
   rw[Jq,hpe,if_neg hp]at ej
   have zs:∀i x,i<n->x<w->Bz (bO t.B p t.r i x) (FR D j):=fun i x hi hx=>I.hB _ x (ez hpn hr hi) hx
   have er:bO t.B p t.r t.r j≠0:=by rw[iU];exact p4
   refine aa.dw (pvs:=[.int .i64 (t.r:Int),.int .i64 (j:Int)]) (JB n w t.r j p t.G t.B t.s t.q I.rn qO qO I.ps.lt I.hG hpe hpn I.hB I.hq qO) (fun _=>rfl) qD ⟨rfl,fun _=>rfl⟩ ⟨rfl,fun _=>rfl⟩ ⟨rfl,fun _=>rfl⟩ ?_
   refine cJ ?_
   refine SZ.mk (n:Int) rfl ?_
   refine aJ.mk (Nat×(Nat->Nat->Rat)) (fun(i,G)=>([(0,.aC 0 0),(1,.p (.bool true)),(5,.p (.int .i64 (t.r:Nat))),(6,.p (.int .i64 (j:Nat))),(35,.p (.int .i64 n)),(36,.p (.int .i64 (i:Nat)))],lj n w G (se t.s t.r p) ((if p=t.r then t.q else-t.q)*t.B p j)))
    (fun(i,G)=>i<=n/\G=Kz (bO t.B p t.r) (se t.s t.r p) t.r j t.G i) (fun x=>n-x.1) (0,t.G) [0,1,2] ⟨Nat.zero_le _,rfl⟩ (aY ⟨rfl,congrArg _ (aS 2 rfl qD),rfl,aN fun q hq=>by simpa[aD]using q1.lt q hq,qS,trivial⟩) ?_
   intro⟨i,G⟩ ⟨hi,hG⟩
   by_cases hin:i<n
   ·have at1:=Jn (r:=t.r) (j:=j) q1 q2 i hi
    rw[<-hG]at at1
    refine bo ?_
    by_cases e:i=t.r
    ·have eG:G=Kz (bO t.B p t.r) (se t.s t.r p) t.r j t.G (i+1):=by rw[hG];exact(if_pos e).symm
     refine bd ?_
     refine gv ?_
     refine bd ?_
     refine a5 (i+1) ?_
     exact⟨(i+1,G),[0,1,2],⟨hin,eG⟩,cA,aY ⟨rfl,congrArg _ (aS 2 rfl qD),rfl,aN fun q hq=>by simpa[aD]using q1.lt q hq,qS,trivial⟩⟩
    ·obtain⟨C,hC⟩:∃C:Nat->Nat->Rat,C=fun t' x=>if t'<i/\t'≠t.r then jD (bO t.B p t.r) t.r j t' x else bO t.B p t.r t' x:=⟨_,rfl⟩
     have c1:∀x,C i x=bO t.B p t.r i x:=fun x=>by rw[hC];exact if_neg qO
     have c2:∀x,C t.r x=bO t.B p t.r t.r x:=fun x=>by rw[hC];exact if_neg qO
     have zC:∀a x,a<n->x<w->Bz (C a x) (4*FR D j+1):=fun a x ha hx=>by
      rw[hC]
      show Bz (if a<i/\a≠t.r then jD _ _ _ a x else _) _
      split
      ·unfold jD
       split
       ·exact((zs a x ha hx).sub (((zs a j ha qO).div (zs t.r j hr qO)).mul (zs t.r x hr hx))).mono qO
       ·exact(zs a x ha hx).mono qO
      ·exact(zs a x ha hx).mono qO
     have eR:jD C t.r j i=jD (bO t.B p t.r) t.r j i:=funext fun x=>by unfold jD;rw[c1,c1,c2,c2]
     have hc:=Es n w i t.r j G C (se t.s t.r p) ((if p=t.r then t.q else-t.q)*t.B p j) hin hr e qO qO hw q1 (fun a x ha hx=>by rw[at1 a x ha hx,hC]) zC qO (by rw[c2];exact er)
     rw[eR]at hc
     have eG:a8 G (se t.s t.r p i) (jD (bO t.B p t.r) t.r j i)=Kz (bO t.B p t.r) (se t.s t.r p) t.r j t.G (i+1):=by rw[hG];exact(if_neg e).symm
     by_cases hgt:t.r<i
     ·refine bo ?_
      refine aa.dw (pvs:=[.int .i64 (i:Int),.int .i64 (t.r:Int),.int .i64 (j:Int)]) hc (fun _=>rfl) qD ⟨rfl,fun _=>rfl⟩ ⟨rfl,fun _=>rfl⟩ ⟨rfl,fun _=>rfl⟩ ?_
      refine a5 (i+1) ?_
      exact⟨(i+1,_),[0,1,2],⟨hin,eG⟩,cA,aY ⟨rfl,congrArg _ (aS 2 rfl qD),rfl,aN fun q hq=>by simpa[aD]using q1.lt q hq,qS,trivial⟩ (ss:=⟨rfl,rfl,rfl,rfl,rfl,rfl,trivial⟩)⟩
     ·refine bd ?_
      refine gv ?_
      refine bo ?_
      refine aa.dw (pvs:=[.int .i64 (i:Int),.int .i64 (t.r:Int),.int .i64 (j:Int)]) hc (fun _=>rfl) qD ⟨rfl,fun _=>rfl⟩ ⟨rfl,fun _=>rfl⟩ ⟨rfl,fun _=>rfl⟩ ?_
      refine a5 (i+1) ?_
      exact⟨(i+1,_),[0,1,2],⟨hin,eG⟩,cA,aY ⟨rfl,congrArg _ (aS 2 rfl qD),rfl,aN fun q hq=>by simpa[aD]using q1.lt q hq,qS,trivial⟩ (ss:=⟨rfl,rfl,rfl,rfl,rfl,rfl,trivial⟩)⟩
   ·refine bd ?_
    obtain rfl:i=n:=qO
    refine a5 (t.r+1) ?_
    refine a5 (j+1) ?_
    exact⟨(j+1,⟨nC (bO t.B p t.r) t.r j,G,se t.s t.r p,(if p=t.r then t.q else-t.q)*t.B p j,t.r+1⟩),[0,1,2],⟨hjn,by rw[ej,hG]⟩,cA,aY ⟨rfl,congrArg _ (aS 2 rfl qD),rfl,aN fun q hq=>by simpa[aD]using q1.lt q hq,qS,trivial⟩⟩
 ·obtain rfl:j=n:=qO
  refine bd ?_
  subst ht
  exact ab.dw rfl (.p _ (.int _ _))
abbrev OW:List AV:=[.p (.bool false),.p (.sl false 1 []),.p (.sl false 1 [])]
theorem tV:ae Tryz.prog 234 [] (.p (aB 0)) []:=by
 refine aW Tryz.func234 ?_
 refine ab.pure ?_
 rw[e8]
 exact iY ⟨rfl,rfl,rfl⟩ (.p _ (.bool _)) (.p _ (.sl _ _ (fun e he=>by simp at he))) (ka rfl)
theorem mG:ae Tryz.prog 219 [] (.p (aB 1)) []:=by
 refine aW Tryz.func219 ?_
 refine ab.pure ?_
 rw[jd]
 exact iY ⟨rfl,rfl,rfl⟩ (.p _ (.bool _)) (ka rfl) (ka rfl)
theorem m0 (m m':Bool) (n k a:Nat) (r v:Nat->Rat) {D X:Nat} (hr:∀i,i<n->Bz (r i) D) (hv:∀i,i<k->Bz (v i) X) (ha:a+k<=n) (hn:n<=1000) (hb:k*(D+X+1)+1+(D+X)+1<=10000000000):
  ae Tryz.prog 220 [ar m (aH n r),.int .i64 (a:Int),ar m' (aH k v)] (.p (aB (sm k fun i=>r (a+i)*v i))) []:=by
 refine aW Tryz.func220 ?_
 refine aa.pure (tV) ?_
 refine SZ.mk (k:Int) (by simp[aH]) ?_
 refine aJ.mk (Nat×Rat) (fun(j,s)=>([(0,.p (ar m (aH n r))),(1,.p (.int .i64 (a:Int))),(6,.aC 0 0),(7,.aC 1 0),(11,.p (ar m' (aH k v))),(12,.p (.int .i64 k)),(13,.p (.int .i64 j))],[.box 31 OW,.box 31 (lr s)]))
  (fun(j,s)=>j<=k/\s=sm j fun i=>r (a+i)*v i) (fun x=>k-x.1) (0,0) [0,1] ⟨Nat.zero_le _,rfl⟩ aY ?_
 intro⟨j,s⟩ ⟨hj,hs⟩
 have zs:Bz s (j*(D+X+1)+1):=by rw[hs];exact gB (fun i hi=>(hr (a+i) qO).mul (hv i hi)) j hj
 have hjw:j*(D+X+1)<=k*(D+X+1):=Nat.mul_le_mul_right _ hj
 by_cases hjn:j<k
 ·refine bo ?_
  have z1:=(hr (a+j) qO).mul (hv j hjn)
  refine aF.rf j rfl hjn ?_
  refine cS ?_
  repeat refine aq ?_
  refine ag (a5 (a+j) af) ?_
  repeat refine aq ?_
  refine ag (aF.rf (a+j) rfl qO af) ?_
  repeat refine aq ?_
  refine ag (aa.pure (cE _ _ (hr (a+j) qO).sz (hv j hjn).sz qO) af) ?_
  refine ag (aa.pure (eh _ _ zs.sz z1.sz qO) af) ?_
  repeat refine aq ?_
  refine cX ?_
  refine a5 (j+1) ?_
  exact⟨(j+1,_),[0,1],⟨hjn,by rw[hs];rfl⟩,cA,aY ⟨rfl,rfl,trivial⟩ (ss:=⟨rfl,rfl,rfl,rfl,rfl,rfl,rfl,trivial⟩)⟩
 ·refine bd ?_
  obtain rfl:j=k:=qO
  subst hs
  exact ab.pure (.p _ (aG _ _ _))
theorem uw {n:Nat} {T:TypeId} {f:Nat->Rat}:aA.vec T 3 (fl n fun k=>if k<n then aB (f k)else cU)= .vec T 3 (a7 (aH n f)):=by
 rw[show(fl n fun k=>if k<n then aB (f k)else cU)=a7 (aH n f)from(aU fun k hk=>if_pos hk).trans (by simp[fl,aH])]
theorem uu (m:Bool) (n:Nat) (v:Nat->Rat) (t:Rat) {X Y:Nat} (hv:∀i,i<n->Bz (v i) X) (ht:Bz t Y) (hn:n<=1000) (hb:X+Y<=10000000000):
  ae Tryz.prog 223 [ar m (aH n v),aB t] (.vec 0 3 0 n) [.vec 31 3 (a7 (aH n fun i=>v i*t))]:=by
 refine aW Tryz.func223 ?_
 refine SZ.mk (n:Int) (by simp[aH]) ?_
 refine SZ.mk (n:Int) rfl ?_
 refine cm.mk qS ?_
 refine cy.rat n rfl qO ?_
 refine SZ.mk (n:Int) (by simp[aH]) ?_
 refine aJ.mk Nat (fun i=>([(3,.aC 0 0),(5,.vec 1 3 0 n),(11,.p (ar m (aH n v))),(12,.p (.int .i64 n)),(13,.p (.int .i64 i))],[.box 31 (lr t),.vec 31 3 (fl n fun k=>if k<i then aB (v k*t)else cU)]))
  (fun i=>i<=n) (fun i=>n-i) 0 [0,1] (Nat.zero_le _) (aY ⟨rfl,congrArg _ ((aU fun k hk=>if_neg qO).trans (bQ n cU).symm),trivial⟩) ?_
 intro i (hi:i<=n)
 by_cases hin:i<n
 ·refine bo ?_
  refine aF.rf i rfl hin ?_
  refine aa.pure (cE _ _ (hv i hin).sz ht.sz qO) ?_
  refine aK.mk i rfl hin ?_
  refine cm.mk (by simp;omega)<|dp.mk _ (eQ (f:=fun k=>v k*t) hin) ?_
  refine a5 (i+1) ?_
  exact⟨i+1,[0,1],hin,cA,aY⟩
 ·refine bd ?_
  obtain rfl:i=n:=qO
  rw[uw]
  exact ab.new 1 rfl rfl (au _)
theorem oC (m m':Bool) (n:Nat) (v w:Nat->Rat) (t:Rat) {X W Y:Nat} (hv:∀i,i<n->Bz (v i) X) (hw:∀i,i<n->Bz (w i) W) (ht:Bz t Y) (hn:n<=1000) (hb:X+(Y+W)+1<=10000000000):
  ae Tryz.prog 224 [ar m (aH n v),ar m' (aH n w),aB t] (.vec 0 3 0 n) [.vec 31 3 (a7 (aH n fun i=>v i-t*w i))]:=by
 refine aW Tryz.func224 ?_
 refine SZ.mk (n:Int) (by simp[aH]) ?_
 refine SZ.mk (n:Int) rfl ?_
 refine cm.mk qS ?_
 refine cy.rat n rfl qO ?_
 refine SZ.mk (n:Int) (by simp[aH]) ?_
 refine aJ.mk Nat (fun i=>([(0,.p (ar m (aH n v))),(1,.p (ar m' (aH n w))),(5,.aC 0 0),(7,.vec 1 3 0 n),(13,.p (.int .i64 n)),(14,.p (.int .i64 i))],[.box 31 (lr t),.vec 31 3 (fl n fun k=>if k<i then aB (v k-t*w k)else cU)]))
  (fun i=>i<=n) (fun i=>n-i) 0 [0,1] (Nat.zero_le _) (aY ⟨rfl,congrArg _ ((aU fun k hk=>if_neg qO).trans (bQ n cU).symm),trivial⟩) ?_
 intro i (hi:i<=n)
 by_cases hin:i<n
 ·refine bo ?_
  refine cS ?_
  repeat refine aq ?_
  refine ag (aF.rf i rfl hin af) ?_
  repeat refine aq ?_
  refine ag (aF.rf i rfl hin af) ?_
  repeat refine aq ?_
  refine ag (aa.pure (cE _ _ ht.sz (hw i hin).sz qO) af) ?_
  refine ag (aa.pure (dh _ _ (hv i hin).sz (ht.mul (hw i hin)).sz qO) af) ?_
  refine ag (aK.mk i rfl hin af) ?_
  refine ag (cm.mk (by simp;omega)<|dp.mk _ (eQ (f:=fun k=>v k-t*w k) hin) af) ?_
  repeat refine aq ?_
  refine cX ?_
  refine a5 (i+1) ?_
  exact⟨i+1,[0,1],hin,cA,aY⟩
 ·refine bd ?_
  obtain rfl:i=n:=qO
  rw[uw]
  exact ab.new 1 rfl rfl (au _)
def rV (k:Nat) (v:Nat->Rat) (i:Nat):Rat:=if i<k then v i else 0
def AM (v:Nat->Rat):Nat->Rat
 |0=>0
 |i+1=>v i
theorem KR {k:Nat} {v:Nat->Rat}:a7 (aH k v)++[aB 0]=a7 (aH (k+1) (rV k v)):=by
 rw[show aH k v=aH k (rV k v)from d8 fun i hi=>(if_pos hi).symm]
 exact jR k (rV k v) 0 (if_neg (Nat.lt_irrefl k)).symm
theorem JI {k:Nat} {v:Nat->Rat}:[aB 0]++a7 (aH k v)=a7 (aH (k+1) (AM v)):=by
 simp[aH,a7,List.range_succ_eq_map,AM,Function.comp_def]
theorem kV (m:Bool) (k:Nat) (v:Nat->Rat) (hk:k<=1000):ae Tryz.prog 221 [ar m (aH k v)] (.vec 0 3 0 (k+1)) [.vec 31 3 (a7 (aH (k+1) (rV k v)))]:=by
 refine aW Tryz.func221 ?_
 refine SZ.mk (k:Int) (by simp[aH]) ?_
 refine cS ?_
 repeat refine aq ?_
 refine ag (SZ.mk (k:Int) rfl<|cm.mk qS<|fO.mk 0 k rfl rfl (Nat.zero_le _) (by simp[aH])<|H4.rB<|dp.mk (a7 (aH k v)) (by rw[List.drop_zero];exact List.take_of_length_le (by simp[aH])) af) ?_
 refine ag (aa.pure (tV) af) ?_
 repeat refine aq ?_
 refine ag (bl.all rfl<|cm.mk qS<|cG.mk (by simp[aH];omega) (by simp[aH];omega)<|dp.mk (a7 (aH (k+1) (rV k v))) KR<|pa.mk (k+1) (by simp[aH]) af) ?_
 repeat refine aq ?_
 refine cX ?_
 exact ab.new 1 rfl rfl (au _)
theorem wa (m:Bool) (k:Nat) (v:Nat->Rat) (hk:k<=1000):ae Tryz.prog 222 [ar m (aH k v)] (.vec 0 3 0 (k+1)) [.vec 31 3 (a7 (aH (k+1) (AM v)))]:=by
 refine aW Tryz.func222 ?_
 refine aa.pure (tV) ?_
 refine iq.mk rfl<|cG.mk (by simp[aH];omega) (by simp[aH];omega)<|dp.mk (a7 (aH (k+1) (AM v))) JI<|pa.mk (k+1) (by simp[aH];omega) ?_
 exact ab.new 1 rfl rfl (au _)
section
def oz (A:Nat->Nat->Rat) (k:Nat) (f:Nat->Rat):Rat:=sm k fun i=>A k (0+i)*f i
def yj (A:Nat->Nat->Rat) (k:Nat) (l:Nat->Rat):Rat:=sm k fun i=>A 0 (1+i)*l i
def BE (A:Nat->Nat->Rat) (k:Nat) (f l:Nat->Rat):Rat:=if k=0 then A 0 0 else 1-oz A k f*yj A k l
def JR (A:Nat->Nat->Rat) (k:Nat) (f l:Nat->Rat) (i:Nat):Rat:=if k=0 then 1/A 0 0 else(rV k f i-oz A k f*AM l i)*(1/BE A k f l)
def lvl (A:Nat->Nat->Rat) (k:Nat) (f l:Nat->Rat) (i:Nat):Rat:=if k=0 then 1/A 0 0 else(AM l i-yj A k l*rV k f i)*(1/BE A k f l)
abbrev KQ (n:Nat) (A:Nat->Nat->Rat) (k:Nat) (f l:Nat->Rat):List AV:=[.p (cn false false n n A),.p (ar false (aH k f)),.p (ar false (aH k l))]
theorem qE {k X:Nat} {v:Nat->Rat} (hv:∀i,i<k->Bz (v i) X) (h1:1<=X) (i:Nat):Bz (rV k v i) X:=by
 unfold rV;split
 ·exact hv i (by assumption)
 ·exact cB.mono h1
theorem Bt {k X:Nat} {v:Nat->Rat} (hv:∀i,i<k->Bz (v i) X) (h1:1<=X):∀i,i<k+1->Bz (AM v i) X
 |0,_=>cB.mono h1
 |i+1,h=>hv i qO
structure FT (n:Nat) (A:Nat->Nat->Rat) (k:Nat) (f l:Nat->Rat) (D X:Nat):Prop where
 kn:k<n
 n5:n<=5
 hA:∀i j,i<n->j<n->Bz (A i j) D
 hf:∀i,i<k->Bz (f i) X
 hl:∀i,i<k->Bz (l i) X
 h1:1<=X
 d1:1<=D
 dx:14*X+12*D+19<=1000000000
variable {n k D X:Nat} {A:Nat->Nat->Rat} {f l:Nat->Rat}
theorem FT.x (h:FT n A k f l D X):Bz (oz A k f) (4*(D+X+1)+1):=by
 have:=gB (F:=fun i=>A k (0+i)*f i) (n:=k) (fun i hi=>(h.hA k (0+i) h.kn (by have:=h.kn;omega)).mul (h.hf i hi)) k (Nat.le_refl _)
 exact this.mono (by have:=Nat.mul_le_mul_right (D+X+1) (show k<=4 by have:=h.kn;have:=h.n5;omega);omega)
theorem FT.y (h:FT n A k f l D X):Bz (yj A k l) (4*(D+X+1)+1):=by
 have:=gB (F:=fun i=>A 0 (1+i)*l i) (n:=k) (fun i hi=>(h.hA 0 (1+i) (by have:=h.kn;omega) (by have:=h.kn;omega)).mul (h.hl i hi)) k (Nat.le_refl _)
 exact this.mono (by have:=Nat.mul_le_mul_right (D+X+1) (show k<=4 by have:=h.kn;have:=h.n5;omega);omega)
theorem FT.fb (h:FT n A k f l D X):∀i,i<k+1->Bz (JR A k f l i) (14*X+12*D+19):=fun i hi=>by
 unfold JR
 by_cases e:k=0
 ·rw[if_pos e];exact(dv.div (h.hA 0 0 (by have:=h.kn;omega) (by have:=h.kn;omega))).mono qO
 ·rw[if_neg e]
  unfold BE
  rw[if_neg e]
  exact(((qE h.hf h.h1 i).sub (h.x.mul (Bt h.hl h.h1 i hi))).mul (dv.div (dv.sub (h.x.mul h.y)))).mono qO
theorem FT.lb (h:FT n A k f l D X):∀i,i<k+1->Bz (lvl A k f l i) (14*X+12*D+19):=fun i hi=>by
 unfold lvl
 by_cases e:k=0
 ·rw[if_pos e];exact(dv.div (h.hA 0 0 (by have:=h.kn;omega) (by have:=h.kn;omega))).mono qO
 ·rw[if_neg e]
  unfold BE
  rw[if_neg e]
  exact(((Bt h.hl h.h1 i hi).sub (h.y.mul (qE h.hf h.h1 i))).mul (dv.div (dv.sub (h.x.mul h.y)))).mono qO
theorem ab.Ky {T:TypeId} {B0:aA} {av r:AV} {H:Hp} {c0 c1 c2:AV} {p0 p1 p2:PV} (hB:∀k,B0.row k= .free) (h0:H.getD 0 .free= .box T [c0,c1,c2]) (o0:p0.one=true) (o1:p1.one=true) (o2:p2.one=true)
  (q0:Conv [0] H c0 (.p p0)) (q1:Conv [0] H c1 (.p p1)) (q2:Conv [0] H c2 (.p p2)) (hv:Conv [0] H av r):ab [B0] av H r [.box T [.p p0,.p p1,.p p2]]:=
 ab.p9 rfl (by intro B hB' k;simp at hB';subst hB';exact hB k) (fun i hi=>by
  obtain rfl:i=0:=by simpa using hi
  rw[h0];trivial) (fun i B e=>by
  match i,e with
  |0,e=>
   cases e
   rw[h0]
   refine .box (by intro c hc;simp at hc;rcases hc with rfl|rfl|rfl<;>simpa[AV.one]) rfl fun i c d e1 e2=>?_
   match i,e1,e2 with
   |0,e1,e2=>cases e1;cases e2;exact q0
   |1,e1,e2=>cases e1;cases e2;exact q1
   |2,e1,e2=>cases e1;cases e2;exact q2) hv
theorem Gy {hs:List Nat} {H:Hp} {h:Nat} {n:Nat} {T:TypeId} {g:Nat->Rat} (hB:look H h= .vec T 3 (a7 (aH n g))) (hn:h∉hs):Conv hs H (.vec h 3 0 n) (.p (ar false (aH n g))):=
 .JE hB hn (by simp[aH]) (au _) (by rw[List.drop_zero];exact List.take_of_length_le (by simp[aH]))
theorem vX (h:FT n A k f l D X) (hd:BE A k f l≠0):
  df Tryz.prog 201 [.aC 0 0] [.box 226 (KQ n A k f l)] (.p (.bool true)) [.box 226 (KQ n A (k+1) (JR A k f l) (lvl A k f l))]:=by
 obtain⟨kn,n5,hA,hf,hl,x1,d1,dx⟩:=id h
 refine aW Tryz.func201 ?_ (h5:=by intro B hB;simp at hB;subst hB;exact fun e=>by(cases e))
 refine SZ.mk (k:Int) (by simp[aH]) ?_
 by_cases k0:k=0
 ·subst k0
  have hd:A 0 0≠0:=hd
  have z0:=hA 0 0 kn kn
  refine ao.yes (jx rfl) ?_
  refine cS ?_
  refine ag (aa.pure (mG) af) ?_
  repeat refine aq ?_
  refine ag (aF.mf 0 rfl kn af) ?_
  repeat refine aq ?_
  refine ag (aF.rf 0 rfl kn af) ?_
  repeat refine aq ?_
  refine ag (aa.aO (iS 1 (A 0 0) hd dv.sz z0.sz qO) (fun _=>rfl) af) ?_
  repeat refine aq ?_
  refine cX ?_
  refine cS ?_
  repeat refine aq ?_
  refine cX ?_
  refine ir ?_
  exact ab.Ky (fun _=>rfl) rfl rfl rfl rfl (.p _ eY) (Gy (h:=2) (n:=1) rfl qD) (Gy (h:=3) (n:=1) rfl qD) (.tf _)
 ·have hx:=h.x
  have hy:=h.y
  have zD:Bz (BE A k f l) (8*(D+X+1)+4):=by unfold BE;rw[if_neg k0];exact(dv.sub (hx.mul hy)).mono qO
  have eD:BE A k f l=1-oz A k f*yj A k l:=if_neg k0
  have kw:=Nat.mul_le_mul_right (D+X+1) (show k<=4 by omega)
  refine ao.no (iO qO) ?_
  refine cS ?_
  repeat refine aq ?_
  refine ag (aF.mf k rfl kn af) ?_
  repeat refine aq ?_
  refine ag (aa.pure (m0 false false n k 0 (A k) f (fun i hi=>hA k i kn hi) hf qO qO qO) af) ?_
  repeat refine aq ?_
  refine ag (aF.mf 0 rfl qO af) ?_
  repeat refine aq ?_
  refine ag (aa.pure (m0 false false n k 1 (A 0) l (fun i hi=>hA 0 i qO hi) hl qO qO qO) af) ?_
  repeat refine aq ?_
  refine cX ?_
  have zf:=qE hf x1
  have zl:=Bt hl x1
  have hq:1-oz A k f*yj A k l≠0:=by rw[<-eD];exact hd
  rw[eD]at zD
  have ef:(fun i=>(rV k f i-oz A k f*AM l i)*(1/(1-oz A k f*yj A k l)))=JR A k f l:=funext fun i=>by unfold JR;rw[if_neg k0,eD]
  have el:(fun i=>(AM l i-yj A k l*rV k f i)*(1/(1-oz A k f*yj A k l)))=lvl A k f l:=funext fun i=>by unfold lvl;rw[if_neg k0,eD]
  refine cS ?_
  repeat refine aq ?_
  refine ag (aa.fresh (kV false k f qO) af) ?_
  repeat refine aq ?_
  refine ag (aa.fresh (wa false k l qO) af) ?_
  repeat refine aq ?_
  refine cX ?_
  refine cS ?_
  refine ag (aa.pure (mG) af) ?_
  refine ag (aa.pure (mG) af) ?_
  repeat refine aq ?_
  refine ag (aa.pure (cE _ _ hx.sz hy.sz qO) af) ?_
  refine ag (aa.pure (dh _ _ dv.sz (hx.mul hy).sz qO) af) ?_
  refine ag (aa.aO (iS 1 _ hq dv.sz zD.sz qO) (fun _=>rfl) af) ?_
  repeat refine aq ?_
  refine cX ?_
  refine cJ ?_
  refine cS ?_
  repeat refine aq ?_
  refine ag (bl.all (by simp[aH])<|bl.all (by simp[aH])<|aa.fresh (oC true true (k+1) (rV k f) (AM l) (oz A k f) (fun i _=>zf i) zl hx qO qO) af) ?_
  repeat refine aq ?_
  refine ag (bl.all (by simp[aH])<|aa.fresh (uu true (k+1) (fun i=>rV k f i-oz A k f*AM l i) (1/(1-oz A k f*yj A k l)) (fun i hi=>(zf i).sub (hx.mul (zl i hi))) (dv.div zD) qO qO) af) ?_
  repeat refine aq ?_
  refine ag (bl.all (by simp[aH])<|bl.all (by simp[aH])<|aa.fresh (oC true true (k+1) (AM l) (rV k f) (yj A k l) zl (fun i _=>zf i) hy qO qO) af) ?_
  repeat refine aq ?_
  refine ag (bl.all (by simp[aH])<|aa.fresh (uu true (k+1) (fun i=>AM l i-yj A k l*rV k f i) (1/(1-oz A k f*yj A k l)) (fun i hi=>(zl i hi).sub (hy.mul (zf i))) (dv.div zD) qO qO) af) ?_
  repeat refine aq ?_
  refine cX ?_
  exact ab.Ky (fun _=>rfl) rfl rfl rfl rfl (.p _ eY) (Gy (h:=7) (congrArg (fun g=>aA.vec 31 3 (a7 (aH (k+1) g))) ef) qD) (Gy (h:=9) (congrArg (fun g=>aA.vec 31 3 (a7 (aH (k+1) g))) el) qD) (.tf _)
theorem vS (h:FT n A k f l D X) (hd:BE A k f l=0):
  ∃p q:PV,df Tryz.prog 201 [.aC 0 0] [.box 226 (KQ n A k f l)] (.p (.bool false)) [.box 226 [.p (cn false false n n A),.p p,.p q]]:=by
 obtain⟨kn,n5,hA,hf,hl,x1,d1,dx⟩:=id h
 by_cases k0:k=0
 ·subst k0
  have hd:A 0 0=0:=hd
  refine⟨.sl false 3 [cU],.sl false 3 [cU],?_⟩
  refine aW Tryz.func201 ?_ (h5:=by intro B hB;simp at hB;subst hB;exact fun e=>by(cases e))
  refine SZ.mk 0 rfl ?_
  have hq:=xQ 1 dv.sz qO
  rw[<-hd]at hq
  refine ao.yes (jx rfl) ?_
  refine cS ?_
  refine ag (aa.pure (mG) af) ?_
  repeat refine aq ?_
  refine ag (aF.mf 0 rfl kn af) ?_
  repeat refine aq ?_
  refine ag (aF.rf 0 rfl kn af) ?_
  repeat refine aq ?_
  refine ag (aa.aO (hq) (fun _=>rfl) af) ?_
  repeat refine aq ?_
  refine cX ?_
  refine cS ?_
  repeat refine aq ?_
  refine cX ?_
  refine cJ ?_
  have pz:∀e∈[cU],∀c∈e.cells,ct c:=fun e he c hc=>by
   simp only[List.mem_singleton]at he;subst he
   simp only[PV.cells,List.mem_cons,List.not_mem_nil,or_false]at hc
   rcases hc with rfl|rfl|rfl
   ·exact .bool _
   ·exact .sl _ _ (fun e he=>absurd he List.not_mem_nil)
   ·exact .sl _ _ (fun e he=>absurd he List.not_mem_nil)
  exact ab.Ky (fun _=>rfl) rfl rfl rfl rfl (.p _ eY) (.JE (h:=(2:Nat)) (es:=[cU]) rfl (by simp[Hd.key]) qS pz rfl) (.JE (h:=(3:Nat)) (es:=[cU]) rfl (by simp[Hd.key]) qS pz rfl) (.tf _)
 ·have hx:=h.x
  have hy:=h.y
  refine⟨ar false (aH k f),ar false (aH k l),?_⟩
  refine aW Tryz.func201 ?_ (h5:=by intro B hB;simp at hB;subst hB;exact fun e=>by(cases e))
  refine SZ.mk (k:Int) (by simp[aH]) ?_
  have eD:1-oz A k f*yj A k l=0:=by rw[<-hd];exact(if_neg k0).symm
  have hq:=xQ 1 dv.sz qO
  rw[<-eD]at hq
  have kw:=Nat.mul_le_mul_right (D+X+1) (show k<=4 by omega)
  refine ao.no (iO qO) ?_
  refine cS ?_
  repeat refine aq ?_
  refine ag (aF.mf k rfl kn af) ?_
  repeat refine aq ?_
  refine ag (aa.pure (m0 false false n k 0 (A k) f (fun i hi=>hA k i kn hi) hf qO qO qO) af) ?_
  repeat refine aq ?_
  refine ag (aF.mf 0 rfl qO af) ?_
  repeat refine aq ?_
  refine ag (aa.pure (m0 false false n k 1 (A 0) l (fun i hi=>hA 0 i qO hi) hl qO qO qO) af) ?_
  repeat refine aq ?_
  refine cX ?_
  refine cS ?_
  repeat refine aq ?_
  refine ag (aa.fresh (kV false k f qO) af) ?_
  repeat refine aq ?_
  refine ag (aa.fresh (wa false k l qO) af) ?_
  repeat refine aq ?_
  refine cX ?_
  refine cS ?_
  refine ag (aa.pure (mG) af) ?_
  refine ag (aa.pure (mG) af) ?_
  repeat refine aq ?_
  refine ag (aa.pure (cE _ _ hx.sz hy.sz qO) af) ?_
  refine ag (aa.pure (dh _ _ dv.sz (hx.mul hy).sz qO) af) ?_
  refine ag (aa.aO (hq) (fun _=>rfl) af) ?_
  repeat refine aq ?_
  refine cX ?_
  refine ir ?_
  exact ab.Ky (fun _=>rfl) rfl rfl rfl rfl (.p _ eY) (.p _ (.sl _ _ (au _))) (.p _ (.sl _ _ (au _))) (.tf _)
end
section
theorem ab.OC {T T2:TypeId} {B0:aA} {av:AV} {H:Hp} {c0 c1 c2:AV} {p0 p1 p2:PV} {W off len:Nat} {es:List PV} (h:Nat) (hne:h≠0) (hB:∀k,B0.row k= .free) (h0:H.getD 0 .free= .box T [c0,c1,c2]) (o0:p0.one=true) (o1:p1.one=true) (o2:p2.one=true)
  (q0:Conv [0,h] H c0 (.p p0)) (q1:Conv [0,h] H c1 (.p p1)) (q2:Conv [0,h] H c2 (.p p2)) (hav:av= .vec h W off len) (h1:H.getD h .free= .vec T2 W es) (hp:∀e∈es,∀c∈e.cells,ct c):
  ab [B0] av H (.vec 1 W off len) [.box T [.p p0,.p p1,.p p2],.vec T2 W es]:=by
 have key:∀g:Hd,look [B0] g≠ .free->g= .t 0:=fun g hg=>by
  have hk:=d7 hg
  cases g with
  |t i=>
   have hk:i<1:=hk
   obtain rfl:i=0:=qO
   rfl
  |r i k=>
   have hk:i<1:=hk
   obtain rfl:i=0:=qO
   exact absurd (hB k) hg
 have lv:(look H (.t 0)).live:=by simp only[look,h0];trivial
 refine .mk [0,h] rfl (by simp;exact fun e=>hne e.symm) rfl qS (fun g hg=>by rw[key g (aA.ck hg)];exact lv) (fun g hg=>by rw[key g hg];exact aA.ck lv) (fun i h' B e1 e2=>?_) (by rw[hav];exact .vec rfl)
 match i,e1,e2 with
 |0,e1,e2=>
  cases e1;cases e2
  rw[h0]
  refine .box (by intro c hc;simp at hc;rcases hc with rfl|rfl|rfl<;>simpa[AV.one]) rfl fun i c d e1 e2=>?_
  match i,e1,e2 with
  |0,e1,e2=>cases e1;cases e2;exact q0
  |1,e1,e2=>cases e1;cases e2;exact q1
  |2,e1,e2=>cases e1;cases e2;exact q2
 |1,e1,e2=>cases e1;cases e2;rw[h1];exact .vec hp
theorem ab.Ob {T T2 T3:TypeId} {B0 B1:aA} {av:AV} {H:Hp} {c0 c1 c2:AV} {p0 p1 p2:PV} {W W3 off len:Nat} {es es3:List PV} (h:Nat) (hne:h≠0) (hne1:h≠1) (hB:∀k,B0.row k= .free) (hB1:∀k,B1.row k= .free) (h0:H.getD 0 .free= .box T [c0,c1,c2]) (o0:p0.one=true) (o1:p1.one=true) (o2:p2.one=true)
  (q0:Conv [0,1,h] H c0 (.p p0)) (q1:Conv [0,1,h] H c1 (.p p1)) (q2:Conv [0,1,h] H c2 (.p p2)) (h3:H.getD 1 .free= .vec T3 W3 es3) (hp3:∀e∈es3,∀c∈e.cells,ct c) (hav:av= .vec h W off len) (h1:H.getD h .free= .vec T2 W es) (hp:∀e∈es,∀c∈e.cells,ct c):
  ab [B0,B1] av H (.vec 2 W off len) [.box T [.p p0,.p p1,.p p2],.vec T3 W3 es3,.vec T2 W es]:=by
 have key:∀g:Hd,look [B0,B1] g≠ .free->(look H g).live:=fun g hg=>by
  have hk:=d7 hg
  cases g with
  |t i=>
   have hk:i<2:=hk
   have:i=0\/i=1:=qO
   rcases this with rfl|rfl
   ·simp only[look,h0];trivial
   ·simp only[look,h3];trivial
  |r i k=>
   have hk:i<2:=hk
   have:i=0\/i=1:=qO
   rcases this with rfl|rfl
   ·exact absurd (hB k) hg
   ·exact absurd (hB1 k) hg
 refine .mk [0,1,h] rfl (by simp;exact⟨fun e=>hne e.symm,fun e=>hne1 e.symm⟩) rfl qS (fun g hg=>key g (aA.ck hg)) (fun g hg=>aA.ck (key g hg)) (fun i h' B e1 e2=>?_) (by rw[hav];exact .vec rfl)
 match i,e1,e2 with
 |0,e1,e2=>
  cases e1;cases e2
  rw[h0]
  refine .box (by intro c hc;simp at hc;rcases hc with rfl|rfl|rfl<;>simpa[AV.one]) rfl fun i c d e1 e2=>?_
  match i,e1,e2 with
  |0,e1,e2=>cases e1;cases e2;exact q0
  |1,e1,e2=>cases e1;cases e2;exact q1
  |2,e1,e2=>cases e1;cases e2;exact q2
 |1,e1,e2=>cases e1;cases e2;rw[h3];exact .vec hp3
 |2,e1,e2=>cases e1;cases e2;rw[h1];exact .vec hp
theorem ab.PK {av:AV} {H:Hp} {T:TypeId} {cs:List PV} {v:PV} (h:Nat) (hav:av= .bK [.aC h 0,.p v]) (hv:ct v) (h0:look H h= .box T (cs.map .p)) (ho:∀c∈cs,c.one=true) (hp:∀c∈cs,ct c):ab [] av H (.bK [.aC 0 0,.p v]) [.box T (cs.map .p)]:=
 .mk [h] rfl qS rfl (Nat.zero_le _) (fun h hl=>by rw[bI]at hl;exact hl.elim) (fun h hl=>absurd (bI h) hl) (fun i h' B e1 e2=>by
  match i,e1,e2 with
  |0,e1,e2=>
   cases e1;cases e2
   rw[fE h0 trivial]
   refine .box (fun d hd=>by obtain⟨c,hc,rfl⟩:=List.mem_map.1 hd;exact ho c hc) rfl fun i c d e1 e2=>?_
   rw[e1]at e2;cases e2
   obtain⟨c',hc,rfl⟩:=List.mem_map.1 (List.mem_of_getElem? e1)
   exact .p _ (hp c' hc)) (by
  rw[hav]
  refine .bK rfl fun i c d e1 e2=>?_
  match i,e1,e2 with
  |0,e1,e2=>cases e1;cases e2;exact .aC rfl
  |1,e1,e2=>cases e1;cases e2;exact .p _ hv)
abbrev PD:PV:=.sl false 3 []
theorem N4 (m:Nat->Bool) (g:GV) {b c:Nat} (h:Wf g b c) (hk:g.k=1):ae Tryz.prog 200 [dP m g] (.bK [.aC 0 0,.p (.int .i64 0)]) [.box 226 [.p (cn false false g.n g.n (aQ g)),.p PD,.p PD]]:=by
 have n1:=h.n1
 refine aW Tryz.func200 ?_
 refine ao.no (by rw[hk];rfl) ?_
 refine aa.pure (eI m g h) ?_
 refine uT.mk (fun h=>?_) (fun h=>⟨?_,?_⟩)
 ·exact ab.PK (cs:=[cn false false g.n g.n (aQ g),PD,PD]) 1 rfl (.int _ _) rfl (by intro c hc;simp at hc;rcases hc with rfl|rfl<;>rfl) (by intro c hc;simp at hc;rcases hc with rfl|rfl;exact eY;exact .sl _ _ (fun e he=>absurd he List.not_mem_nil))
 ·exact absurd h (by simp;omega)
 ·exact absurd h (by simp;omega)
def PE (A:Nat->Nat->Rat) (k:Nat) (y x l:Nat->Rat) (i:Nat):Rat:=rV k x i- -(y k-oz A k x)*l i
variable {n k D X Y L:Nat} {A:Nat->Nat->Rat} {f l x y:Nat->Rat}
theorem NH (kn:k<n) (n5:n<=5) (hA:∀i j,i<n->j<n->Bz (A i j) D) (hx:∀i,i<k->Bz (x i) X) (hy:Bz (y k) Y) (hl:∀i,i<k+1->Bz (l i) L) (x1:1<=X):∀i,i<k+1->Bz (PE A k y x l i) (5*X+4*D+Y+L+9):=fun i hi=>by
 have hs:Bz (oz A k x) (4*(D+X+1)+1):=(gB (F:=fun i=>A k (0+i)*x i) (n:=k) (fun i hi=>(hA k (0+i) kn qO).mul (hx i hi)) k (Nat.le_refl _)).mono (by have:=Nat.mul_le_mul_right (D+X+1) (show k<=4 by omega);omega)
 exact((qE hx x1 i).sub ((hy.sub hs).neg.mul (hl i hi))).mono qO
theorem FM (mx m':Bool) (kn:k<n) (n5:n<=5) (hA:∀i j,i<n->j<n->Bz (A i j) D) (hx:∀i,i<k->Bz (x i) X) (hy:Bz (y k) Y) (hl:∀i,i<k+1->Bz (l i) L) (x1:1<=X) (hb:5*X+4*D+Y+L+9<=5000000000):
  df Tryz.prog 202 [.aC 0 0,.p (ar mx (aH k x)),.p (ar m' (aH n y))] [.box 226 (KQ n A (k+1) f l)] (.vec 1 3 0 (k+1)) [.box 226 (KQ n A (k+1) f l),.vec 31 3 (a7 (aH (k+1) (PE A k y x l)))]:=by
 refine aW Tryz.func202 ?_ (h5:=by intro B hB;simp at hB;subst hB;exact fun e=>by(cases e))
 have kw:=Nat.mul_le_mul_right (D+X+1) (show k<=4 by omega)
 have hs:Bz (oz A k x) (4*(D+X+1)+1):=(gB (F:=fun i=>A k (0+i)*x i) (n:=k) (fun i hi=>(hA k (0+i) kn qO).mul (hx i hi)) k (Nat.le_refl _)).mono qO
 have hd:Bz (y k-oz A k x) (Y+(4*(D+X+1)+1)+1):=hy.sub hs
 have zx:=qE hx x1
 refine SZ.mk (k:Int) (by simp[aH]) ?_
 refine cS ?_
 repeat refine aq ?_
 refine ag (aF.rf k rfl kn af) ?_
 repeat refine aq ?_
 refine ag (aF.mf k rfl kn af) ?_
 repeat refine aq ?_
 refine ag (aa.pure (m0 false mx n k 0 (A k) x (fun i hi=>hA k i kn hi) hx qO qO qO) af) ?_
 refine ag (aa.pure (dh _ _ hy.sz hs.sz qO) af) ?_
 repeat refine aq ?_
 refine cX ?_
 refine cS ?_
 repeat refine aq ?_
 refine ag (aa.fresh (kV mx k x qO) af) ?_
 repeat refine aq ?_
 refine ag (aa.pure (x5 (y k-oz A k x) (by have:=hd.sz.1;omega) (by have:=hd.sz.2;omega)) af) ?_
 refine ag (bl.all (by simp[aH])<|aa.fresh (oC true false (k+1) (rV k x) l (-(y k-oz A k x)) (fun i _=>zx i) hl hd.neg qO qO) af) ?_
 repeat refine aq ?_
 refine cX ?_
 exact ab.OC 3 qD (fun _=>rfl) rfl rfl rfl rfl (.p _ eY) (.p _ (.sl _ _ (au _))) (.p _ (.sl _ _ (au _))) rfl rfl (au _)
theorem Fw (m':Bool) (kn:k<n) (n5:n<=5) (hA:∀i j,i<n->j<n->Bz (A i j) D) (hx:∀i,i<k->Bz (x i) X) (hy:Bz (y k) Y) (hl:∀i,i<k+1->Bz (l i) L) (x1:1<=X) (hb:5*X+4*D+Y+L+9<=5000000000):
  df Tryz.prog 202 [.aC 0 0,.vec 1 3 0 k,.p (ar m' (aH n y))] [.box 226 (KQ n A (k+1) f l),.vec 31 3 (a7 (aH k x))] (.vec 2 3 0 (k+1)) [.box 226 (KQ n A (k+1) f l),.vec 31 3 (a7 (aH k x)),.vec 31 3 (a7 (aH (k+1) (PE A k y x l)))]:=by
 refine aW Tryz.func202 ?_ (h5:=by intro B hB;simp at hB;rcases hB with rfl|rfl<;>exact fun e=>by(cases e))
 have kw:=Nat.mul_le_mul_right (D+X+1) (show k<=4 by omega)
 have hs:Bz (oz A k x) (4*(D+X+1)+1):=(gB (F:=fun i=>A k (0+i)*x i) (n:=k) (fun i hi=>(hA k (0+i) kn qO).mul (hx i hi)) k (Nat.le_refl _)).mono qO
 have hd:Bz (y k-oz A k x) (Y+(4*(D+X+1)+1)+1):=hy.sub hs
 have zx:=qE hx x1
 refine SZ.mk (k:Int) (by simp[aH]) ?_
 refine cS ?_
 repeat refine aq ?_
 refine ag (aF.rf k rfl kn af) ?_
 repeat refine aq ?_
 refine ag (aF.mf k rfl kn af) ?_
 repeat refine aq ?_
 refine ag (bl.all (by simp[aH])<|aa.pure (m0 false true n k 0 (A k) x (fun i hi=>hA k i kn hi) hx qO qO qO) af) ?_
 refine ag (aa.pure (dh _ _ hy.sz hs.sz qO) af) ?_
 repeat refine aq ?_
 refine cX ?_
 refine cS ?_
 repeat refine aq ?_
 refine ag (bl.all (by simp[aH])<|aa.fresh (kV true k x qO) af) ?_
 repeat refine aq ?_
 refine ag (aa.pure (x5 (y k-oz A k x) (by have:=hd.sz.1;omega) (by have:=hd.sz.2;omega)) af) ?_
 refine ag (bl.all (by simp[aH])<|aa.fresh (oC true false (k+1) (rV k x) l (-(y k-oz A k x)) (fun i _=>zx i) hl hd.neg qO qO) af) ?_
 repeat refine aq ?_
 refine cX ?_
 exact ab.Ob 4 qD qD (fun _=>rfl) (fun _=>rfl) rfl rfl rfl rfl (.p _ eY) (.p _ (.sl _ _ (au _))) (.p _ (.sl _ _ (au _))) rfl (au _) rfl rfl (au _)
end
section
theorem aa.bx {P:Program} {f:FuncId} {L:Hd->aA} {base h:Nat} {K:AV->List (Hd×aA)->Prop} {T:TypeId} {cs cs':List AV} {args args':List AV} {r:PV}
  (hc:df P f args' [.box T cs] (.p r) [.box T cs']) (hb:h<base) (hL:L (.t h)= .box T cs/\∀k,L (.r h k)= .free)
  (h1:∀ρ,AV.de ρ cs=cs) (h2:∀ρ,AV.de ρ cs'=cs') (h3:∀k,¬AV.bm cs k)
  (ha:AV.de (bz [h] base) args'=args) (hargs:∀a∈args',∀k,a.aT k->k.key<1)
  (hk:K (.p r) [(.t h,.box T cs')]) {raw:List AV}:aa P true f raw args L base K:=by
 refine .mk [h] args' (.p r) [.box T cs] [.box T cs'] (fun e=>by cases e) qS (fun k hk=>by simp at hk;omega) ha rfl (fun i g B e1 e2=>?_) (fun B hB=>by simp at hB;subst hB;exact⟨fun e=>by(cases e),fun e=>by(cases e)⟩)
  (fun B hB k hk=>by simp at hB;subst hB;exact(h3 k hk).elim) (Nat.le_refl _) (fun B hB=>by simp at hB;subst hB;exact fun e=>by(cases e)) hargs hc ?_
 ·match i,e1,e2 with
  |0,e1,e2=>
   cases e1;cases e2
   refine⟨?_,hL.2⟩
   show _=aA.box T (AV.de _ cs)
   rw[h1];exact hL.1
 ·show K (.p r) [(.t h,aA.box T (AV.de _ cs'))]
  rw[h2];exact hk
theorem aa.Qo {P:Program} {f:FuncId} {L:Hd->aA} {base h:Nat} {K:AV->List (Hd×aA)->Prop} {T T2:TypeId} {cs cs':List AV} {args args':List AV} {W off len:Nat} {es:List PV}
  (hc:df P f args' [.box T cs] (.vec 1 W off len) [.box T cs',.vec T2 W es]) (hb:h<base) (hL:L (.t h)= .box T cs/\∀k,L (.r h k)= .free)
  (h1:∀ρ,AV.de ρ cs=cs) (h2:∀ρ,AV.de ρ cs'=cs') (h3:∀k,¬AV.bm cs k)
  (ha:AV.de (bz [h] base) args'=args) (hargs:∀a∈args',∀k,a.aT k->k.key<1)
  (hk:K (.vec base W off len) [(.t h,.box T cs'),(.t base,.vec T2 W es)]) {raw:List AV}:aa P true f raw args L base K:=by
 refine .mk [h] args' (.vec 1 W off len) [.box T cs] [.box T cs',.vec T2 W es] (fun e=>by cases e) qS (fun k hk=>by simp at hk;omega) ha rfl (fun i g B e1 e2=>?_) (fun B hB=>by simp at hB;subst hB;exact⟨fun e=>by(cases e),fun e=>by(cases e)⟩)
  (fun B hB k hk=>by simp at hB;subst hB;exact(h3 k hk).elim) qS (fun B hB=>by simp at hB;rcases hB with rfl|rfl<;>exact fun e=>by(cases e)) hargs hc ?_
 ·match i,e1,e2 with
  |0,e1,e2=>
   cases e1;cases e2
   refine⟨?_,hL.2⟩
   show _=aA.box T (AV.de _ cs)
   rw[h1];exact hL.1
 ·show K (.vec base W off len) [(.t h,aA.box T (AV.de _ cs')),(.t base,.vec T2 W es)]
  rw[h2];exact hk
theorem aa.PM {P:Program} {f:FuncId} {L:Hd->aA} {base h g:Nat} {K:AV->List (Hd×aA)->Prop} {T T2 T3:TypeId} {cs cs':List AV} {args args':List AV} {W W3 off len:Nat} {es es3:List PV}
  (hc:df P f args' [.box T cs,.vec T3 W3 es3] (.vec 2 W off len) [.box T cs',.vec T3 W3 es3,.vec T2 W es]) (hn:h≠g) (hb:h<base) (hg:g<base) (hL:L (.t h)= .box T cs/\∀k,L (.r h k)= .free) (hL2:L (.t g)= .vec T3 W3 es3/\∀k,L (.r g k)= .free)
  (h1:∀ρ,AV.de ρ cs=cs) (h2:∀ρ,AV.de ρ cs'=cs') (h3:∀k,¬AV.bm cs k)
  (ha:AV.de (bz [h,g] base) args'=args) (hargs:∀a∈args',∀k,a.aT k->k.key<2)
  (hk:K (.vec base W off len) [(.t h,.box T cs'),(.t g,.vec T3 W3 es3),(.t base,.vec T2 W es)]) {raw:List AV}:aa P true f raw args L base K:=by
 refine .mk [h,g] args' (.vec 2 W off len) [.box T cs,.vec T3 W3 es3] [.box T cs',.vec T3 W3 es3,.vec T2 W es] (fun e=>by cases e) (by simp[hn]) (fun k hk=>by simp at hk;rcases hk with rfl|rfl<;>assumption) ha rfl (fun i g' B e1 e2=>?_) (fun B hB=>by simp at hB;rcases hB with rfl|rfl<;>exact⟨fun e=>by(cases e),fun e=>by(cases e)⟩)
  (fun B hB k hk=>by
   simp at hB
   rcases hB with rfl|rfl
   ·exact(h3 k hk).elim
   ·exact hk.elim) qS (fun B hB=>by simp at hB;rcases hB with rfl|rfl|rfl<;>exact fun e=>by(cases e)) hargs hc ?_
 ·match i,e1,e2 with
  |0,e1,e2=>
   cases e1;cases e2
   refine⟨?_,hL.2⟩
   show _=aA.box T (AV.de _ cs)
   rw[h1];exact hL.1
  |1,e1,e2=>cases e1;cases e2;exact hL2
 ·show K (.vec base W off len) [(.t h,aA.box T (AV.de _ cs')),(.t g,.vec T3 W3 es3),(.t base,.vec T2 W es)]
  rw[h2];exact hk
abbrev Qe:FuncId->Bool:=fun f=>Nat.beq f 201||Nat.beq f 202
theorem ab.kF {av:AV} {H:Hp} {T:TypeId} {W off len:Nat} {es:List PV} {u v:PV} (h:Nat) (hav:av= .bK [.vec h W off len,.p u,.p v]) (hu:ct u) (hv:ct v) (h0:look H h= .vec T W es) (hp:∀e∈es,∀c∈e.cells,ct c):
  ab [] av H (.bK [.vec 0 W off len,.p u,.p v]) [.vec T W es]:=
 .mk [h] rfl qS rfl (Nat.zero_le _) (fun h hl=>by rw[bI]at hl;exact hl.elim) (fun h hl=>absurd (bI h) hl) (fun i h' B e1 e2=>by
  match i,e1,e2 with
  |0,e1,e2=>
   cases e1;cases e2
   rw[fE h0 trivial]
   exact .vec hp) (by
  rw[hav]
  refine .bK rfl fun i c d e1 e2=>?_
  match i,e1,e2 with
  |0,e1,e2=>cases e1;cases e2;exact .vec rfl
  |1,e1,e2=>cases e1;cases e2;exact .p _ hu
  |2,e1,e2=>cases e1;cases e2;exact .p _ hv)
def rX (A:Nat->Nat->Rat):Nat->(Nat->Rat)×(Nat->Rat)
 |0=>(fun _=>0,fun _=>0)
 |k+1=>(JR A k (rX A k).1 (rX A k).2,lvl A k (rX A k).1 (rX A k).2)
abbrev JD (A:Nat->Nat->Rat) (k:Nat):Rat:=BE A k (rX A k).1 (rX A k).2
def uZ (A:Nat->Nat->Rat) (y:Nat->Rat):Nat->Nat->Rat
 |0=>fun _=>0
 |k+1=>PE A k y (uZ A y k) (rX A (k+1)).2
def D3 (D:Nat):Nat->Nat
 |0=>1
 |k+1=>14*D3 D k+12*D+19
theorem qk {D k:Nat} (hD:D<=200) (hk:k<=5):1<=D3 D k/\D3 D k<=200000000:=by
 have:k=0\/k=1\/k=2\/k=3\/k=4\/k=5:=qO
 rcases this with rfl|rfl|rfl|rfl|rfl|rfl<;>simp only[D3]<;>omega
variable {n k D:Nat} {A:Nat->Nat->Rat} {x y:Nat->Rat}
theorem xn (n5:n<=5) (hA:∀i j,i<n->j<n->Bz (A i j) D) (d1:1<=D) (dD:D<=200):∀k,k<=n->(∀i,i<k->Bz ((rX A k).1 i) (D3 D k))/\∀i,i<k->Bz ((rX A k).2 i) (D3 D k):=by
 intro k
 induction k with
 |zero=>exact fun _=>⟨fun i hi=>absurd hi (Nat.not_lt_zero _),fun i hi=>absurd hi (Nat.not_lt_zero _)⟩
 |succ k ih=>
  intro hk
  obtain⟨h1,h2⟩:=ih qO
  have b:=qk (k:=k) dD qO
  have b':=qk (k:=k+1) dD qO
  have hb:FT n A k (rX A k).1 (rX A k).2 D (D3 D k):=⟨qO,n5,hA,h1,h2,b.1,d1,by have:D3 D (k+1)=14*D3 D k+12*D+19:=rfl;omega⟩
  exact⟨hb.fb,hb.lb⟩
theorem Nt (n5:n<=5) (hA:∀i j,i<n->j<n->Bz (A i j) D) (d1:1<=D) (dD:D<=200) (hk:k<n):FT n A k (rX A k).1 (rX A k).2 D (D3 D k):=by
 obtain⟨h1,h2⟩:=xn n5 hA d1 dD k qO
 have b:=qk (k:=k) dD qO
 have b':=qk (k:=k+1) dD qO
 exact⟨hk,n5,hA,h1,h2,b.1,d1,by have:D3 D (k+1)=14*D3 D k+12*D+19:=rfl;omega⟩
def Pc (D:Nat):Nat->Nat
 |0=>1
 |k+1=>5*Pc D k+4*D+5+D3 D (k+1)+9
theorem oh {D k:Nat} (hD:D<=200) (hk:k<=5):1<=Pc D k/\Pc D k<=600000000:=by
 have:k=0\/k=1\/k=2\/k=3\/k=4\/k=5:=qO
 rcases this with rfl|rfl|rfl|rfl|rfl|rfl<;>simp only[Pc,D3]<;>omega
theorem Be (n5:n<=5) (hA:∀i j,i<n->j<n->Bz (A i j) D) (d1:1<=D) (dD:D<=200) (hy:∀i,i<n->Bz (y i) 5):∀k,k<=n->∀i,i<k->Bz (uZ A y k i) (Pc D k):=by
 intro k
 induction k with
 |zero=>exact fun _ i hi=>absurd hi (Nat.not_lt_zero _)
 |succ k ih=>
  intro hk
  exact NH qO n5 hA (ih qO) (hy k qO) (xn n5 hA d1 dD (k+1) hk).2 (oh dD qO).1
end
theorem tv (m:Nat->Bool) (m':Bool) (g:GV) {b c:Nat} (h:Wf g b c) (hk:g.k=1) (n5:g.n<=5) (y:Nat->Rat) (hA:∀i j,i<g.n->j<g.n->Bz (aQ g i j) 163) (hy:∀i,i<g.n->Bz (y i) 5)
  (K:Nat) (hK:K<=g.n) (hp:∀t,t<K->JD (aQ g) t≠0) (hz:K<g.n->JD (aQ g) K=0) (R:AV) (nb:List aA)
  (e1:K<g.n->R= .bK [.p (ar false []),.p (.int .i64 ((K+1:Nat):Int)),.p (.int .i64 8)]/\nb=[])
  (e2:K=g.n->R= .bK [.vec 0 3 0 g.n,.p (.int .i64 0),.p (.int .i64 0)]/\nb=[.vec 31 3 (a7 (aH g.n (uZ (aQ g) y g.n)))]):
  ae Tryz.prog 187 [dP m g,ar m' (aH g.n y)] R nb:=by
 have hc:=N4 m g h hk
 have n1:=h.n1
 have hLB:=fun k (hk:k<g.n)=>Nt (k:=k) n5 hA qD qD hk
 have hX:=Be n5 hA qD qD hy
 refine Jy (wr:=Qe) Tryz.func187 ?_
 refine aa.news hc (by intro B hB;simp at hB;subst hB;exact fun e=>by(cases e)) ?_
 refine cJ ?_
 refine SZ.mk (g.n:Int) (by simp[aH]) ?_
 refine ao.no qS ?_
 refine aJ.mk Nat (fun i=>match i with
   |0=>([(1,.p (ar m' (aH g.n y))),(4,.emp),(8,.fn 201 [.aC 0 0] []),(9,.fn 202 [.aC 0 0] []),(31,.p (.int .i64 g.n)),(32,.p (.int .i64 (0:Nat)))],[.box 226 (KQ g.n (aQ g) 0 (rX (aQ g) 0).1 (rX (aQ g) 0).2)])
   |i+1=>([(1,.p (ar m' (aH g.n y))),(4,.vec 1 3 0 (i+1)),(8,.fn 201 [.aC 0 0] []),(9,.fn 202 [.aC 0 0] []),(31,.p (.int .i64 g.n)),(32,.p (.int .i64 ((i+1:Nat):Int)))],[.box 226 (KQ g.n (aQ g) (i+1) (rX (aQ g) (i+1)).1 (rX (aQ g) (i+1)).2),.vec 31 3 (a7 (aH (i+1) (uZ (aQ g) y (i+1))))]))
  (fun i=>i<=K) (fun i=>g.n-i) 0 [1] (Nat.zero_le _) aY ?_
 intro i (hi:i<=K)
 cases i with
 |zero=>
  have hb:=hLB 0 qO
  refine bo ?_
  by_cases h0:0<K
  ·have hx:=vX hb (hp 0 h0)
   have hm:=FM (f:=(rX (aQ g) 1).1) (x:=uZ (aQ g) y 0) false m' hb.kn n5 hA (hX 0 (Nat.zero_le _)) (hy 0 qO) (xn n5 hA qD qD 1 qO).2 (oh qD qD).1 (by have:=(oh (D:=163) (k:=0) qD qD).2;have:=(qk (D:=163) (k:=1) qD qD).2;omega)
   refine aa.bx (h:=0) (args':=[.aC 0 0]) hx qD ⟨rfl,fun _=>rfl⟩ (fun _=>rfl) (fun _=>rfl) (by intro k hk;simp[AV.bm,AV.aT]at hk) rfl (by intro a ha k hk;simp at ha;subst ha;have:0=k:=hk;subst this;decide) ?_
   refine cJ ?_
   refine aa.Qo (h:=0) (args':=[.aC 0 0,.p (ar false (aH 0 (uZ (aQ g) y 0))),.p (ar m' (aH g.n y))]) hm qD ⟨rfl,fun _=>rfl⟩ (fun _=>rfl) (fun _=>rfl) (by intro k hk;simp[AV.bm,AV.aT]at hk) rfl (by
    intro a ha k hk;simp at ha
    rcases ha with rfl|rfl|rfl
    ·have:0=k:=hk;subst this;decide
    ·exact hk.elim
    ·exact hk.elim) ?_
   refine a5 (0+1) ?_
   exact⟨0+1,[0,1],h0,cA,aY⟩
  ·obtain rfl:K=0:=qO
   obtain⟨p,q,hx⟩:=vS hb (hz qO)
   obtain⟨rfl,rfl⟩:=e1 qO
   refine aa.bx (h:=0) (args':=[.aC 0 0]) hx qD ⟨rfl,fun _=>rfl⟩ (fun _=>rfl) (fun _=>rfl) (by intro k hk;simp[AV.bm,AV.aT]at hk) rfl (by intro a ha k hk;simp at ha;subst ha;have:0=k:=hk;subst this;decide) ?_
   refine ir ?_
   refine a5 (0+1) ?_
   exact yl (.emp 3) (.p _ (.int _ _)) (.p _ (.int _ _))
 |succ i=>
  by_cases hin:i+1<g.n
  ·have hb:=hLB (i+1) hin
   refine bo ?_
   by_cases h0:i+1<K
   ·have hx:=vX hb (hp (i+1) h0)
    have hm:=Fw (f:=(rX (aQ g) (i+1+1)).1) (x:=uZ (aQ g) y (i+1)) m' hb.kn n5 hA (hX (i+1) qO) (hy (i+1) hin) (xn n5 hA qD qD (i+1+1) qO).2 (oh qD qO).1 (by have:=(oh (D:=163) (k:=i+1) qD qO).2;have:=(qk (D:=163) (k:=i+1+1) qD qO).2;omega)
    refine aa.bx (h:=0) (args':=[.aC 0 0]) hx qD ⟨rfl,fun _=>rfl⟩ (fun _=>rfl) (fun _=>rfl) (by intro k hk;simp[AV.bm,AV.aT]at hk) rfl (by intro a ha k hk;simp at ha;subst ha;have:0=k:=hk;subst this;decide) ?_
    refine cJ ?_
    refine aa.PM (h:=0) (g:=1) (args':=[.aC 0 0,.vec 1 3 0 (i+1),.p (ar m' (aH g.n y))]) hm qD qD qD ⟨rfl,fun _=>rfl⟩ ⟨rfl,fun _=>rfl⟩ (fun _=>rfl) (fun _=>rfl) (by intro k hk;simp[AV.bm,AV.aT]at hk) rfl (by
     intro a ha k hk;simp at ha
     rcases ha with rfl|rfl|rfl
     ·have:0=k:=hk;subst this;decide
     ·have:1=k:=hk;subst this;decide
     ·exact hk.elim) ?_
    refine a5 (i+1+1) ?_
    exact⟨i+1+1,[0,2],h0,cA,aY⟩
   ·obtain rfl:K=i+1:=qO
    obtain⟨p,q,hx⟩:=vS hb (hz hin)
    obtain⟨rfl,rfl⟩:=e1 hin
    refine aa.bx (h:=0) (args':=[.aC 0 0]) hx qD ⟨rfl,fun _=>rfl⟩ (fun _=>rfl) (fun _=>rfl) (by intro k hk;simp[AV.bm,AV.aT]at hk) rfl (by intro a ha k hk;simp at ha;subst ha;have:0=k:=hk;subst this;decide) ?_
    refine ir ?_
    refine a5 (i+1+1) ?_
    exact yl (.emp 3) (.p _ (.int _ _)) (.p _ (.int _ _))
  ·refine bd ?_
   have hg:i+1=g.n:=qO
   obtain⟨rfl,rfl⟩:=e2 qO
   rw[<-hg]
   exact ab.kF 1 rfl (.int _ _) (.int _ _) rfl (au _)
abbrev Lz (k n:Nat):PV:=.agg [.int .i64 (k:Int),.int .i64 (n:Int)]
theorem HG (k n:Nat):ct (Lz k n):=.agg _ fun c hc=>by
 simp only[List.mem_cons,List.not_mem_nil,or_false]at hc
 rcases hc with rfl|rfl<;>exact .int _ _
theorem Gp (m:Nat->Bool) (m':Bool) (g:GV) (n:Nat) (y:Nat->Rat):ae Tryz.prog 203 [dP m g,ar m' (aH n y)] (.p (Lz g.k n)) []:=by
 refine aW Tryz.func203 ?_
 refine SZ.mk (n:Int) (by simp[aH]) ?_
 exact ab.pure (.p _ (HG _ _))
theorem yW (k n:Nat):ae Tryz.prog 204 [Lz k n,Lz k n] (.p (.int .i64 0)) []:=by
 refine aW Tryz.func204 ?_
 refine ao.yes (qS) ?_
 exact ab.pure (.p _ (.int _ _))
theorem KC (m:Bool) (n:Nat) (y:Nat->Rat) {D:Nat} (hy:∀i,i<n->Bz (y i) D) (hD:D<=1000000) (hn:n<=1000):
  ae Tryz.prog 225 [ar m (aH n y)] (.vec 0 3 0 n) [.vec 31 3 (a7 (aH n y))]:=by
 refine aW Tryz.func225 ?_
 refine SZ.mk (n:Int) (by simp[aH]) ?_
 refine SZ.mk (n:Int) rfl ?_
 refine cm.mk qS ?_
 refine cy.rat n rfl qO ?_
 refine cm.mk qS<|dp.mk (List.replicate n cU) qS ?_
 refine SZ.mk (n:Int) (by simp[aH]) ?_
 refine aJ.mk Nat (fun i=>([(3,.vec 0 3 0 n),(10,.p (ar m (aH n y))),(11,.p (.int .i64 n)),(12,.p (.int .i64 i))],[.vec 31 3 (fl n fun k=>if k<i then aB (y k)else cU)]))
  (fun i=>i<=n) (fun i=>n-i) 0 [0] (Nat.zero_le _) (aY ⟨congrArg _ ((aU fun k hk=>if_neg qO).trans (bQ n cU).symm),trivial⟩) ?_
 intro i (hi:i<=n)
 by_cases hin:i<n
 ·have z:=(hy i hin).sz
  refine bo ?_
  refine aF.rf i rfl hin ?_
  refine cS ?_
  repeat refine aq ?_
  refine ag (aa.pure (kG false (nl (y i).num.natAbs) (by have:=z.1;show az _<=_;omega)) af) ?_
  repeat refine aq ?_
  refine ag (aa.pure (kG false (nl (y i).den) (by have:=z.2;show az _<=_;omega)) af) ?_
  repeat refine aq ?_
  refine ag (aK.mk i rfl hin af) ?_
  refine ag (cm.mk (by simp;omega)<|dp.mk _ (eQ (f:=y) hin) af) ?_
  repeat refine aq ?_
  refine cX ?_
  refine a5 (i+1) ?_
  exact⟨i+1,[0],hin,cA,aY⟩
 ·refine bd ?_
  obtain rfl:i=n:=qO
  rw[uw]
  exact ab.new 0 rfl rfl (au _)
theorem qp:ct f6:=.raw _
def B3 (g:GV):GV:=⟨1,g.n,0,g.A,fun _=>0,fun _=>0,fun _=>0⟩
theorem ET (m:Nat->Bool) (g:GV) {b c:Nat} (h:Wf g b c) (hk:g.k=2):
  ae Tryz.prog 205 [dP m g] (.p (.agg [.int .i64 1,.int .i64 g.n,.int .i64 0,ar false (aH g.la g.A),f6,f6,f6])) []:=by
 have c4:=h.c4
 have hbc:=h.bc
 have n6:=h.n6
 have hla:g.la=2*g.n-1:=by unfold GV.la aE;rw[hk];rfl
 refine aW Tryz.func205 ?_
 refine aa.pure (jj m g h) ?_
 refine cJ ?_
 refine ao.no (by rw[hk];rfl) ?_
 refine ao.yes (by rw[hk];rfl) ?_
 refine aa.fresh (KC (m 0) g.la g.A h.bA qO qO) ?_
 refine ab.pure (.ov (fun d hd=>?_) rfl fun i c d e1 e2=>?_)
 ·simp only[List.mem_cons,List.not_mem_nil,or_false]at hd
  rcases hd with rfl|rfl|rfl|rfl|rfl|rfl|rfl<;>rfl
 ·match i,e1,e2 with
  |0,e1,e2=>cases e1;cases e2;exact .p _ (.int _ _)
  |1,e1,e2=>cases e1;cases e2;exact .p _ (.int _ _)
  |2,e1,e2=>cases e1;cases e2;exact .p _ (.int _ _)
  |3,e1,e2=>cases e1;cases e2;exact Gy (h:=3) (n:=g.la) (g:=g.A) rfl qS
  |4,e1,e2=>cases e1;cases e2;exact .p _ qp
  |5,e1,e2=>cases e1;cases e2;exact .p _ qp
  |6,e1,e2=>cases e1;cases e2;exact .p _ qp
def MB (n:Nat) (x:Nat->Rat) (t:Nat):Rat:=x (n-1-t)
def JF (n i:Nat) (x:Nat->Rat) (t:Nat):Rat:=if t<i\/n<=t+i then x (n-1-t)else x t
theorem F3 {n i t:Nat} {x:Nat->Rat} (h:i+1+i<n) (ht:t<n):JF n (i+1) x t=a8 (a8 (JF n i x) (i+0) (JF n i x (n-1-i))) (n-1-i+0) (JF n i x i) t:=by
 unfold JF a8
 simp only[Nat.add_zero]
 by_cases e1:t=n-1-i
 ·rw[if_pos e1,if_pos (show t<i+1\/n<=t+(i+1) by omega),if_neg (show ¬(i<i\/n<=i+i) by omega),e1];congr 1;omega
 ·rw[if_neg e1]
  by_cases e2:t=i
  ·rw[if_pos e2,if_pos (show t<i+1\/n<=t+(i+1) by omega),if_neg (show ¬(n-1-i<i\/n<=n-1-i+i) by omega),e2]
  ·rw[if_neg e2]
   by_cases e3:t<i\/n<=t+i
   ·rw[if_pos e3,if_pos (show t<i+1\/n<=t+(i+1) by omega)]
   ·rw[if_neg e3,if_neg (show ¬(t<i+1\/n<=t+(i+1)) by omega)]
theorem I4 {n i t:Nat} {x:Nat->Rat} (h:n<=i+1+i) (ht:t<n):MB n x t=JF n i x t:=by
 unfold MB JF
 by_cases e3:t<i\/n<=t+i
 ·rw[if_pos e3]
 ·rw[if_neg e3,show n-1-t=t by omega]
theorem By (n:Nat) (x:Nat->Rat) (n1:1<=n) (hn:n<=1000):
  df Tryz.prog 206 [.vec 0 3 0 n] [.vec 31 3 (a7 (aH n x))] (.bK []) [.vec 31 3 (a7 (aH n (MB n x)))]:=by
 refine aW Tryz.func206 ?_ (h5:=by intro B hB;simp at hB;subst hB;exact fun e=>by(cases e))
 refine SZ.mk (n:Int) (by simp[aH]) ?_
 refine kJ ((n:Int)-1-(0:Nat)) ?_
 refine aJ.mk Nat (fun i=>([(0,.vec 0 3 0 n),(2,.p (.int .i64 (i:Nat))),(3,.p (.int .i64 ((n:Int)-1-(i:Nat))))],[.vec 31 3 (a7 (aH n (JF n i x)))]))
  (fun i=>i+i<=n) (fun i=>n-i) 0 [0] (Nat.zero_le _) (aY ⟨congrArg (fun l=>aA.vec 31 3 (a7 l)) (d8 fun t ht=>by unfold JF;rw[if_neg qO]),trivial⟩) ?_
 intro i (hi:i+i<=n)
 by_cases hin:i+1+i<n
 ·refine bo ?_
  refine cS ?_
  repeat refine aq ?_
  refine ag (aK.mk (n-1-i) qO qO af) ?_
  refine ag (aF.rf (n-1-i) rfl qO af) ?_
  repeat refine aq ?_
  refine ag (aK.mk i rfl qO af) ?_
  refine ag (aF.rf i rfl qO af) ?_
  refine ag (aK.mk i rfl qO af) ?_
  refine ag (cm.rf (show i+0<n by omega)<|dp.rf af) ?_
  refine ag (aK.mk (n-1-i) qO qO af) ?_
  refine ag (cm.rf (show n-1-i+0<n by omega)<|dp.rf af) ?_
  repeat refine aq ?_
  refine cX ?_
  refine a5 (i+1) ?_
  refine kJ ((n:Int)-1-((i+1:Nat):Int)) ?_
  exact⟨i+1,[0],by show i+1+(i+1)<=n;omega,cA,aY ⟨congrArg (fun l=>aA.vec 31 3 (a7 l)) (d8 fun t ht=>F3 hin ht),trivial⟩⟩
 ·refine bd ?_
  rw[d8 (g:=MB n x) (h:=JF n i x) fun t ht=>I4 qO ht]
  exact ab.one rfl (au _) (.bK rfl fun i c d e1 e2=>by simp at e1)
theorem aa.kF {P:Program} {wr:Bool} {f:FuncId} {L:Hd->aA} {base:Nat} {K:AV->List (Hd×aA)->Prop} {pvs:List PV} {T:TypeId} {W off len:Nat} {es:List PV} {u v:PV} (hc:ae P f pvs (.bK [.vec 0 W off len,.p u,.p v]) [.vec T W es])
  (hk:K (.bK [.vec base W off len,.p u,.p v]) [(base,.vec T W es)]):∀{raw:List AV},aa P wr f raw (pvs.map .p) L base K:=fun{raw}=>
 .mk [] (pvs.map .p) (.bK [.vec 0 W off len,.p u,.p v]) [] [.vec T W es] (fun _=>rfl) .nil (fun _ h=>by simp at h) (by rw[AV.bP,List.map_map];exact List.map_congr_left fun _ _=>rfl) rfl (fun i h B e=>by simp at e) (fun _ h=>by simp at h) (fun _ h=>by simp at h) (Nat.zero_le _) (fun B h=>by simp at h;subst h;exact fun e=>by cases e)
  (fun a ha k hk=>by obtain⟨v,_,rfl⟩:=List.mem_map.1 ha;simp only[AV.aT]at hk) hc hk
theorem HA {g:GV} (h:Wf g 5 13) (hk:g.k=2):Wf (B3 g) 5 13 where
 k1:=Nat.le_refl _
 k7:=by show 1<=7;decide
 n1:=h.n1
 n6:=h.n6
 r2:=by show 0<=2;decide
 r1:=fun h=>by rcases h with h|h<;>cases h
 r0:=fun _=>rfl
 bA:=fun i hi=>h.bA i (by unfold GV.la aE;rw[hk];exact hi)
 bB:=fun i _=>cB.mono qD
 bG:=fun i _=>cB.mono qD
 bH:=fun i _=>cB.mono qD
 ne:=fun i j _ hj=>absurd hj (Nat.not_lt_zero _)
 bc:=qD
 c4:=qD
abbrev Qn:FuncId->Bool:=fun f=>Nat.beq f 206
theorem AZ (m:Nat->Bool) (m':Bool) (g:GV) (h:Wf g 5 13) (hk:g.k=2) (n5:g.n<=5) (y:Nat->Rat) (hy:∀i,i<g.n->Bz (y i) 5)
  (K:Nat) (hK:K<=g.n) (hp:∀t,t<K->JD (aQ (B3 g)) t≠0) (hz:K<g.n->JD (aQ (B3 g)) K=0) (R:AV) (nb:List aA)
  (e1:K<g.n->R= .bK [.p (ar false []),.p (.int .i64 ((K+1:Nat):Int)),.p (.int .i64 8)]/\nb=[])
  (e2:K=g.n->R= .bK [.vec 0 3 0 g.n,.p (.int .i64 0),.p (.int .i64 0)]/\nb=[.vec 31 3 (a7 (aH g.n (MB g.n (uZ (aQ (B3 g)) y g.n))))]):
  ae Tryz.prog 188 [dP m g,ar m' (aH g.n y)] R nb:=by
 have n1:=h.n1
 have w:=HA h hk
 have hla:g.la=(B3 g).la:=by unfold GV.la aE;rw[hk];rfl
 have hl:=fun R nb e1 e2=>df.w8 (pvs':=[.agg [.int .i64 1,.int .i64 g.n,.int .i64 0,ar false (aH g.la g.A),f6,f6,f6],ar m' (aH g.n y)]) (tv lz m' (B3 g) w rfl n5 y (fun i j hi hj=>w.AY hi hj) hy K hK hp hz R nb e1 e2) rfl fun i p1 p2 q1 q2=>by
  match i,q1,q2 with
  |0,q1,q2=>cases q1;cases q2;exact .gen rfl rfl rfl (by rw[hla];exact .refl _) (.nil _ _) (.nil _ _) (.nil _ _)
  |1,q1,q2=>cases q1;cases q2;exact .refl _
 have hf:=yW 2 g.n
 have ho:=Gp m m' g g.n y
 rw[hk]at ho
 refine Jy (wr:=Qn) Tryz.func188 ?_
 refine gx ?_
 repeat refine aq ?_
 refine ag (aa.pure (ho) af) ?_
 repeat refine aq ?_
 refine ag (aa.pure (hf) af) ?_
 repeat refine aq ?_
 refine cJ ?_
 refine aa.pure (ET m g h hk) ?_
 by_cases hKn:K<g.n
 ·have hl:=hl _ _ (fun _=>⟨rfl,rfl⟩) (fun e=>absurd e (by show K≠g.n;omega))
  obtain⟨rfl,rfl⟩:=e1 hKn
  refine aa.aO (hl) (fun _=>rfl) ?_
  refine ir ?_
  exact yl (.emp 3) (.p _ (.int _ _)) (.p _ (.int _ _))
 ·have hl:=hl _ _ (fun e=>absurd e hKn) (fun _=>⟨rfl,rfl⟩)
  obtain⟨rfl,rfl⟩:=e2 qO
  refine aa.kF hl ?_
  refine cJ ?_
  refine aa.vec (h:=1) (args':=[.vec 0 3 0 g.n]) qD rfl (By g.n (uZ (aQ (B3 g)) y g.n) n1 qO) rfl (by intro a ha k hk;simp at ha;subst ha;have:0=k:=hk;subst this;decide) rfl ?_
  exact ab.kF 1 rfl (.int _ _) (.int _ _) rfl (au _)
theorem JL {n i:Nat} {y:Nat->Rat} (hi:i<n):((a7 (aH n y)).take (i+1)).drop i=[aB (y i)]:=by
 apply List.ext_getElem?
 intro k
 rw[List.getElem?_drop,List.getElem?_take]
 cases k with
 |zero=>rw[if_pos qO];simp[aH,hi]
 |succ k=>rw[if_neg qO];rfl
theorem Af (m:Bool) (m':Bool) (n i:Nat) (y:Nat->Rat) (hi:i<n) (hn:n<=1000):Df Tryz.prog 177 [.int .i64 (i:Int),.f5 m (ar m' (aH n y))] (.sl m' 3 [aB (y i)]):=by
 refine ri (wr:=vN) vI mixed Tryz.func177 qK rfl qK (cx rfl) ?_
 refine a5 (i+1) ?_
 refine a5 (i+1) ?_
 refine SZ.mk ((i+1:Nat):Int) rfl<|cm.mk qS<|fO.mk i (i+1) rfl rfl qO (by simp[aH];omega)<|H4.sl<|dp.mk [aB (y i)] (JL hi) ?_
 exact rfl
theorem M6 (m m' m'':Bool) (n:Nat) (A:Nat->Nat->Rat) (y:Nat->Rat) (h0:0<n) (hn:n<=900):
  ae Tryz.prog 176 [cn m m' n n A,.fn 177 [.f5 true (ar m'' (aH n y))]] (.aC 0 0) (lj n (n+1) (eE n A y) id 1):=by
 refine aW Tryz.func176 ?_
 refine aa.pure (Gr) ?_
 refine SZ.mk (n:Int) qS ?_
 refine aJ.yu Nat (fun i=>match i with
   |0=>([(0,.p (cn m m' n n A)),(1,.p (.fn 177 [.f5 true (ar m'' (aH n y))])),(5,.aC 0 0),(11,.p (cn m m' n n A)),(12,.p (.int .i64 n)),(13,.p (.int .i64 (0:Nat)))],[.box 183 [.p f6,.p (.bool (decide ((1:Rat).num<0))),.p (cg (1:Rat).num.natAbs),.p (cg (1:Rat).den)],.bu 31 3 (c9 0 (n+1) (eE n A y))])
   |i+1=>([(0,.p (cn m m' n n A)),(1,.p (.fn 177 [.f5 true (ar m'' (aH n y))])),(5,.aC 0 0),(11,.p (cn m m' n n A)),(12,.p (.int .i64 n)),(13,.p (.int .i64 ((i+1:Nat):Int)))],[.box 183 (Gk (i+1) 1),.rows 24 (cO 2 (n+1) (i+1) id),.bu 31 3 (c9 (i+1) (n+1) (eE n A y))]))
  (fun i=>i<=n) (fun i=>n-i) 0 [0,1] _ _ (.bu 31 3 (.done _ _)) (Nat.zero_le _) aY ?_
 intro i (hi:i<=n)
 cases i with
 |zero=>
  refine bo ?_
  refine aF.mf 0 rfl h0 ?_
  refine cS ?_
  repeat refine aq ?_
  refine ag (SZ.mk (n:Int) (by simp[aH]) af) ?_
  repeat refine aq ?_
  refine ag (a5 (2*n) af) ?_
  refine ag (cy.rat (2*n) rfl qO af) ?_
  repeat refine aq ?_
  refine ag (iq.mk rfl<|cG.mk (by simp[aH];omega) (by simp[aH];omega)<|dp.mk (a7 (aH n (A 0))) qS<|pa.mk n (by simp[aH]) af) ?_
  repeat refine aq ?_
  refine ag (aa.FH [.int .i64 ((0:Nat):Int),.f5 true (ar m'' (aH n y))] _ rfl (Af true m'' n 0 y h0 qO) af) ?_
  refine ag (iq.mk (by simp[aH])<|cG.mk (by simp[aH];omega) (by simp[aH];omega)<|dp.mk (a7 (aH (n+1) (eE n A y 0))) (CO n A y 0)<|pa.mk (n+1) (by simp[aH]) af) ?_
  repeat refine aq ?_
  refine ag (cG.mk qS qS af) ?_
  repeat refine aq ?_
  refine cX ?_
  refine a5 (0+1) ?_
  exact⟨0+1,[0,6,5001],h0,cA,aY ⟨rfl,congrArg _ (gb rfl qD (by simp[aD])),⟨_,_,_,_,rfl,rfl,congrArg _ eW⟩,aN fun i hi=>by simpa[aD]using hi,trivial⟩⟩
 |succ i=>
  by_cases hin:i+1<n
  ·refine bo ?_
   refine aF.mf (i+1) rfl hin ?_
   refine cS ?_
   repeat refine aq ?_
   refine ag (SZ.mk (n:Int) (by simp[aH]) af) ?_
   repeat refine aq ?_
   refine ag (a5 (2*n) af) ?_
   refine ag (cy.rat (2*n) rfl qO af) ?_
   repeat refine aq ?_
   refine ag (iq.mk rfl<|cG.mk (by simp[aH];omega) (by simp[aH];omega)<|dp.mk (a7 (aH n (A (i+1)))) qS<|pa.mk n (by simp[aH]) af) ?_
   repeat refine aq ?_
   refine ag (aa.FH [.int .i64 ((i+1:Nat):Int),.f5 true (ar m'' (aH n y))] _ rfl (Af true m'' n (i+1) y hin qO) af) ?_
   refine ag (iq.mk (by simp[aH])<|cG.mk (by simp[aH];omega) (by simp[aH];omega)<|dp.mk (a7 (aH (n+1) (eE n A y (i+1)))) (CO n A y (i+1))<|pa.mk (n+1) (by simp[aH]) af) ?_
   repeat refine aq ?_
   refine ag (iq.mk qS<|cG.mk (by simp;omega) (by simp;omega)<|rR.mk _ rfl<|pa.mk (i+1+1) qS af) ?_
   repeat refine aq ?_
   refine cX ?_
   refine a5 (i+1+1) ?_
   exact⟨i+1+1,[0,7,6002],hin,cA,aY ⟨rfl,congrArg _ (gb rfl qD (by simp[aD])),⟨_,_,_,_,rfl,rfl,congrArg _ eW⟩,aN fun i hi=>by simpa[aD]using hi,trivial⟩⟩
  ·refine bd ?_
   obtain rfl:n=i+1:=qO
   exact ab.mk [0,1,2] rfl qD rfl (Nat.zero_le _) (fun h hl=>by rw[bI]at hl;exact hl.elim) (fun h hl=>absurd (bI h) hl) (D8 rfl) (.aC rfl)
theorem ab.eC {av:AV} {H:Hp} {T:TypeId} {W off len:Nat} {es:List PV} {v:PV} (h:Nat) (hav:av= .bK [.vec h W off len,.p v]) (hv:ct v) (h0:look H h= .vec T W es) (hp:∀e∈es,∀c∈e.cells,ct c):ab [] av H (.bK [.vec 0 W off len,.p v]) [.vec T W es]:=
 .mk [h] rfl qS rfl (Nat.zero_le _) (fun h hl=>by rw[bI]at hl;exact hl.elim) (fun h hl=>absurd (bI h) hl) (fun i h' B e1 e2=>by
  match i,e1,e2 with
  |0,e1,e2=>cases e1;cases e2;rw[fE h0 trivial];exact .vec hp) (by
  rw[hav]
  refine .bK rfl fun i c d e1 e2=>?_
  match i,e1,e2 with
  |0,e1,e2=>cases e1;cases e2;exact .vec rfl
  |1,e1,e2=>cases e1;cases e2;exact .p _ hv)
theorem aa.PN {P:Program} {wr:Bool} {f:FuncId} {L:Hd->aA} {n w:Nat} {K:AV->List (Hd×aA)->Prop} {G:Nat->Nat->Rat} {s:Nat->Nat} {q:Rat} {pvs:List PV} (hc:ae P f pvs (.aC 0 0) (lj n w G s q))
  (hk:K (.aC 1 0) [(.t 1,.box 183 (Le n q)),(.t 2,.rows 24 (cO 3 w n s)),(.t 3,.bu 31 3 (c9 n w G))]) {raw:List AV}:aa P wr f raw (pvs.map .p) L 1 K:=by
 refine aa.news hc (fun B hB=>by simp only[lj,List.mem_cons,List.not_mem_nil,or_false]at hB;rcases hB with rfl|rfl|rfl<;>exact fun e=>by(cases e)) ?_
 have e:AV.de (bz [] 1) (cO 2 w n s)=cO 3 w n s:=by
  rw[fU];exact aU fun i _=>rfl
 show K (.aC 1 0) [(.t 1,aA.box _ (Le n q)),(.t 2,.rows _ (AV.de _ _)),(.t 3,_)]
 rw[e];exact hk
abbrev PW:FuncId->Bool:=fun f=>Nat.beq f 178
abbrev wN (n:Nat) (A:Nat->Nat->Rat) (y:Nat->Rat):LS:=rA n (eE n A y) n
def xD (n:Nat) (A:Nat->Nat->Rat) (y:Nat->Rat) (i:Nat):Rat:=(wN n A y).B i n/(wN n A y).B i i
theorem qA {n D:Nat} {A:Nat->Nat->Rat} {y:Nat->Rat} (hA:∀i k,i<n->k<n->Bz (A i k) D) (hy:∀i,i<n->Bz (y i) D):∀i k,i<n->k<n+1->Bz (eE n A y i k) D:=fun i k hi hk=>by
 unfold eE
 split
 ·exact hA i k hi (by assumption)
 ·exact hy i hi
theorem Jx {D:Nat} (hD:D<=1000) {j:Nat} (hj:j<=5):FR D j<=2000000:=by
 have:j=0\/j=1\/j=2\/j=3\/j=4\/j=5:=qO
 rcases this with rfl|rfl|rfl|rfl|rfl|rfl<;>simp only[FR]<;>omega
theorem LV {n D:Nat} {A:Nat->Nat->Rat} {y:Nat->Rat} (hA:∀i k,i<n->k<n->Bz (A i k) D) (hy:∀i,i<n->Bz (y i) D) (d1:1<=D) (dD:D<=1000) (hn:n<=5):∀i,i<n->Bz (xD n A y i) 4000000:=fun i hi=>by
 have I:=m7 (qA hA hy) d1 (Nat.le_succ n) n (Nat.le_refl _)
 have:=Jx dD (j:=n) hn
 exact((I.hB i n hi qO).div (I.hB i i hi qO)).mono qO
theorem wc (m m' m'':Bool) (n:Nat) (A:Nat->Nat->Rat) (y:Nat->Rat) {D:Nat} (hA:∀i k,i<n->k<n->Bz (A i k) D) (hy:∀i,i<n->Bz (y i) D) (h0:0<n) (hn:n<=5) (d1:1<=D) (dD:D<=1000)
  (R:AV) (nb:List aA) (e1:(wN n A y).r<n->R= .bK [.p (ar false []),.p (.int .i64 9)]/\nb=[]) (e2:(wN n A y).r=n->R= .bK [.vec 0 3 0 n,.p (.int .i64 0)]/\nb=[.vec 31 3 (a7 (aH n (xD n A y)))]):
  ae Tryz.prog 162 [cn m m' n n A,ar m'' (aH n y)] R nb:=by
 have I:=m7 (qA hA hy) d1 (Nat.le_succ n) n (Nat.le_refl _)
 have dd:=Jx dD (j:=n) hn
 refine Jy (wr:=PW) Tryz.func162 ?_
 refine aa.pure (tM m m' n A hA qO h0 qO) ?_
 refine cJ ?_
 refine SZ.mk (n:Int) (by simp[aH]) ?_
 refine SZ.mk (n:Int) qS ?_
 refine ao.no qS ?_
 refine aa.pure (p8 m'' n y hy qO qO) ?_
 refine cJ ?_
 refine aa.PN (M6 m m' m'' n A y h0 qO) ?_
 refine aa.Qd (pvs:=[.bool true]) (E5 n (n+1) (eE n A y) (qA hA hy) d1 qO hn qO dD) (fun _=>rfl) qD ⟨rfl,fun _=>rfl⟩ ⟨rfl,fun _=>rfl⟩ ⟨rfl,fun _=>rfl⟩ ?_
 refine SZ.mk (n:Int) qS ?_
 generalize hT:rA n (eE n A y) n=t at I
 have hT':wN n A y=t:=hT
 rw[hT']at e1 e2
 by_cases hr:t.r<n
 ·obtain⟨rfl,rfl⟩:=e1 hr
  refine bo ?_
  exact eT (.emp 3) (.p _ (.int _ _))
 ·have hr':t.r=n:=by have:=I.rn;omega
  obtain⟨rfl,rfl⟩:=e2 hr'
  have nz:=I.nz hr'
  refine bd ?_
  refine SZ.mk (n:Int) qS ?_
  refine SZ.mk (n:Int) rfl ?_
  refine cm.mk qS ?_
  refine cy.rat n rfl qO ?_
  refine SZ.mk (n:Int) rfl ?_
  refine aJ.mk Nat (fun i=>([(0,.p (cn m m' n n A)),(7,.vec 2 3 0 n),(39,.vec 0 1 0 n),(40,.p (.int .i64 n)),(41,.p (.int .i64 i))],[.rows 24 (cO 1 (n+1) n t.s),.bu 31 3 (c9 n (n+1) t.G),.vec 31 3 (fl n fun k=>if k<i then aB (xD n A y k)else cU)]))
   (fun i=>i<=n) (fun i=>n-i) 0 [2,3,4] (Nat.zero_le _) (aY ⟨congrArg _ (aS 3 rfl qD),rfl,congrArg _ ((aU fun k hk=>if_neg qO).trans (bQ n cU).symm),aN fun q hq=>by simpa[aD]using I.ps.lt q hq,trivial⟩) ?_
  intro i (hi:i<=n)
  by_cases hin:i<n
  ·have z1:=I.hB i n hin qO
   have z2:=I.hB i i hin qO
   have hx:t.B i n/t.B i i=xD n A y i:=by unfold xD;rw[hT']
   have hq:=iS (t.B i n) (t.B i i) (nz i hin) z1.sz z2.sz qO
   rw[hx]at hq
   refine bo ?_
   refine aK.mk i rfl hin ?_
   refine bJ.cO (i+0) rfl hin ?_
   refine cS ?_
   repeat refine aq ?_
   refine ag (SZ.mk (n:Int) qS af) ?_
   refine ag (aK.mk n rfl qO af) ?_
   refine ag (eH.c9 (I.ps.lt i hin)<|aF.rv (n+0) (t.B i n) rfl qO (I.hG i n hin qO) af) ?_
   repeat refine aq ?_
   refine ag (aK.mk i rfl qO af) ?_
   refine ag (eH.c9 (I.ps.lt i hin)<|aF.rv (i+0) (t.B i i) rfl qO (I.hG i i hin qO) af) ?_
   refine ag (aa.aO (hq) (fun _=>rfl) af) ?_
   repeat refine aq ?_
   refine ag (aK.mk i rfl hin af) ?_
   refine ag (cm.mk (by simp;omega)<|dp.mk _ (eQ (f:=xD n A y) hin) af) ?_
   repeat refine aq ?_
   refine cX ?_
   refine a5 (i+1) ?_
   exact⟨i+1,[0,1,2],hin,cA,aY ⟨congrArg _ (aS 1 rfl qD),rfl,rfl,aN fun q hq=>by simpa[aD]using I.ps.lt q hq,trivial⟩⟩
  ·refine bd ?_
   obtain rfl:i=n:=qO
   rw[uw]
   exact ab.eC 2 rfl (.int _ _) rfl (au _)
theorem aa.eC {P:Program} {wr:Bool} {f:FuncId} {L:Hd->aA} {base:Nat} {K:AV->List (Hd×aA)->Prop} {pvs:List PV} {T:TypeId} {W off len:Nat} {es:List PV} {v:PV} (hc:ae P f pvs (.bK [.vec 0 W off len,.p v]) [.vec T W es])
  (hk:K (.bK [.vec base W off len,.p v]) [(base,.vec T W es)]):∀{raw:List AV},aa P wr f raw (pvs.map .p) L base K:=fun{raw}=>
 .mk [] (pvs.map .p) (.bK [.vec 0 W off len,.p v]) [] [.vec T W es] (fun _=>rfl) .nil (fun _ h=>by simp at h) (by rw[AV.bP,List.map_map];exact List.map_congr_left fun _ _=>rfl) rfl (fun i h B e=>by simp at e) (fun _ h=>by simp at h) (fun _ h=>by simp at h) (Nat.zero_le _) (fun B h=>by simp at h;subst h;exact fun e=>by cases e)
  (fun a ha k hk=>by obtain⟨v,_,rfl⟩:=List.mem_map.1 ha;simp only[AV.aT]at hk) hc hk
theorem yy (m m':Bool) (n:Nat) (x f:Nat->Rat) {s b:Nat} (hx:∀i,i<n+1->Bz (x i) s) (hf:∀i,i<n+1->Bz (f i) b) (hd:∀i j,i<n+1->j<n+1->x i=x j->i=j)
  (hb:bs (2*s+2) b (n+n+1)<=1048576) (hn:n<=1000000000):
  ae Tryz.prog 209 [ar m (aH (n+1) x),ar m' (aH (n+1) f)] (.vec 0 3 0 (n+1)) [.vec 31 3 (a7 (aH (n+1) (vt x n f)))]:=by
 refine aW Tryz.func209 ?_
 obtain⟨t,ht⟩:∃t,t=2*s+2:=⟨_,rfl⟩
 rw[<-ht]at hb
 have hB:∀r,r<=n+n->2*bs t b r+t<=1048576:=fun r hr=>Nat.le_trans (mT (t:=t) (b:=b) (show r+1<=n+n+1 by omega)) hb
 have ho:=J7 m' (aH (n+1) f) (Bl.aH hf) (k:=b) (by have:=hB 0 qO;simp only[bs]at this;omega) (by rw[bT];omega)
 rw[bT]at ho
 refine aa.fresh ho ?_
 refine SZ.mk ((n+1:Nat):Int) rfl ?_
 refine kJ (n:Int) ?_
 obtain⟨X,hX⟩:∃X,X=aH (n+1) x:=⟨_,rfl⟩
 have hXl:X.length=n+1:=by rw[hX,bT]
 have hXB:Bl X s:=by rw[hX];exact Bl.aH hx
 have hXg:∀i,i<n+1->X.getD i 0=x i:=fun i hi=>by rw[hX,fh hi]
 rw[<-hX]
 refine aJ.mk Nat (fun k=>([(0,.p (ar m X)),(5,.vec 0 3 0 (n+1)),(6,.p (.int .i64 n)),(16,.p (.int .i64 n)),(17,.p (.int .i64 k))],[.vec 31 3 (a7 (aH (n+1) (iter (jl x) k f)))]))
  (fun k=>k<=n/\∀i,i<n+1->Bz (iter (jl x) k f i) (bs t b k)) (fun k=>n-k) 0 [0] ⟨Nat.zero_le _,hf⟩
  aY ?_
 intro k ⟨h1,h2⟩
 by_cases hk:k<n
 ·refine bo ?_
  obtain⟨iN,hold⟩:∃iN,iN=iter (jl x) k f:=⟨_,rfl⟩
  rw[<-hold]at h2
  rw[<-hold]
  have hBk:=hB k qO
  refine aJ.mk Nat (fun i=>([(0,.p (ar m X)),(5,.vec 0 3 0 (n+1)),(6,.p (.int .i64 n)),(7,.p (.int .i64 k)),(8,.p (.int .i64 i)),(16,.p (.int .i64 n)),(17,.p (.int .i64 k))],[.vec 31 3 (a7 (aH (n+1) (ym i (jl x k iN) iN)))]))
   (fun i=>k<=i/\i<=n/\∀j,j<n+1->i<j->Bz (jl x k iN j) (bs t b (k+1))) id n [0] ⟨qO,Nat.le_refl _,fun j h1 h2=>qO⟩
   (aY ⟨p6 fun i hi=>uC qO,trivial⟩) ?_
  intro i ⟨g1,g2,g3⟩
  by_cases hi:k<i
  ·refine bo ?_
   have hA:=Ei m X i (k+1) qO qO hXB qO qO
   rw[hXg i qO,hXg (i-(k+1)) qO]at hA
   have hne:x i-x (i-(k+1))≠0:=Ic fun e=>by have:=hd _ _ qO qO e;omega
   have z1:=h2 i qO
   have z2:=h2 (i-1) qO
   have z3:=z1.sub z2
   have z4:=(hx i qO).sub (hx (i-(k+1)) qO)
   refine gx ?_
   repeat refine aq ?_
   refine ag (aK.mk i rfl qO af) ?_
   refine ag (aF.rv i (iN i) rfl qO (uC qO) af) ?_
   repeat refine aq ?_
   refine ag (a5 (i-1) af) ?_
   refine ag (aK.mk (i-1) rfl qO af) ?_
   refine ag (aF.rv (i-1) (iN (i-1)) rfl qO (uC qO) af) ?_
   repeat refine aq ?_
   refine ag (aa.pure (dh _ _ z1.sz z2.sz qO) af) ?_
   repeat refine aq ?_
   refine ag (a5 (k+1) af) ?_
   refine ag (aa.pure (hA) af) ?_
   refine ag (aa.pure (GB _ _ hne z3 z4 qO) af) ?_
   have hnew:jl x k iN i=(iN i-iN (i-1))/(x i-x (i-(k+1))):=if_pos hi
   refine ag (aK.mk i rfl qO af) ?_
   refine ag (cm.rf (show i+0<n+1 by omega)<|dp.rv (ym (i-1) (jl x k iN) iN) (by rw[<-hnew];exact Ib qO) af) ?_
   refine a5 (i-1) ?_
   refine⟨i-1,[0],⟨qO,qO,fun j hj1 hj2=>?_⟩,cA,aY⟩
   by_cases e:j=i
   ·rw[e,hnew]
    refine(z3.div z4).mono ?_
    simp only[bs];omega
   ·exact g3 j hj1 qO
  ·refine bd ?_
   have hik:i=k:=qO
   subst hik
   refine a5 (i+1) ?_
   have hmix:ym i (jl x i iN) iN=iter (jl x) (i+1) f:=by
    funext m
    rw[iter,<-hold]
    unfold ym
    split
    ·rfl
    ·rename_i h;rw[jl,if_neg h]
   refine⟨i+1,[0],⟨hk,fun j hj=>?_⟩,cA,aY ⟨congrArg (fun g=>aA.vec 31 3 (a7 (aH (n+1) g))) hmix.symm,trivial⟩⟩
   rw[iter,<-hold]
   by_cases e:i<j
   ·exact g3 j hj e
   ·rw[jl,if_neg e]
    exact(h2 j hj).mono (mT (Nat.le_succ _))
 ·refine bd ?_
  have hkn:k=n:=qO
  subst hkn
  obtain⟨c1,hc1⟩:∃c1,c1=iter (jl x) k f:=⟨_,rfl⟩
  rw[<-hc1]at h2
  rw[<-hc1]
  have hthr:vt x k f=iter (fun r=>ew x k (k-1-r)) k c1:=by rw[vt,hc1]
  rw[hthr]
  refine ai.bD ((k:Int)-1) rfl qO ?_
  refine aJ.mk (Nat×Int) (fun(j,z)=>([(0,.p (ar m X)),(5,.vec 0 3 0 (k+1)),(6,.p (.int .i64 k)),(9,.p (.int .i64 z))],[.vec 31 3 (a7 (aH (k+1) (iter (fun r=>ew x k (k-1-r)) (k-j) c1)))]))
   (fun(j,z)=>j<=k/\z=(j:Int)-1/\∀i,i<k+1->Bz (iter (fun r=>ew x k (k-1-r)) (k-j) c1 i) (bs t b (k+(k-j)))) (fun x=>x.1) (k,(k:Int)-1) [0] ⟨Nat.le_refl _,rfl,by rw[Nat.sub_self];exact h2⟩
   (aY ⟨by rw[Nat.sub_self];rfl,trivial⟩) ?_
  intro⟨j,z⟩ ⟨g1,g2,g3⟩
  by_cases hj:j=0
  ·subst hj
   refine bd ?_
   exact ab.new 0 rfl rfl (au _)
  ·obtain⟨q,rfl⟩:=Nat.exists_eq_succ_of_ne_zero hj
   have hz:z=(q:Int):=qO
   subst hz
   refine bo ?_
   obtain⟨iN,hold⟩:∃iN,iN=iter (fun r=>ew x k (k-1-r)) (k-(q+1)) c1:=⟨_,rfl⟩
   have g3:∀i,i<k+1->Bz (iN i) (bs t b (k+(k-(q+1)))):=by rw[hold];exact g3
   have hBk:=hB (k+(k-(q+1))) qO
   have hnext:iter (fun r=>ew x k (k-1-r)) (k-q) c1=ew x k q iN:=by
    rw[show k-q=(k-(q+1))+1 by omega,iter,<-hold,show k-1-(k-(q+1))=q by omega]
   refine aJ.mk Nat (fun i=>([(0,.p (ar m X)),(5,.vec 0 3 0 (k+1)),(6,.p (.int .i64 k)),(9,.p (.int .i64 q)),(10,.p (.int .i64 i))],[.vec 31 3 (a7 (aH (k+1) (wZ i (ew x k q iN) iN)))]))
    (fun i=>q<=i/\i<=k/\∀j,j<i->Bz (ew x k q iN j) (bs t b (k+(k-q)))) (fun i=>k-i) q [0]
    ⟨Nat.le_refl _,qO,fun j hj=>?_⟩
    (aY ⟨?_,trivial⟩) ?_
   ·rw[ew,if_neg qO]
    exact(g3 j qO).mono (mT qO)
   ·show aA.vec _ _ _=aA.vec _ _ _
    rw[show k-q.succ=k-(q+1)from rfl,<-hold]
    refine p6 fun i hi=>?_
    unfold wZ
    split
    ·rename_i h;rw[ew,if_neg qO]
    ·rfl
   ·intro i ⟨e1,e2,e3⟩
    by_cases hi:i<k
    ·refine bo ?_
     have z1:=g3 i qO
     have z2:=g3 (i+1) qO
     have z3:=(hx q qO).mul z2
     have hnew:ew x k q iN i=iN i-x q*iN (i+1):=if_pos ⟨e1,hi⟩
     refine gx ?_
     repeat refine aq ?_
     refine ag (aK.mk i rfl qO af) ?_
     refine ag (aF.rv i (iN i) rfl qO (An qO) af) ?_
     repeat refine aq ?_
     refine ag (aF.rb q rfl qO af) ?_
     repeat refine aq ?_
     rw[hXg q qO]
     refine ag (a5 (i+1) af) ?_
     refine ag (aK.mk (i+1) rfl qO af) ?_
     refine ag (aF.rv (i+1) (iN (i+1)) rfl qO (An qO) af) ?_
     refine ag (aa.pure (cE _ _ (hx q qO).sz z2.sz qO) af) ?_
     refine ag (aa.pure (dh _ _ z1.sz z3.sz qO) af) ?_
     refine ag (aK.mk i rfl qO af) ?_
     refine ag (cm.rf (show i+0<k+1 by omega)<|dp.rv (wZ (i+1) (ew x k q iN) iN) (by rw[<-hnew];exact Hu) af) ?_
     refine a5 (i+1) ?_
     refine⟨i+1,[0],⟨qO,hi,fun j hj=>?_⟩,cA,aY⟩
     by_cases e:j=i
     ·rw[e,hnew]
      refine(z1.sub z3).mono ?_
      rw[show k+(k-q)=k+(k-(q+1))+1 by omega]
      simp only[bs];omega
     ·exact e3 j qO
    ·refine bd ?_
     have hik:i=k:=qO
     subst hik
     refine ai.bD ((q:Int)-1) rfl qO ?_
     have hmix:wZ i (ew x i q iN) iN=iter (fun r=>ew x i (i-1-r)) (i-q) c1:=by
      rw[hnext]
      funext m
      unfold wZ
      split
      ·rfl
      ·rename_i h;rw[ew,if_neg qO]
     refine⟨(q,(q:Int)-1),[0],⟨qO,rfl,fun j hj=>?_⟩,Nat.lt_succ_self q,aY ⟨congrArg (fun g=>aA.vec 31 3 (a7 (aH (i+1) g))) hmix.symm,trivial⟩⟩
     rw[hnext]
     by_cases e:j<i
     ·exact e3 j e
     ·rw[ew,if_neg qO]
      exact(g3 j hj).mono (mT qO)
theorem Io (g:FuncId) (m m':Bool) (x f:List Rat) {k:Nat} (hx:Bl x k) (hk:k+k<=1048576) (hn:x.length<=1099511627776) (n:Nat) (r:Nat->Rat) (h:fx x f=0)
  (hc:ae Tryz.prog g [ar m x,ar m' f] (.vec 0 3 0 n) [.vec 31 3 (a7 (aH n r))]):
  ae Tryz.prog 208 [ar m x,ar m' f,.fn g []] (.bK [.vec 0 3 0 n,.p (.int .i64 0)]) [.vec 31 3 (a7 (aH n r))]:=by
 refine aW Tryz.func208 ?_
 refine aa.pure (yv m m' x f hx hk hn) ?_
 refine ao.no (uQ h) ?_
 refine aa.fresh (pvs:=[ar m x,ar m' f]) hc ?_
 exact ab.eC 0 rfl (.int _ _) rfl (au _)
theorem yD (m m':Bool) (n:Nat) (x f:Nat->Rat) {s b:Nat} (hx:∀i,i<n+1->Bz (x i) s) (hf:∀i,i<n+1->Bz (f i) b) (hs:s+s<=1048576) (hb:bs (2*s+2) b (n+n+1)<=1048576) (hn:n<=1000) (h:fx (aH (n+1) x) (aH (n+1) f)=0):
  ae Tryz.prog 190 [ar m (aH (n+1) x),ar m' (aH (n+1) f)] (.bK [.vec 0 3 0 (n+1),.p (.int .i64 0)]) [.vec 31 3 (a7 (aH (n+1) (vt x n f)))]:=by
 obtain⟨h0,h1,h2⟩:=re h
 have hl:(aH (n+1) x).length=n+1:=bT
 have ht:=yy m m' n x f (s:=s) (b:=b) hx hf (fun i j hi hj e=>vF h2 qO qO (by rw[fh hi,fh hj];exact e)) hb qO
 have hd:=Io 209 m m' (aH (n+1) x) (aH (n+1) f) (k:=s) (Bl.aH hx) hs (by rw[hl];omega) (n+1) (vt x n f) h ht
 refine aW Tryz.func190 ?_
 refine aa.eC (pvs:=[ar m (aH (n+1) x),ar m' (aH (n+1) f),.fn 209 []]) hd ?_
 exact ab.eC 0 rfl (.int _ _) rfl (au _)
theorem Bd (m:Nat->Bool) (m':Bool) (g:GV) {b c:Nat} (h:gT g b c) (ha:j9 g.A g.n) (hb:j9 g.B g.n) (y:Nat->Rat) (hy:∀i,i<g.n->Bz (y i) 100):
  ae Tryz.prog 191 [dP m g,ar m' (aH g.n y)] (.bK [.vec 0 3 0 g.n,.p (.int .i64 0)]) [.vec 31 3 (a7 (aH g.n (Mn g y)))]:=by
 have hk:=h.k5
 have h6:=h.n6
 have n1:=h.n1
 refine aW Tryz.func191 ?_
 refine ao.yes (jx qO) ?_
 refine SZ.mk (g.n:Int) (by simp[aH]) ?_
 refine ao.no (uQ rfl) ?_
 refine aa.aO (KD m g h ha hb) (fun _=>rfl) ?_
 refine cJ ?_
 refine SZ.mk (g.n:Int) qS ?_
 refine SZ.mk (g.n:Int) rfl ?_
 refine cm.mk qS ?_
 refine cy.rat g.n rfl qO ?_
 refine SZ.mk (g.n:Int) qS ?_
 refine aJ.mk Nat (fun i=>([(1,.p (ar m' (aH g.n y))),(6,.p (cn false false g.n g.n (AQ g))),(8,.vec 0 3 0 g.n),(34,.p (.int .i64 g.n)),(35,.p (.int .i64 i))],[.vec 31 3 (fl g.n fun j=>if j<i then aB (Mn g y j)else cU)]))
  (fun i=>i<=g.n) (fun i=>g.n-i) 0 [1] (Nat.zero_le _) (aY ⟨congrArg _ ((aU fun k hk=>if_neg qO).trans (bQ g.n cU).symm),trivial⟩) ?_
 intro i (hi:i<=g.n)
 by_cases hin:i<g.n
 ·refine bo ?_
  refine aa.pure (HD) ?_
  refine aK.mk i rfl hin ?_
  refine cm.mk (by simp;omega)<|dp.mk _ IS ?_
  refine aF.mf i rfl hin ?_
  refine SZ.mk (g.n:Int) (by simp[aH]) ?_
  refine aJ.mk (Nat×Rat) (fun(k,s)=>([(1,.p (ar m' (aH g.n y))),(6,.p (cn false false g.n g.n (AQ g))),(8,.vec 0 3 0 g.n),(9,.p (.int .i64 i)),(34,.p (.int .i64 g.n)),(35,.p (.int .i64 i)),(45,.p (ar false (aH g.n (AQ g i)))),(46,.p (.int .i64 g.n)),(47,.p (.int .i64 k))],[.vec 31 3 (Oq g.n (Mn g y) i s)]))
   (fun(k,s)=>k<=g.n/\s=sm k (fun k=>AQ g i k*y k)/\Bz s (1+k*5600)) (fun x=>g.n-x.1) (0,0) [0] ⟨Nat.zero_le _,rfl,cB⟩ aY ?_
  intro⟨k,s⟩ ⟨hk,hs,zs⟩
  by_cases hkn:k<g.n
  ·refine bo ?_
   refine aF.rf k rfl hkn ?_
   have z1:=(Cv h hin hkn).mul (hy k hkn)
   refine cS ?_
   repeat refine aq ?_
   refine ag (aK.mk i rfl hin af) ?_
   refine ag (aF.mk (i+0) _ rfl (K0 hin) af) ?_
   repeat refine aq ?_
   refine ag (aF.rf k rfl hkn af) ?_
   repeat refine aq ?_
   refine ag (aa.pure (cE _ _ (Cv h hin hkn).sz (hy k hkn).sz qO) af) ?_
   refine ag (aa.pure (eh _ _ zs.sz z1.sz qO) af) ?_
   refine ag (aK.mk i rfl hin af) ?_
   refine ag (cm.mk (by simp;omega)<|dp.mk _ KF af) ?_
   repeat refine aq ?_
   refine cX ?_
   refine a5 (k+1) ?_
   exact⟨(k+1,_),[0],⟨hkn,by rw[hs];rfl,(zs.add z1).mono qO⟩,cA,aY ⟨rfl,trivial⟩ (ss:=⟨rfl,rfl,rfl,rfl,rfl,rfl,rfl,rfl,rfl,trivial⟩)⟩
  ·refine bd ?_
   obtain rfl:k=g.n:=qO
   have hs:s=Mn g y i:=hs
   subst hs
   refine a5 (i+1) ?_
   exact⟨i+1,[0],hin,cA,aY ⟨congrArg _ Jj.symm,trivial⟩⟩
 ·refine bd ?_
  obtain rfl:i=g.n:=qO
  exact ab.eC 0 rfl (.int _ _) (congrArg (aA.vec 31 3) II) (au _)
def uP (D:Nat):Nat->Nat
 |0=>2*D
 |i+1=>2*D+(i+1)*(D+1+uP D i)
theorem mQ {D i j:Nat} (h:i<=j):uP D i<=uP D j:=by
 induction j with
 |zero=>rw[Nat.le_zero.1 h];exact Nat.le_refl _
 |succ j ih=>
  by_cases e:i=j+1
  ·rw[e];exact Nat.le_refl _
  ·have h1:=ih qO
   have h2:1*(D+1+uP D j)<=(j+1)*(D+1+uP D j):=Nat.mul_le_mul_right _ qO
   simp only[uP];omega
theorem L1 {L:Nat->Nat->Rat} {b:Nat->Rat} {n D:Nat} (hL:∀i j,i<n->j<n->Bz (L i j) D) (hb:∀i,i<n->Bz (b i) D):∀k,k<=n->∀i,i<k->Bz (jB L b k i) (uP D i):=by
 intro k
 induction k with
 |zero=>exact fun _ i hi=>absurd hi (Nat.not_lt_zero _)
 |succ k ih=>
  intro hk i hi
  have ih:=ih qO
  simp only[jB]
  by_cases e:i=k
  ·rw[e,ah]
   cases k with
   |zero=>exact(hb 0 qO).mono (by simp only[uP];omega)
   |succ k=>
    have:=DE (a:=L (k+1)) (x:=jB L b (k+1)) (lo:=0) (d:=k+1) (bx:=uP D k) (hb (k+1) qO) (fun j _ h=>hL (k+1) j qO qO) (fun j _ h=>(ih j qO).mono (mQ qO))
    refine this.mono ?_
    simp only[uP]
    have:D+uP D k+1=D+1+uP D k:=qO
    rw[this];omega
  ·rw[aj _ _ e];exact ih i qO
theorem Mo {U:Nat->Nat->Rat} {b:Nat->Rat} {n D:Nat} (hU:∀i j,i<n->j<n->Bz (U i j) D) (hb:∀i,i<n->Bz (b i) D):∀t,t<=n->∀i,n<=i+t->i<n->Bz (qq U b n t i) (uP D (n-1-i)):=by
 intro t
 induction t with
 |zero=>exact fun _ i h1 h2=>absurd h2 qO
 |succ t ih=>
  intro ht i h1 h2
  have ih:=ih qO
  simp only[qq]
  by_cases e:i=n-1-t
  ·subst e
   rw[ah,show n-1-(n-1-t)=t by omega]
   have hd:=hU (n-1-t) (n-1-t) h2 h2
   cases t with
   |zero=>exact((hb _ h2).div hd).mono (by simp only[uP];omega)
   |succ t=>
    have:=DE (a:=U (n-1-(t+1))) (x:=qq U b n (t+1)) (lo:=n-(t+1)) (d:=t+1) (bx:=uP D t) (hb _ h2) (fun j _ h=>hU _ j h2 qO) (fun j h h'=>(ih j qO qO).mono (mQ qO))
    refine(this.div hd).mono ?_
    simp only[uP]
    have:D+uP D t+1=D+1+uP D t:=qO
    rw[this];omega
  ·rw[aj _ _ e];exact ih i qO h2
theorem sM (m m' q:Bool) (n K:Nat) (U:Nat->Nat->Rat) (b:Nat->Rat) {D X:Nat} (hn:n<=900) (hU:∀i j,i<n->j<n->Bz (U i j) D) (hb:∀i,i<n->Bz (b i) D) (hX:∀t,t<=K->∀i,n<=i+t->i<n->Bz (qq U b n t i) X) (hD:D+n*(D+X+1)+D+X<=100000000000)
  (hK:K<=n) (hp:∀t,t<K->U (n-1-t) (n-1-t)≠0) (hz:K<n->U (n-1-K) (n-1-K)=0)
  (R:AV) (nb:List aA) (h1:K<n->R= .bK [.p (ar false []),.p (.int .i64 5)]/\nb=[]) (h2:K=n->R= .bK [.vec 0 3 0 n,.p (.int .i64 0)]/\nb=[.vec 31 3 (a7 (aH n (qq U b n n)))]):
  ae Tryz.prog 186 [cn m m' n n U,ar q (aH n b)] R nb:=by
 refine aW Tryz.func186 ?_
 refine aa.pure (vR m m' q n U b hn hU hb qO) ?_
 refine cJ ?_
 refine SZ.mk (n:Int) (by simp[aH]) ?_
 refine SZ.mk (n:Int) rfl ?_
 refine cm.mk qS ?_
 refine cy.rat n rfl qO ?_
 refine SZ.mk (n:Int) (by simp[aH]) ?_
 refine kJ ((n:Int)-1-(0:Nat)) ?_
 refine aJ.mk Nat (fun t=>([(0,.p (cn m m' n n U)),(1,.p (ar q (aH n b))),(6,.vec 0 3 0 n),(7,.p (.int .i64 ((n:Int)-1-(t:Nat))))],[.vec 31 3 (fl n fun k=>if n<=k+t then aB (qq U b n t k)else cU)]))
  (fun t=>t<=K) (fun t=>n-t) 0 [0] (Nat.zero_le _) (aY ⟨congrArg _ ((aU fun k hk=>if_neg qO).trans (bQ n cU).symm),trivial⟩) ?_
 intro t (ht:t<=K)
 by_cases htn:t<n
 ·refine bo ?_
  have hl:=C9 m' true (b (n-1-t)) n (U (n-1-t)) (qq U b n t) (fun k=>if n<=k+t then aB (qq U b n t k)else cU) (n-t) n qO qO (Nat.le_refl _) (fun j h _=>if_pos qO) (hb _ qO) (fun j _ h=>hU _ j qO h) (fun j h1 h2=>hX t ht j qO h2) qO
  rw[show n-(n-t)=t by omega]at hl
  have zs:=DE (a:=U (n-1-t)) (x:=qq U b n t) (lo:=n-t) (d:=t) (hb (n-1-t) qO) (fun j h1 h2=>hU (n-1-t) j qO qO) (fun j h1 h2=>hX t ht j qO qO)
  have zt:t*(D+X+1)<=n*(D+X+1):=Nat.mul_le_mul_right _ qO
  have zu:=hU (n-1-t) (n-1-t) qO qO
  by_cases htK:t<K
  ·have hq:=iS (sb (U (n-1-t)) (qq U b n t) (b (n-1-t)) (n-t) t) (U (n-1-t) (n-1-t)) (hp t htK) zs.sz zu.sz qO
   refine cS ?_
   repeat refine aq ?_
   refine ag (aF.rf (n-1-t) qO qO af) ?_
   repeat refine aq ?_
   refine ag (aF.mf (n-1-t) qO qO af) ?_
   repeat refine aq ?_
   refine ag (a5 (n-t) af) ?_
   repeat refine aq ?_
   refine ag (SZ.mk (n:Int) (by simp[aH]) af) ?_
   repeat refine aq ?_
   refine ag (bl.all qS<|aa.pure (pvs:=[aB (b (n-1-t)),ar m' (aH n (U (n-1-t))),.sl true 3 (fl n fun k=>if n<=k+t then aB (qq U b n t k)else cU),.int .i64 ((n-t:Nat):Int),.int .i64 n]) hl af) ?_
   repeat refine aq ?_
   refine ag (aF.mf (n-1-t) qO qO af) ?_
   repeat refine aq ?_
   refine ag (aF.rf (n-1-t) qO qO af) ?_
   repeat refine aq ?_
   refine ag (aa.aO (hq) (fun _=>rfl) af) ?_
   repeat refine aq ?_
   refine cX ?_
   refine cJ ?_
   refine aK.mk (n-1-t) qO qO ?_
   refine cm.mk (by simp;omega) ?_
   refine dp.mk _ (JX htn) ?_
   refine kJ ((n:Int)-1-((t+1:Nat):Int)) ?_
   exact⟨t+1,[0],htK,cA,aY⟩
  ·obtain rfl:t=K:=qO
   have hq:=xQ (sb (U (n-1-t)) (qq U b n t) (b (n-1-t)) (n-t) t) zs.sz qO
   rw[<-hz htn]at hq
   obtain⟨rfl,rfl⟩:=h1 htn
   refine cS ?_
   repeat refine aq ?_
   refine ag (aF.rf (n-1-t) qO qO af) ?_
   repeat refine aq ?_
   refine ag (aF.mf (n-1-t) qO qO af) ?_
   repeat refine aq ?_
   refine ag (a5 (n-t) af) ?_
   repeat refine aq ?_
   refine ag (SZ.mk (n:Int) (by simp[aH]) af) ?_
   repeat refine aq ?_
   refine ag (bl.all qS<|aa.pure (pvs:=[aB (b (n-1-t)),ar m' (aH n (U (n-1-t))),.sl true 3 (fl n fun k=>if n<=k+t then aB (qq U b n t k)else cU),.int .i64 ((n-t:Nat):Int),.int .i64 n]) hl af) ?_
   repeat refine aq ?_
   refine ag (aF.mf (n-1-t) qO qO af) ?_
   repeat refine aq ?_
   refine ag (aF.rf (n-1-t) qO qO af) ?_
   repeat refine aq ?_
   refine ag (aa.aO (hq) (fun _=>rfl) af) ?_
   repeat refine aq ?_
   refine cX ?_
   refine ir ?_
   exact eT (.emp 3) (.p _ (.int _ _))
 ·refine bd ?_
  obtain rfl:n=t:=qO
  obtain⟨rfl,rfl⟩:=h2 qO
  exact ab.eC 0 rfl (.int _ _) (congrArg (aA.vec 31 3) ((aU fun k hk=>by rw[if_pos (show n<=k+n by omega),if_pos hk]).trans pZ.symm)) (au _)
abbrev Pb (n:Nat) (A:Nat->Nat->Rat):List AV:=[.p (.sl false 1 (eV n (gO n A))),.p (cn false false n n (gL n A)),.p (cn false false n n (gU n A)),.p (.bool (decide ((Ol n A).num<0))),.p (cg (Ol n A).num.natAbs),.p (cg (Ol n A).den)]
abbrev jJ (n:Nat) (A:Nat->Nat->Rat) (b:Nat->Rat) (i:Nat):Rat:=b (gO n A i)
abbrev FF (n:Nat) (A:Nat->Nat->Rat) (b:Nat->Rat):Nat->Rat:=qq (gU n A) (jB (gL n A) (jJ n A b) n) n n
theorem Bn (q:Bool) (n:Nat) (A:Nat->Nat->Rat) (b:Nat->Rat) (n1:1<=n) (hn:n<=5) (hB:It n A 42100) (hp:∀t,t<n->kH n A t≠0) (zb:∀i,i<n->Bz (b i) 5):
  ae Tryz.prog 164 [Md n A,ar q (aH n b)] (.bK [.vec 0 3 0 n,.p (.int .i64 0)]) [.vec 31 3 (a7 (aH n (FF n A b)))]/\∀i,i<n->Bz (FF n A b i) 4000000000:=by
 obtain⟨o1,_,_⟩:=i6 (n:=n) (A:=A) n (Nat.le_refl _)
 have o1:∀i,i<n->gO n A i<n:=o1
 have zL:∀i j,i<n->j<n->Bz (gL n A i j) 84200:=fun i j hi _=>Mk hB qD n (Nat.le_refl _) i j hi
 have zU:∀i j,i<n->j<n->Bz (gU n A i j) 20000000:=fun i j hi hj=>(hB n (Nat.le_refl _) i j hi hj).mono qD
 have zc:∀i,i<n->Bz (jJ n A b i) 84200:=fun i hi=>(zb _ (o1 i hi)).mono qD
 have e1:uP 84200 4<=20000000:=by decide+kernel
 have e2:uP 20000000 4<=4000000000:=by decide+kernel
 have lX:∀k,k<=n->∀i,i<k->Bz (jB (gL n A) (jJ n A b) k i) 20000000:=fun k hk i hi=>(L1 zL zc k hk i hi).mono (Nat.le_trans (mQ qO) e1)
 have hlo:=t7 false false true n (gL n A) (jJ n A b) qO zL zc lX qO
 have zz:∀i,i<n->Bz (jB (gL n A) (jJ n A b) n i) 20000000:=fun i hi=>lX n (Nat.le_refl _) i hi
 have uX:∀t,t<=n->∀i,n<=i+t->i<n->Bz (qq (gU n A) (jB (gL n A) (jJ n A b) n) n t i) 4000000000:=fun t ht i h1 h2=>(Mo zU zz t ht i h1 h2).mono (Nat.le_trans (mQ qO) e2)
 refine⟨?_,fun i hi=>uX n (Nat.le_refl _) i qO hi⟩
 have hup:=sM false false false n n (gU n A) (jB (gL n A) (jJ n A b) n) qO zU zz uX qO (Nat.le_refl _) (fun t ht=>by rw[De qO];exact hp _ qO) (fun h=>absurd h (Nat.lt_irrefl _)) _ _ (fun h=>absurd h (Nat.lt_irrefl _)) (fun _=>⟨rfl,rfl⟩)
 refine aW Tryz.func164 ?_
 refine SZ.mk (n:Int) (by simp[aH]) ?_
 refine SZ.mk (n:Int) qS ?_
 refine ao.no (uQ rfl) ?_
 refine SZ.mk (n:Int) (by simp[aH]) ?_
 refine SZ.mk (n:Int) rfl ?_
 refine cm.mk qS ?_
 refine cy.rat n rfl qO ?_
 refine SZ.mk (n:Int) qS ?_
 refine aJ.mk Nat (fun i=>([(1,.p (ar q (aH n b))),(2,.aC 0 0),(6,.vec 1 3 0 n),(20,.p (.sl false 1 (eV n (gO n A)))),(21,.p (.int .i64 n)),(22,.p (.int .i64 (i:Nat)))],[.box 171 (Pb n A),.vec 31 3 (fl n fun k=>if k<i then aB (jJ n A b k)else cU)]))
  (fun i=>i<=n) (fun i=>n-i) 0 [0,1] (Nat.zero_le _) (aY ⟨rfl,congrArg _ ((aU fun k hk=>if_neg qO).trans (bQ n cU).symm),trivial⟩) ?_
 intro i (hi:i<=n)
 by_cases hin:i<n
 ·refine bo ?_
  have ho:=o1 i hin
  refine aF.perm i rfl hin ?_
  refine bd ?_
  refine SZ.mk (n:Int) (by simp[aH]) ?_
  refine bd ?_
  refine aF.rf (gO n A i) rfl ho ?_
  refine aK.mk i rfl hin ?_
  refine cm.mk (by simp;omega)<|dp.mk _ (eQ (f:=jJ n A b) hin) ?_
  refine a5 (i+1) ?_
  exact⟨i+1,[0,1],hin,cA,aY⟩
 ·refine bd ?_
  obtain rfl:i=n:=qO
  refine bl.mk (a7 (aH i (jJ i A b))) (by rw[List.drop_zero,pZ];exact List.take_of_length_le qS) qS ?_
  refine aa.pure (hlo) ?_
  refine SZ.mk (i:Int) (by simp[aH]) ?_
  refine SZ.mk (i:Int) rfl ?_
  refine ao.no (uQ rfl) ?_
  refine aa.eC hup ?_
  exact ab.eC 2 rfl (.int _ _) rfl (au _)
theorem Cr (n:Nat) (A:Nat->Nat->Rat):(∀t,t<n->kH n A t≠0)\/∃K,K<n/\(∀t,t<K->kH n A t≠0)/\kH n A K=0:=by
 have key:∀m,m<=n->(∀t,t<m->kH n A t≠0)\/∃K,K<m/\(∀t,t<K->kH n A t≠0)/\kH n A K=0:=by
  intro m
  induction m with
  |zero=>exact fun _=>.inl fun t h=>absurd h (Nat.not_lt_zero _)
  |succ m ih=>
   intro hm
   rcases ih qO with h|⟨K,h1,h2,h3⟩
   ·by_cases e:kH n A m=0
    ·exact .inr ⟨m,Nat.lt_succ_self _,h,e⟩
    ·refine .inl fun t ht=>?_
     by_cases et:t=m
     ·rw[et];exact e
     ·exact h t qO
   ·exact .inr ⟨K,qO,h2,h3⟩
 exact key n (Nat.le_refl _)
section
variable {n k:Nat} {A:Nat->Nat->Rat} {f l x y:Nat->Rat}
theorem Jt {a:Nat->Rat}:sm (k+1) (fun j=>a j*rV k f j)=sm k fun j=>a j*f j:=by
 show sm k _+a k*rV k f k=_
 rw[aX (g:=fun j=>a j*f j) fun i hi=>by unfold rV;rw[if_pos hi],show rV k f k=0 from if_neg (Nat.lt_irrefl _),Rat.mul_zero,Rat.add_zero]
theorem N5 {a:Nat->Rat}:sm (k+1) (fun j=>a j*AM l j)=sm k fun j=>a (j+1)*l j:=by
 rw[lG];show a 0*0+_=_;rw[Rat.mul_zero,Rat.zero_add];rfl
theorem Og {a u v:Nat->Rat} {s t:Rat}:sm k (fun j=>a j*((u j-s*v j)*t))=(sm k (fun j=>a j*u j)-s*sm k fun j=>a j*v j)*t:=by
 rw[<-c8,<-nX,Rat.mul_comm,<-c8];exact aX fun i _=>by grind
def Qa (A:Nat->Nat->Rat) (k:Nat):Prop:=∀r,r<k->sm k (fun j=>A r j*(rX A k).1 j)=(if r=0 then 1 else 0)/\sm k (fun j=>A r j*(rX A k).2 j)=if r+1=k then 1 else 0
theorem MV (hT:∀i j,i+1<n->j+1<n->A (i+1) (j+1)=A i j) (hd:∀t,t<n->JD A t≠0):∀k,k<n->Qa A (k+1):=by
 intro k
 induction k with
 |zero=>
  intro h r hr
  obtain rfl:r=0:=qO
  have h0:A 0 0≠0:=hd 0 h
  have:A 0 0*(1/A 0 0)=1:=by grind
  constructor<;>simp[sm,rX,JR,lvl,this]<;>exact Rat.zero_add 1
 |succ k ih=>
  intro h r hr
  have ih:=ih qO
  obtain⟨P,hP⟩:∃P,P=rX A (k+1):=⟨_,rfl⟩
  have e:rX A (k+1+1)=(JR A (k+1) P.1 P.2,lvl A (k+1) P.1 P.2):=by rw[hP];rfl
  have hD:BE A (k+1) P.1 P.2≠0:=by rw[hP];exact hd (k+1) h
  unfold Qa at ih
  rw[<-hP]at ih
  rw[e]
  have ex:oz A (k+1) P.1=sm (k+1) fun j=>A (k+1) j*P.1 j:=aX fun i _=>by rw[Nat.zero_add]
  have ey:yj A (k+1) P.2=sm (k+1) fun j=>A 0 (j+1)*P.2 j:=aX fun i _=>by rw[Nat.add_comm]
  have eD:BE A (k+1) P.1 P.2=1-oz A (k+1) P.1*yj A (k+1) P.2:=if_neg qO
  have ef:∀j,JR A (k+1) P.1 P.2 j=(rV (k+1) P.1 j-oz A (k+1) P.1*AM P.2 j)*(1/BE A (k+1) P.1 P.2):=fun j=>if_neg qO
  have el:∀j,lvl A (k+1) P.1 P.2 j=(AM P.2 j-yj A (k+1) P.2*rV (k+1) P.1 j)*(1/BE A (k+1) P.1 P.2):=fun j=>if_neg qO
  have h1:sm (k+1) (fun j=>A r j*P.1 j)=if r=k+1 then oz A (k+1) P.1 else if r=0 then 1 else 0:=by
   split
   ·rename_i e;rw[ex,e]
   ·exact(ih r qO).1
  have h2:sm (k+1) (fun j=>A r (j+1)*P.2 j)=if r=0 then yj A (k+1) P.2 else if r=k+1 then 1 else 0:=by
   cases r with
   |zero=>rw[if_pos rfl,ey]
   |succ r=>
    rw[if_neg qO,aX (g:=fun j=>A r j*P.2 j) fun j hj=>by rw[hT r j qO qO],(ih r qO).2]
  simp only[ef,el,Og,Jt,N5,h1,h2]
  generalize oz A (k+1) P.1=X at*
  generalize yj A (k+1) P.2=Y at*
  generalize BE A (k+1) P.1 P.2=D at*
  have:D*(1/D)=1:=by grind
  generalize 1/D=E at*
  by_cases e0:r=0
  ·subst e0;simp;grind
  ·by_cases e1:r=k+1
   ·subst e1;simp;grind
   ·simp[e0,e1];grind
theorem NX (hT:∀i j,i+1<n->j+1<n->A (i+1) (j+1)=A i j) (hd:∀t,t<n->JD A t≠0):∀k,k<=n->∀r,r<k->sm k (fun j=>A r j*uZ A y k j)=y r:=by
 intro k
 induction k with
 |zero=>exact fun _ r hr=>absurd hr (Nat.not_lt_zero _)
 |succ k ih=>
  intro h r hr
  have hl:=((MV hT hd k qO) r hr).2
  have e:∀j,A r j*uZ A y (k+1) j=A r j*rV k (uZ A y k) j- -(y k-oz A k (uZ A y k))*(A r j*(rX A (k+1)).2 j):=fun j=>by
   show A r j*(_-_*_)=_
   grind
  rw[aX fun j _=>e j,nX,c8,Jt,hl]
  by_cases hk:r=k
  ·have ex:oz A k (uZ A y k)=sm k fun j=>A k j*uZ A y k j:=aX fun i _=>by rw[Nat.zero_add]
   rw[hk,ex];simp;grind
  ·rw[ih qO r qO,if_neg qO];grind
theorem N3:∀(n:Nat) (f:Nat->Rat),sm n (fun j=>f (n-1-j))=sm n f:=by
 intro n
 induction n with
 |zero=>exact fun _=>rfl
 |succ n ih=>
  intro f
  rw[lG]
  show f (n-0)+_=sm n f+f n
  rw[aX (g:=fun j=>f (n-1-j)) fun j hj=>by congr 1;omega,ih,Nat.sub_zero,Rat.add_comm]
end
section
variable {n w j:Nat} {A:Nat->Nat->Rat} {x y:Nat->Rat}
theorem sG:∀j,(rA n A j).r=(elim n A j).r/\∀i,(elim n A j).r<=i->i<n->(rA n A j).B i=(elim n A j).A i:=by
 intro j
 induction j with
 |zero=>exact⟨rfl,fun _ _ _=>rfl⟩
 |succ j ih=>
  obtain⟨h1,h2⟩:=ih
  have rn:=dT (n:=n) (A:=A) j
  obtain⟨p1,p2,p3,p4⟩:=dI (A:=(elim n A j).A) (j:=j) rn
  have hp:pv (rA n A j).B j n (rA n A j).r=pv (elim n A j).A j n (elim n A j).r:=by
   rw[h1]
   refine vJ p1 p2 (fun i hi hip=>by rw[h2 i hi qO];exact p3 i hi hip) ?_
   by_cases e:pv (elim n A j).A j n (elim n A j).r=n
   ·exact .inl e
   ·rw[h2 _ p1 qO];exact .inr (p4.resolve_left e)
  rw[dA]
  show(Jq n j (rA n A j)).r=_/\∀i,_->_->(Jq n j (rA n A j)).B i=_
  unfold Jq Ak
  rw[hp,h1]
  generalize pv (elim n A j).A j n (elim n A j).r=p at*
  generalize elim n A j=E at*
  generalize rA n A j=J at*
  by_cases hc:n<=p
  ·rw[if_pos hc,if_pos hc];exact⟨h1,h2⟩
  ·rw[if_neg hc,if_neg hc]
   refine⟨rfl,fun i hi hn=>?_⟩
   have hi:E.r+1<=i:=hi
   have hs:∀i,E.r<=i->i<n->bO J.B p E.r i=bO E.A p E.r i:=fun i hi hn=>by
    unfold bO;split
    ·exact h2 _ (Nat.le_refl _) qO
    ·split
     ·exact h2 _ p1 qO
     ·exact h2 _ hi hn
   funext k
   show nC _ _ _ i k=fa _ _ _ i k
   unfold nC jD fa
   rw[if_neg (show ¬i=E.r by omega),hs i qO hn,hs E.r (Nat.le_refl _) qO]
   by_cases e:j<=k
   ·rw[if_pos e,if_pos ⟨qO,e⟩]
   ·rw[if_neg e,if_neg fun h=>e h.2]
theorem qP:(wN n A y).r=n↔(elim n A n).gR≠0:=by
 rw[<-Da (y:=y),kh n (Nat.le_refl _),(sG n).1]
theorem NB (hr:(rA n A n).r=n) {v:Nat->Rat}:∀j,j<=n->(su n w (rA n A j).B v->su n w A v)/\(∀i k,i<n->k<j->i≠k->(rA n A j).B i k=0)/\∀i,i<j->(rA n A j).B i i≠0:=by
 intro j
 have hE:=fun d=>qI ((sG (A:=A) n).1.symm.trans hr) d
 induction j with
 |zero=>exact fun _=>⟨id,fun _ _ _ h=>absurd h (Nat.not_lt_zero _),fun _ h=>absurd h (Nat.not_lt_zero _)⟩
 |succ j ih=>
  intro hj
  obtain⟨ih,hz,hg⟩:=ih qO
  have r1:=hE (n-(j+1)) qO
  rw[show n-(n-(j+1))=j+1 by omega]at r1
  obtain⟨r0,hp⟩:=jh r1
  obtain⟨d1,d2⟩:=sG (n:=n) (A:=A) j
  have e1:=(sG (n:=n) (A:=A) (j+1)).1
  have e2:rA n A (j+1)=Jq n j (rA n A j):=rfl
  rw[e2]at e1⊢
  rw[r0]at d1 d2
  rw[r1]at e1
  generalize rA n A j=J at*
  unfold Jq at e1⊢
  rw[d1]at e1⊢
  obtain⟨q1,q2,q3,q4⟩:=dI (A:=J.B) (j:=j) (r:=j) (n:=n) qO
  generalize pv J.B j n j=p at*
  by_cases hc:n<=p
  ·rw[if_pos hc]at e1;omega
  ·rw[if_neg hc]
   have hne:bO J.B p j j j≠0:=by rw[iU];exact q4.resolve_left qO
   have hs:∀i k,i<n->k<j->i≠k->bO J.B p j i k=0:=fun i k hi hk hik=>by
    unfold bO;split
    ·exact hz _ _ qO hk qO
    ·split
     ·exact hz _ _ qO hk qO
     ·exact hz _ _ hi hk hik
   have hr:∀i k,i≠j->nC (bO J.B p j) j j i k=bO J.B p j i k-bO J.B p j i j/bO J.B p j j j*bO J.B p j j k:=fun i k hi=>by
    unfold nC jD
    rw[if_neg hi]
    by_cases e:j<=k
    ·rw[if_pos e]
    ·rw[if_neg e,hs j k qO qO qO];grind
   have hj':∀k,nC (bO J.B p j) j j j k=bO J.B p j j k:=fun k=>if_pos rfl
   refine⟨fun h=>ih ((su.Mt (show p<n by omega) (show j<n by omega)).1 fun i hi=>?_),fun i k hi hk hik=>?_,fun i hi=>?_⟩
   ·have h:su n w (nC (bO J.B p j) j j) v:=h
    have h0:=h j qO
    have h1:=h i hi
    rw[aX fun k _=>by rw[hj' k]]at h0
    by_cases e:i=j
    ·rw[e];exact h0
    ·rw[aX fun k _=>by rw[hr i k e,show(bO J.B p j i k-bO J.B p j i j/bO J.B p j j j*bO J.B p j j k)*v k=bO J.B p j i k*v k-bO J.B p j i j/bO J.B p j j j*(bO J.B p j j k*v k) by grind],nX,c8,h0]at h1
     grind
   ·show nC _ _ _ i k=0
    by_cases e:i=j
    ·rw[e,hj'];exact hs j k qO qO qO
    ·rw[hr i k e]
     by_cases e2:k=j
     ·rw[e2];grind
     ·rw[hs i k hi qO hik,hs j k qO qO qO];grind
   ·show nC _ _ _ i i≠0
    by_cases e:i=j
    ·rw[e,hj'];exact hne
    ·rw[hr i i e,hs j i qO qO qO,show bO J.B p j i i=J.B i i by rw[mz q1 qO]]
     have:=hg i qO
     grind
theorem LZ {f:Nat->Rat} {i:Nat} (hi:i<n) (h:∀k,k<n->k≠i->f k=0):sm n f=f i:=by
 rw[<-qU hi f]
 exact aX fun k hk=>by
  by_cases e:k=i
  ·rw[if_pos e];grind
  ·rw[if_neg e,h k hk e];grind
theorem G8 (hr:(wN n A y).r=n):∀i,i<n->sm n (fun k=>A i k*xD n A y k)=y i:=by
 obtain⟨v,v1,v2⟩:∃v:Nat->Rat,(∀k,k<n->v k=xD n A y k)/\v n= -1:=⟨fun k=>if k<n then xD n A y k else-1,fun k h=>if_pos h,if_neg (Nat.lt_irrefl _)⟩
 obtain⟨h1,h2,hI⟩:=NB (w:=n+1) (v:=v) hr n (Nat.le_refl _)
 intro i hi
 have:sm n _+eE n A y i n*v n=0:=h1 (fun i hi=>by
  show sm n _+_*v n=0
  rw[LZ hi fun k hk e=>by rw[h2 i k hi hk (Ne.symm e)];grind,v1 i hi,v2]
  have:=hI i hi
  unfold xD wN
  generalize(rA n (eE n A y) n).B i i=a at*
  generalize(rA n (eE n A y) n).B i n=b at*
  grind) i hi
 rw[aX (g:=fun k=>A i k*xD n A y k) fun k hk=>by rw[v1 k hk];unfold eE;rw[if_pos hk],v2,eE,if_neg (Nat.lt_irrefl _)]at this
 grind
end
section
def Iz (q:Rat) (b:Nat):Prop:=∃z:Int,q=(z:Rat)/\z.natAbs<=2^b
theorem Iz.mono {q:Rat} {b c:Nat} (h:Iz q b) (hc:b<=c):Iz q c:=let⟨z,e,h⟩:=h;⟨z,e,Nat.le_trans h (Nat.pow_le_pow_right qD hc)⟩
theorem Iz.mul {p q:Rat} {b c:Nat} (hp:Iz p b) (hq:Iz q c):Iz (p*q) (b+c):=by
 obtain⟨z,rfl,h⟩:=hp
 obtain⟨u,rfl,g⟩:=hq
 exact⟨z*u,(Rat.intCast_mul z u).symm,by rw[Int.natAbs_mul,Nat.pow_add];exact Nat.mul_le_mul h g⟩
theorem Iz.add {p q:Rat} {b:Nat} (hp:Iz p b) (hq:Iz q b):Iz (p+q) (b+1):=by
 obtain⟨z,rfl,h⟩:=hp
 obtain⟨u,rfl,g⟩:=hq
 exact⟨z+u,(Rat.intCast_add z u).symm,by rw[Nat.pow_succ];omega⟩
theorem Iz.neg {p:Rat} {b:Nat} (hp:Iz p b):Iz (-p) b:=by
 obtain⟨z,rfl,h⟩:=hp
 exact⟨-z,(Rat.intCast_neg z).symm,by rwa[Int.natAbs_neg]⟩
theorem Iz.zero (b:Nat):Iz 0 b:=⟨0,rfl,Nat.zero_le _⟩
theorem Iz.one:Iz 1 0:=⟨1,rfl,Nat.le_refl _⟩
theorem Iz.sum {F:Nat->Rat} {b n:Nat} (h:∀i,i<n->Iz (F i) b) (hn:n<=4):Iz (sm n F) (b+3):=by
 match n,hn with
 |0,_=>exact .zero _
 |1,_=>exact((Iz.zero b).add (h 0 qO)).mono qO
 |2,_=>exact(((Iz.zero b).add (h 0 qO)).add ((h 1 qO).mono (Nat.le_succ _))).mono qO
 |3,_=>exact((((Iz.zero b).add (h 0 qO)).add ((h 1 qO).mono (Nat.le_succ _))).add ((h 2 qO).mono qO))
 |4,_=>
  have e:sm 4 F=((F 0+F 1)+(F 2+F 3)):=by simp only[sm];grind
  rw[e]
  exact(((h 0 qO).add (h 1 qO)).add ((h 2 qO).add (h 3 qO))).mono qO
theorem H6:∀i,Iz (O4 i) 0
 |0=>.one
 |i+1=>(H6 i).neg
theorem IL {b:Nat}:∀(n:Nat) (A:Nat->Nat->Rat),n<=4->(∀i j,i<n->j<n->Iz (A i j) b)->Iz (dt n A) (n*(b+3))
 |0,A,_,_=>by rw[Nat.zero_mul];exact .one
 |n+1,A,hn,h=>by
  have:=Iz.sum (F:=fun i=>O4 i*A i 0*dt n (iC i A)) (n:=n+1) (b:=0+b+n*(b+3)) (fun i hi=>((H6 i).mul (h i 0 hi qO)).mul (IL n _ qO fun p q hp hq=>h _ _ (by split<;>omega) qO)) hn
  exact this.mono (by rw[Nat.succ_mul];omega)
variable {n:Nat} {A:Nat->Nat->Rat} {x y:Nat->Rat}
theorem Of {B:Nat->Nat->Rat} {j:Nat} (hj:j<n) (v:Nat->Nat->Rat):∀m,dt n (a8 B j fun r=>sm m fun k=>x k*v k r)=sm m fun k=>x k*dt n (a8 B j (v k)):=by
 intro m
 induction m with
 |zero=>
  have:=tt (x:=x) (y:=x) (a:=0) (b:=0) n B j x x hj
  rw[show(fun r=>sm 0 fun k=>x k*v k r)=fun r=>0*x r+0*x r from funext fun r=>by show(0:Rat)=_;grind,this]
  show _=(0:Rat);grind
 |succ m ih=>
  have:=tt (x:=x) (y:=x) (a:=1) (b:=x m) n B j (fun r=>sm m fun k=>x k*v k r) (v m) hj
  rw[show(fun r=>sm (m+1) fun k=>x k*v k r)=fun r=>1*(sm m fun k=>x k*v k r)+x m*v m r from funext fun r=>by show _+_=_;grind,this,ih,Rat.one_mul];rfl
theorem Na (hx:∀r,r<n->sm n (fun k=>A r k*x k)=y r) {j:Nat} (hj:j<n):x j*dt n (fun a b=>A b a)=dt n (a8 (fun a b=>A b a) j y):=by
 rw[kC n (a8 (fun a b=>A b a) j y) (a8 (fun a b=>A b a) j fun r=>sm n fun k=>x k*A r k) fun p q hp hq=>by
  unfold a8
  split
  ·rw[<-hx q hq];exact aX fun k _=>Rat.mul_comm _ _
  ·rfl,Of hj (fun k r=>A r k),LZ hj fun k hk e=>?_]
 ·rw[show a8 (fun a b=>A b a) j (fun r=>A r j)=fun a b=>A b a from funext fun a=>by unfold a8;split;rename_i e;rw[e];rfl]
 ·rw[show dt n (a8 (fun a b=>A b a) j fun r=>A r k)=0 from ?_,Rat.mul_zero]
  rcases Nat.lt_or_gt_of_ne e with h|h
  ·exact x6 h hj (by rw[ah,aj _ _ qO])
  ·exact x6 h hk (by rw[ah,aj _ _ qO])
theorem IG (hS:∀z:Nat->Rat,∃x:Nat->Rat,∀r,r<n->sm n (fun k=>A r k*x k)=z r):dt n (fun a b=>A b a)≠0:=by
 have hd:(elim n (fun a b=>A b a) n).gR≠0:=fun e=>by
  obtain⟨v,⟨m,hm,hv⟩,hk⟩:=O3 e
  obtain⟨x,hx⟩:=hS fun r=>if r=m then 1 else 0
  have h1:sm n (fun r=>sm n fun k=>v r*(A r k*x k))=v m:=by
   rw[<-qU hm v]
   exact aX fun r hr=>by rw[c8,hx r hr]
  rw[xa,fF fun k hk'=>by
   rw[aX (g:=fun r=>x k*(A r k*v r)) fun r _=>by grind,c8,hk k hk',Rat.mul_zero]]at h1
  exact hv h1.symm
 rw[<-Kp hd];exact hd
theorem KL {p q:Int} {b:Nat} (hq:q≠0) (h1:p.natAbs<=2^b) (h2:q.natAbs<=2^b):Bz ((p:Rat)/(q:Rat)) (b+1):=by
 have e:(p:Rat)/(q:Rat)=iW (decide (p<0) !=decide (q<0)) p.natAbs q.natAbs:=by
  rw[iW,Rat.mkRat_eq_div]
  have hz:∀z:Int,(z:Rat)=if z<0 then-((z.natAbs:Nat):Rat)else((z.natAbs:Nat):Rat):=fun z=>by
   rw[show((z.natAbs:Nat):Rat)=(((z.natAbs:Nat):Int):Rat)from(Rat.intCast_natCast _).symm]
   split
   ·rw[<-Rat.intCast_neg];congr 1;omega
   ·congr 1;omega
  have hn:((q.natAbs:Nat):Rat)≠0:=fun h=>hq (by have:=Rat.natCast_eq_zero_iff.1 h;omega)
  rw[hz p,hz q]
  unfold cZ
  generalize q.natAbs=Q at*
  generalize p.natAbs=P at*
  by_cases c1:p<0<;>by_cases c2:q<0<;>simp only[c1,c2,if_true,if_false,decide_true,decide_false,bne_self_eq_false,Bool.false_bne,Bool.true_bne,Bool.not_false,Bool.false_eq_true,Rat.intCast_neg,Rat.intCast_natCast]<;>grind
 rw[e]
 exact .iW qO (cj (by rw[Nat.pow_succ];have:=Nat.one_le_two_pow (n:=b);omega)) (cj (by rw[Nat.pow_succ];have:=Nat.one_le_two_pow (n:=b);omega))
theorem Nn {b:Nat} {s:Nat->Rat} (n4:n<=4) (hS:∀z:Nat->Rat,∃x:Nat->Rat,∀r,r<n->sm n (fun k=>A r k*x k)=z r) (hs:∀i,i<n->s i≠0) (hA:∀i j,i<n->j<n->Iz (s i*A i j) b)
  (hy:∀i,i<n->Iz (s i*y i) b) (hx:∀r,r<n->sm n (fun k=>A r k*x k)=y r):∀j,j<n->Bz (x j) (n*(b+3)+1):=fun j hj=>by
 have hc:=Na (A:=fun i j=>s i*A i j) (x:=x) (y:=fun i=>s i*y i) (fun r hr=>by rw[<-hx r hr,<-c8];exact aX fun k _=>by grind) hj
 have hd:=IG (n:=n) (A:=fun i j=>s i*A i j) fun z=>by
  obtain⟨x,hx⟩:=hS fun r=>z r/s r
  refine⟨x,fun r hr=>?_⟩
  rw[aX (g:=fun k=>s r*(A r k*x k)) fun k _=>by grind,c8,hx r hr]
  have:=hs r hr
  generalize s r=a at*
  grind
 obtain⟨q,eq,hq⟩:=IL n (fun a b=>s b*A b a) n4 fun i j hi hj=>hA j i hj hi
 obtain⟨p,ep,hp⟩:=IL n (a8 (fun a b=>s b*A b a) j fun i=>s i*y i) n4 fun a c ha hc=>by
  unfold a8
  split
  ·exact hy c hc
  ·exact hA c a hc ha
 rw[ep]at hc
 rw[eq]at hc hd
 have e:x j=(p:Rat)/(q:Rat):=by grind
 rw[e]
 exact KL (fun h=>hd (by rw[h];rfl)) hp hq
end
section
theorem pg {n b:Nat} (h:bitLen n<=b):n<2^b:=Nat.lt_of_lt_of_le (cN _) (Nat.pow_le_pow_right qD h)
theorem Ay (q:Rat):q=(q.num:Rat)/(q.den:Rat):=by rw[<-Rat.mkRat_eq_div];exact(Rat.mkRat_self q).symm
theorem Bz.num {q:Rat} {b:Nat} (h:Bz q b):Iz (q.num:Rat) b:=⟨q.num,rfl,Nat.le_of_lt (pg h.n)⟩
theorem Bz.den {q:Rat} {b:Nat} (h:Bz q b):Iz (q.den:Rat) b:=⟨q.den,(Rat.intCast_natCast _).symm,Nat.le_of_lt (pg h.d)⟩
def cW:Nat:=72201776446800
theorem lcm_dvd:∀d,d<32->d≠0->d∣cW:=by decide+kernel
theorem uI {q:Rat} (h:Bz q 5):Iz (cW*q) 52:=by
 obtain⟨c,hc⟩:=lcm_dvd q.den (pg h.d) q.den_nz
 have e:(cW:Rat)*q=((q.num*c:Int):Rat):=by
  have h1:q=(q.num:Rat)/(q.den:Rat):=Ay q
  have hd:(q.den:Rat)≠0:=fun h=>q.den_nz (Rat.natCast_eq_zero_iff.1 h)
  rw[hc,Rat.natCast_mul,Rat.intCast_mul,Rat.intCast_natCast]
  generalize(q.num:Rat)=N at*
  generalize(q.den:Rat)=D at*
  grind
 refine⟨_,e,?_⟩
 rw[Int.natAbs_mul,Int.natAbs_natCast]
 have h1:=pg h.n
 have h2:c<=2^47:=by
  have:c<=cW:=by rw[hc];exact Nat.le_mul_of_pos_left _ (Nat.pos_of_ne_zero q.den_nz)
  exact Nat.le_trans this qD
 exact Nat.le_trans (Nat.mul_le_mul (Nat.le_of_lt h1) h2) qD
theorem lcm_self:Iz cW 47:=⟨cW,(Rat.intCast_natCast _).symm,qD⟩
theorem Bg:(cW:Rat)≠0:=by decide+kernel
theorem Gx {f:Nat->Rat} {b:Nat}:∀n,(∀t,t<n->Iz (f t) b)->Iz (pm n f) (n*b)
 |0,_=>by rw[Nat.zero_mul];exact .one
 |n+1,h=>by rw[Nat.succ_mul];exact(Gx n fun t ht=>h t qO).mul (h n qO)
theorem BP {q:Rat} {b:Nat} (h:Iz q b):∀j,Iz (q^j) (j*b)
 |0=>by rw[Nat.zero_mul,Rat.pow_zero];exact .one
 |j+1=>by rw[Nat.succ_mul,Rat.pow_succ];exact(BP h j).mul h
variable {g:GV} {y:Nat->Rat}
abbrev JG (g:GV) (i t:Nat):Rat:=((g.A i-g.B t).num:Rat)
def Oi (g:GV) (i:Nat):Rat:=cW*cW*if g.k=4 then(cW:Rat)else if g.k=5\/g.k=7 then pm g.n (JG g i)else 1
theorem Mb (h:Wf g 5 13) (hk:g.k≠6):g.n<=g.la:=by have:=h.n1;have:=h.k7;have:=h.k1;unfold GV.la aE;split<;>(try split)<;>omega
theorem L0 (hk:g.k=5\/g.k=7):g.lb=g.n:=if_pos hk
theorem G5 (h:Wf g 5 13) (hk:g.k=5\/g.k=7) {i t:Nat} (hi:i<g.n) (ht:t<g.n):JG g i t≠0:=fun e=>by
 have h0:=Rat.num_eq_zero.1 (Rat.intCast_eq_zero_iff.1 e)
 exact h.ne i t (by have:=Mb h qO;omega) (by rw[L0 hk];exact ht) (by grind)
theorem MW (h:Wf g 5 13) {i:Nat} (hi:i<g.n):Oi g i≠0:=by
 refine jL (jL Bg Bg) ?_
 split
 ·exact Bg
 ·split
  ·rename_i hk;exact zY fun t ht=>G5 h hk hi ht
  ·decide
theorem AU (h:Wf g 5 13) (hk:g.k=5\/g.k=7) {i t:Nat} (hi:i<g.n) (ht:t<g.n):Bz (g.A i-g.B t) 19:=
 ((h.bA i (by have:=Mb h qO;omega)).sub (h.bB t (by rw[L0 hk];exact ht))).mono qD
theorem Oy (h:Wf g 5 13) (n4:g.n<=4) (hk:g.k=5\/g.k=7) {i:Nat} (hi:i<g.n):Iz (pm g.n (JG g i)) 76:=
 (Gx _ fun t ht=>(AU h hk hi ht).num).mono qO
theorem NT (h:Wf g 5 13) (n4:g.n<=4) (hk:g.k=5\/g.k=7) {i j:Nat} (hi:i<g.n) (hj:j<g.n):Iz (pm g.n (JG g i)*(1/(g.A i-g.B j))) 95:=by
 have e:pm g.n (JG g i)*(1/(g.A i-g.B j))=fo g.n j (JG g i)*((g.A i-g.B j).den:Rat):=by
  rw[pG hj]
  have h0:=G5 h hk hi hj
  unfold JG at h0⊢
  have h1:=Ay (g.A i-g.B j)
  have hd:((g.A i-g.B j).den:Rat)≠0:=fun h=>(g.A i-g.B j).den_nz (Rat.natCast_eq_zero_iff.1 h)
  generalize((g.A i-g.B j).num:Rat)=N at*
  generalize((g.A i-g.B j).den:Rat)=D at*
  rw[h1]
  grind
 rw[e]
 refine Iz.mono (Iz.mul (b:=76) ?_ (AU h hk hi hj).den) qD
 exact(Gx (b:=19) g.n fun t ht=>by
  split
  ·exact Iz.one.mono qD
  ·exact(AU h hk hi ht).num).mono qO
theorem Ho (h:Wf g 5 13) (hk:g.k=6\/g.k=7) {i j:Nat} (hi:i<g.n) (hj:j<g.n):Iz (cW*cW*ln g i j) 107:=by
 unfold ln
 rw[<-c8]
 have hl:=h.lh hk
 have:=Iz.sum (F:=fun t=>(cW:Rat)*cW*(g.G (i*g.r+t)*g.H (j*g.r+t))) (n:=g.r) (b:=104) (fun t ht=>by
  have:=(uI (h.bG _ (by rw[hl];exact lA hi ht))).mul (uI (h.bH _ (by rw[hl];exact lA hj ht)))
  rw[show(cW:Rat)*cW*(g.G (i*g.r+t)*g.H (j*g.r+t))=cW*g.G (i*g.r+t)*(cW*g.H (j*g.r+t)) by grind];exact this) (by have:=h.r2;omega)
 exact this
theorem MG (h:Wf g 5 13) (n4:g.n<=4) {i j:Nat} (hi:i<g.n) (hj:j<g.n):Iz (Oi g i*aQ g i j) 202:=by
 have a1:∀t,t<g.la->Iz ((cW:Rat)*cW*1*g.A t) 202:=fun t ht=>by
  rw[show(cW:Rat)*cW*1*g.A t=cW*(cW*g.A t) by grind]
  exact(lcm_self.mul (uI (h.bA t ht))).mono qD
 have k1:=h.k1
 have k7:=h.k7
 unfold Oi aQ
 by_cases c1:g.k=1
 ·simp only[c1];exact a1 _ (by unfold GV.la aE;simp only[c1];simp;omega)
 ·by_cases c2:g.k=2
  ·simp only[c2];exact a1 _ (by unfold GV.la aE;simp only[c2];simp;omega)
  ·by_cases c3:g.k=3
   ·simp only[c3];exact a1 _ (by unfold GV.la aE;simp only[c3];exact Nat.mod_lt _ qO)
   ·by_cases c4:g.k=4
    ·simp only[c4]
     have ha:=uI (h.bA i (by unfold GV.la aE;simp only[c4];exact hi))
     obtain⟨d,hd⟩:∃d,j+d=3:=⟨3-j,qO⟩
     have e:(cW:Rat)*cW*cW*g.A i^j=(cW*g.A i)^j*(cW:Rat)^d:=by
      have:d=3-j:=qO
      subst this
      match j,(show j<=3 by omega)with
      |0,_|1,_|2,_|3,_=>grind
     have:=(BP ha j).mul (BP lcm_self d)
     rw[<-e]at this
     exact this.mono qO
    ·by_cases c6:g.k=6
     ·simp only[c6]
      show Iz ((cW:Rat)*cW*1*sm _ _) _
      rw[Rat.mul_one,<-c8]
      exact(Iz.sum (b:=107) (fun t ht=>Ho h (.inl c6) qO qO) qO).mono qD
     ·have hk:g.k=5\/g.k=7:=qO
      have hn:=NT h n4 hk hi hj
      rw[if_neg c4,if_pos hk,if_neg c1,if_neg c2,if_neg c3,if_neg c4]
      by_cases c5:g.k=5
      ·rw[if_pos c5,Rat.mul_assoc]
       exact((lcm_self.mul lcm_self).mul hn).mono qD
      ·rw[if_neg c5,if_neg c6,Rat.div_def,show(cW:Rat)*cW*pm g.n (JG g i)*(ln g i j*(g.A i-g.B j)⁻¹)=cW*cW*ln g i j*(pm g.n (JG g i)*(1/(g.A i-g.B j))) by rw[Rat.div_def];grind]
       exact(Ho h qO hi hj).mul hn
theorem ND (h:Wf g 5 13) (n4:g.n<=4) (hy:∀i,i<g.n->Bz (y i) 5) {i:Nat} (hi:i<g.n):Iz (Oi g i*y i) 202:=by
 have e:Oi g i*y i=cW*(cW*y i)*if g.k=4 then(cW:Rat)else if g.k=5\/g.k=7 then pm g.n (JG g i)else 1:=by unfold Oi;grind
 rw[e]
 refine Iz.mono ((lcm_self.mul (uI (hy i hi))).mul (c:=76) ?_) qD
 split
 ·exact lcm_self.mono qD
 ·split
  ·rename_i hk;exact Oy h n4 hk hi
  ·exact Iz.one.mono qD
end
section
theorem Ja {a a' x:Nat->Rat} {s:Rat} {lo:Nat}:∀d,(∀j,lo<=j->j<lo+d->a j=a' j)->sb a x s lo d=sb a' x s lo d:=by
 intro d
 induction d with
 |zero=>intro _;rfl
 |succ d ih=>
  intro h
  simp only[sb]
  rw[ih fun j h1 h2=>h j h1 qO,h (lo+d) qO qO]
theorem OO {U:Nat->Nat->Rat} {b:Nat->Rat} {n:Nat}:∀t,t<=n->qq U b n t=bk (eE n U b) n t:=by
 intro t
 induction t with
 |zero=>intro _;rfl
 |succ t ih=>
  intro ht
  simp only[qq,bk]
  rw[ih qO]
  have e1:eE n U b (n-1-t) n=b (n-1-t):=if_neg (Nat.lt_irrefl n)
  have e2:eE n U b (n-1-t) (n-1-t)=U (n-1-t) (n-1-t):=if_pos qO
  rw[e1,e2,Ja (a:=U (n-1-t)) (a':=eE n U b (n-1-t)) t fun j h1 h2=>(if_pos qO).symm]
theorem Lf {L:Nat->Nat->Rat} {b:Nat->Rat} {i:Nat}:∀d,jB L b (i+1+d) i=jB L b (i+1) i:=by
 intro d
 induction d with
 |zero=>rfl
 |succ d ih=>rw[<-ih,<-Nat.add_assoc];simp only[jB];exact aj _ _ qO
theorem uH {L:Nat->Nat->Rat} {b:Nat->Rat} {i k:Nat} (h:i<k):jB L b k i=jB L b (i+1) i:=by
 obtain⟨d,rfl⟩:∃d,k=i+1+d:=⟨k-(i+1),qO⟩
 exact Lf d
theorem OD {a x:Nat->Rat} {s:Rat}:∀d,sb a x s 0 d+sm d (fun k=>a k*x k)=s:=by
 intro d
 induction d with
 |zero=>show s+0=s;grind
 |succ d ih=>
  show(sb a x s 0 d-a (0+d)*x (0+d))+(sm d _+a d*x d)=s
  rw[Nat.zero_add,<-ih];grind
theorem Mm {L:Nat->Nat->Rat} {b:Nat->Rat} {n:Nat} (h1:∀i,i<n->L i i=1) (h0:∀i j,i<j->j<n->L i j=0):∀i,i<n->Po n L (jB L b n) i=b i:=by
 intro i hi
 show sm n (fun k=>L i k*jB L b n k)=b i
 obtain⟨d,hd⟩:∃d,n=(i+1)+d:=⟨n-(i+1),qO⟩
 have e:sm n (fun k=>L i k*jB L b n k)=sm (i+1) (fun k=>L i k*jB L b n k):=by
  conv=>lhs;rw[hd]
  rw[kk,fF (n:=d) fun e he=>by rw[h0 i (i+1+e) qO qO];exact Rat.zero_mul _]
  rw[<-hd];exact Rat.add_zero _
 rw[e]
 show sm i (fun k=>L i k*jB L b n k)+L i i*jB L b n i=b i
 have e2:jB L b n i=sb (L i) (jB L b i) (b i) 0 i:=by rw[uH hi];simp only[jB];exact ah _ _ _
 rw[h1 i hi,e2,aX (g:=fun k=>L i k*jB L b i k) fun k hk=>by rw[uH (show k<n by omega),uH (show k<i by omega)]]
 have:=OD (a:=L i) (x:=jB L b i) (s:=b i) i
 rw[<-this];grind
theorem LR {U:Nat->Nat->Rat} {b:Nat->Rat} {n:Nat} (hu:∀i j,i<n->j<i->U i j=0) (hd:∀i,i<n->U i i≠0):∀i,i<n->Po n U (qq U b n n) i=b i:=by
 intro i hi
 have h:=G4 (A:=eE n U b) (n:=n) (fun i k hi hk=>by show(if k<n then U i k else b i)=0;rw[if_pos qO];exact hu i k hi hk) (fun i hi=>by show(if i<n then U i i else b i)≠0;rw[if_pos hi];exact hd i hi) n (Nat.le_refl _) i qO hi
 rw[show eE n U b i n=b i from if_neg (Nat.lt_irrefl n)]at h
 rw[<-h,OO n (Nat.le_refl _)]
 exact aX fun k hk=>by rw[show eE n U b i k=U i k from if_pos hk]
theorem Dk {n:Nat} {L U:Nat->Nat->Rat} {x:Nat->Rat} (i:Nat):sm n (fun k=>mulM n L U i k*x k)=sm n fun t=>L i t*Po n U x t:=by
 show sm n (fun k=>sm n (fun t=>U t k*L i t)*x k)=sm n fun t=>L i t*sm n fun k=>U t k*x k
 have e1:(fun k=>sm n (fun t=>U t k*L i t)*x k)=fun k=>sm n fun t=>x k*(U t k*L i t):=by
  funext k;rw[c8];exact Rat.mul_comm _ _
 have e2:(fun t=>L i t*sm n fun k=>U t k*x k)=fun t=>sm n fun k=>x k*(U t k*L i t):=by
  funext t;rw[<-c8];exact aX fun k _=>by grind
 rw[e1,e2,xa]
theorem JP {n:Nat} {A:Nat->Nat->Rat} {b:Nat->Rat} (hp:∀t,t<n->kH n A t≠0):∀r,r<n->sm n (fun k=>A r k*FF n A b k)=b r:=fun r hr=>by
 obtain⟨_,_,o3⟩:=i6 (n:=n) (A:=A) n (Nat.le_refl _)
 obtain⟨i,hi,e⟩:=o3 r hr
 have e:gO n A i=r:=e
 have lok:=Mm (L:=gL n A) (b:=jJ n A b) (n:=n) (fun i hi=>xr hi) (fun i j h hj=>Gm (Nat.lt_trans h hj) h)
 have uok:=LR (U:=gU n A) (b:=jB (gL n A) (jJ n A b) n) (n:=n) (fun i j hi h=>Mz hp hi h) (fun i hi=>by rw[De hi];exact hp i hi)
 rw[aX (g:=fun k=>mulM n (gL n A) (gU n A) i k*FF n A b k) fun k _=>(congrArg (·*FF n A b k) ((OE hi).trans (congrArg (fun r=>A r k) e))).symm,Dk,aX (g:=fun t=>gL n A i t*jB (gL n A) (jJ n A b) n t) fun t ht=>congrArg (gL n A i t*·) (uok t ht)]
 have:=lok i hi
 show sm n (fun t=>gL n A i t*jB (gL n A) (jJ n A b) n t)=b r
 rw[<-e];exact this
theorem MY:∀(n:Nat) (c:Nat->Rat) (X:Rat),sm (n+1) (fun k=>X^k*c k)=fN n c X:=by
 intro n
 induction n with
 |zero=>intro c X;show(0:Rat)+X^0*c 0=c 0;rw[Rat.pow_zero];grind
 |succ n ih=>
  intro c X
  rw[lG,fN,<-ih,<-c8,Rat.pow_zero,Rat.one_mul]
  congr 1
  exact aX fun k _=>by rw[Rat.pow_succ];grind
def Ml (g:GV) (X:(Nat->Rat)->Nat->Rat):Prop:=∀z r,r<g.n->sm g.n (fun k=>aQ g r k*X z k)=z r
def Mv (g:GV):Prop:=(elim g.n (aQ g) g.n).gR=0
variable {g:GV} {n:Nat} {A:Nat->Nat->Rat} {y:Nat->Rat}
theorem zg (hk:g.k=1) (hd:∀t,t<g.n->JD (aQ g) t≠0):Ml g fun z=>uZ (aQ g) z g.n:=fun z r hr=>
 NX (fun i j hi hj=>by unfold aQ;rw[if_pos hk,if_pos hk];congr 1;omega) hd g.n (Nat.le_refl _) r hr
theorem G3 (hk:g.k=2) (hd:∀t,t<g.n->JD (aQ (B3 g)) t≠0):Ml g fun z=>MB g.n (uZ (aQ (B3 g)) z g.n):=fun z r hr=>by
 have h:=zg (g:=B3 g) rfl hd z r hr
 rw[<-h,<-N3 (B3 g).n]
 exact aX fun k hk'=>by
  have hk':k<g.n:=hk'
  show aQ g r k*uZ (aQ (B3 g)) z g.n (g.n-1-k)=g.A (r+g.n-1-(g.n-1-k))*uZ (aQ (B3 g)) z g.n (g.n-1-k)
  unfold aQ;rw[if_neg qO,if_pos hk];congr 2;omega
theorem GA {m:Nat} (hn:g.n=m+1) (hk:g.k=4) (hi:j9 g.A g.n):Ml g fun z=>vt g.A m z:=fun z r hr=>by
 rw[hn]at hi hr⊢
 rw[<-Br (x:=g.A) z hi (show r<=m by omega),<-MY]
 exact aX fun k _=>by unfold aQ;rw[if_neg qO,if_neg qO,if_neg qO,if_pos hk]
theorem KP {b c:Nat} (h:gT g b c) (h1:j9 g.A g.n) (h2:j9 g.B g.n):Ml g (Mn g):=fun z r hr=>by
 have hk:=h.k5
 have hc:uR g.n g.A g.B:=⟨h1,h2,fun i k hi hk'=>h.ne i k (by unfold GV.la aE;simp only[hk];exact hi) (by unfold GV.lb aV;simp only[hk];exact hk')⟩
 have e:sm g.n (fun k=>aQ g r k*Mn g z k)=sm g.n fun j=>z j*sm g.n fun k=>1/(g.A r-g.B k)*vn g.A g.B k j g.n:=by
  rw[aX (g:=fun k=>sm g.n fun j=>z j*(1/(g.A r-g.B k)*vn g.A g.B k j g.n)) fun k _=>by
   unfold Mn aQ
   rw[if_neg qO,if_neg qO,if_neg qO,if_neg qO,if_pos hk,<-c8]
   exact aX fun j _=>by grind,xa]
  exact aX fun j _=>c8 _ _ _
 rw[e,aX fun j hj=>by rw[I1 hc hr hj,show(if r=j then(1:Rat)else 0)=if j=r then 1 else 0 by simp only[eq_comm]]]
 exact qU hr z
theorem MX {L U:Nat->Nat->Rat} {z x:Nat->Rat} (lok:∀i,i<n->Po n L z i=y i) (uok:∀i,i<n->Po n U x i=z i) (he:∀i k,i<n->k<n->mulM n L U i k=A i k) {i:Nat} (hi:i<n):
  sm n (fun k=>A i k*x k)=y i:=by
 rw[aX (g:=fun k=>mulM n L U i k*x k) fun k hk=>by rw[he i k hi hk],Dk,aX (g:=fun t=>L i t*z t) fun t ht=>by rw[uok t ht]]
 exact lok i hi
theorem JM (hp:∀t,t<g.n->wi (aQ g) t≠0):Ml g fun z=>qq (iJ (aQ g)) (jB (fT (aQ g)) z g.n) g.n g.n:=fun z r hr=>
 MX (Mm (fun i _=>if_pos rfl) fun i j h _=>by unfold fT;rw[if_neg qO,if_neg qO]) (LR (fun i j _ h=>if_pos h) fun i hi=>by show iJ (aQ g) i i≠0;rw[G6];exact hp i hi) (fun i k hi hk=>Ni hp hi hk) hr
theorem zj {p q:Nat} (hp:p<n) (hq:q<n) (hpq:p≠q) (h:∀k,k<n->A p k=A q k):(elim n A n).gR=0:=by
 apply Classical.byContradiction
 intro hd
 have h1:=IT (y:=fun k=>if k=p then 1 else 0) hd p hp
 have h2:=IT (y:=fun k=>if k=p then 1 else 0) hd q hq
 rw[if_pos rfl,aX fun k hk=>by rw[h k hk],h2,if_neg (Ne.symm hpq)]at h1
 exact absurd h1 qD
theorem FZ {p q:Nat} (hp:p<n) (hq:q<n) (hpq:p≠q) (h:∀i,i<n->A i p=A i q):(elim n A n).gR=0:=by
 apply Classical.byContradiction
 intro hd
 have:=O6 hd (v:=fun k=>(if k=p then 1 else 0)-if k=q then 1 else 0) (fun i hi=>by
  rw[aX (g:=fun k=>A i k*(if k=p then 1 else 0)-A i k*(if k=q then 1 else 0)) fun k _=>by grind,nX,qU hp,qU hq,h i hi];grind) p hp
 rw[if_pos rfl,if_neg hpq]at this
 exact absurd this (by decide+kernel)
theorem not_inj {r:Nat->Rat} {k:Nat} (h:¬j9 r k):∃i j,i<k/\j<k/\i≠j/\r i=r j:=by
 apply Classical.byContradiction
 intro hc
 exact h fun i j hi hj e=>Classical.byContradiction fun ne=>hc ⟨i,j,hi,hj,ne,e⟩
theorem GF (hk:g.k=4) (h:¬j9 g.A g.n):Mv g:=by
 obtain⟨i,j,hi,hj,ne,e⟩:=not_inj h
 exact zj hi hj ne fun k _=>by unfold aQ;simp[hk,e]
theorem JK (hk:g.k=5) (h:¬(j9 g.A g.n/\j9 g.B g.n)):Mv g:=by
 by_cases ha:j9 g.A g.n
 ·obtain⟨i,j,hi,hj,ne,e⟩:=not_inj fun hb=>h ⟨ha,hb⟩
  exact FZ hi hj ne fun k _=>by unfold aQ;simp[hk,e]
 ·obtain⟨i,j,hi,hj,ne,e⟩:=not_inj ha
  exact zj hi hj ne fun k _=>by unfold aQ;simp[hk,e]
end
section
theorem NA.Qi {A:Nat->Nat->Rat} {n b:Nat} (n1:1<=n) (hA:∀i j,i<n->j<n->Bz (A i j) b):NA A n (bb b (n-1)):=fun k hk i j hi hj=>by
 by_cases e:k=n
 ·obtain⟨d,rfl⟩:∃d,n=d+1:=⟨n-1,qO⟩
  rw[e,rF (.inl qO)]
  exact(Mj hA d qO i j hi hj)
 ·exact(Mj hA k hk i j hi hj).mono (sk qO)
theorem BF {g:GV} (h:Wf g 5 13) (h5:g.n<=5):NA (aQ g) g.n 42100:=fun k hk i j hi hj=>
 (NA.Qi (b:=163) h.n1 (fun i j hi hj=>h.AY hi hj) k hk i j hi hj).mono (Nat.le_trans (sk (show g.n-1<=4 by omega)) (by decide+kernel))
theorem Nq {g:GV} (h:Wf g 5 13) (h5:g.n<=5) {i j:Nat} (hi:i<g.n) (hj:j<g.n):Bz (fT (aQ g) i j) 84201:=by
 have hB:=BF h h5
 unfold fT
 split
 ·exact dv.mono qO
 ·split
  ·exact((hB j qO i j hi hj).div (hB j qO j j hj hj)).mono qO
  ·exact cB.mono qO
theorem Np {g:GV} (h:Wf g 5 13) (h5:g.n<=5) {i j:Nat} (hi:i<g.n) (hj:j<g.n):Bz (iJ (aQ g) i j) 42101:=by
 unfold iJ
 split
 ·exact cB.mono qO
 ·exact(BF h h5 i qO i j hi hj).mono qO
theorem MP {g:GV} (h:Wf g 5 13) (h5:g.n<=5):It g.n (aQ g) 42100:=fun k hk i j hi hj=>
 (It.of (b:=163) h.n1 (fun i j hi hj=>h.AY hi hj) k hk i j hi hj).mono (Nat.le_trans (sk (show g.n-1<=4 by omega)) (by decide+kernel))
def Way (f:FuncId) (args:List PV) (g:GV) (y:Nat->Rat):Prop:=
 (∃X:(Nat->Rat)->Nat->Rat,Ml g X/\(∀i,i<g.n->Bz (X y i) 10000000000)/\ae Tryz.prog f args (.bK [.vec 0 3 0 g.n,.p (.int .i64 0)]) [.vec 31 3 (a7 (aH g.n (X y)))])\/
  ∃e:Int,(e=8\/e=9/\Mv g)/\ae Tryz.prog f args (.bK [.p (ar false []),.p (.int .i64 e)]) []
theorem Jd (f:Nat->Rat) (n:Nat):∃K,K<=n/\(∀t,t<K->f t≠0)/\(K<n->f K=0):=by
 induction n with
 |zero=>exact⟨0,Nat.le_refl _,fun t h=>absurd h (Nat.not_lt_zero _),fun h=>absurd h (Nat.not_lt_zero _)⟩
 |succ n ih=>
  obtain⟨K,h1,h2,h3⟩:=ih
  by_cases e:K=n
  ·by_cases z:f n=0
   ·exact⟨n,qO,fun t ht=>h2 t qO,fun _=>z⟩
   ·refine⟨n+1,Nat.le_refl _,fun t ht=>?_,fun h=>absurd h qO⟩
    by_cases et:t=n
    ·rw[et];exact z
    ·exact h2 t qO
  ·exact⟨K,qO,h2,fun _=>h3 qO⟩
theorem B7 (q:Rat) {k:Nat} (hq:Sz q k) (hk:k<=137438953472):ae Tryz.prog 207 [aB q] (.p (.bool false)) []:=by
 refine aW Tryz.func207 ?_
 refine aa.pure (gj q hq hk) ?_
 refine cJ ?_
 exact ab.pure (.tf _)
theorem Fe (m:Bool) (l:List Rat) (hF:∀i,i<l.length->ae Tryz.prog 207 [aB (l.getD i 0)] (.p (.bool false)) []) (hn:l.length<=1099511627776):
  ae Tryz.prog 136 [ar m l,.fn 207 []] (.p (.int .i64 (-1))) []:=by
 refine aW Tryz.func136 ?_
 refine SZ.mk (l.length:Int) qS ?_
 refine aJ.mk Nat (fun i=>([(0,.p (ar m l)),(1,.p (.fn 207 [])),(7,.p (.int .i64 l.length)),(8,.p (.int .i64 i))],[]))
  (fun i=>i<=l.length) (fun i=>l.length-i) 0 [] (Nat.zero_le _) aY ?_
 intro i (h1:i<=l.length)
 by_cases hi:i<l.length
 ·refine bo ?_
  refine aF.rb i rfl hi ?_
  refine aa.pure (pvs:=[aB (l.getD i 0)]) (hF i hi) ?_
  refine fI ?_
  refine a5 (i+1) ?_
  exact⟨i+1,[],hi,cA,aY⟩
 ·refine bd ?_
  exact ab.pure (.p _ (.int _ _))
theorem Gs (m:Bool) (l:List Rat) (hF:∀i,i<l.length->ae Tryz.prog 207 [aB (l.getD i 0)] (.p (.bool false)) []) (hn:l.length<=1099511627776):
  ae Tryz.prog 90 [ar m l,.fn 207 []] (.p (.bool false)) []:=by
 refine aW Tryz.func90 ?_
 refine aa.pure (pvs:=[ar m l,.fn 207 []]) (Fe m l hF hn) ?_
 refine cJ ?_
 exact ab.pure (.tf _)
theorem BX (m:Nat->Bool) (m':Bool) (g:GV) (h:Wf g 5 13) (hk:g.k=3) (n5:g.n<=5) (y:Nat->Rat) (hy:∀i,i<g.n->Bz (y i) 5) (R:AV) (nb:List aA)
  (e1:(wN g.n (aQ g) y).r<g.n->R= .bK [.p (ar false []),.p (.int .i64 9)]/\nb=[]) (e2:(wN g.n (aQ g) y).r=g.n->R= .bK [.vec 0 3 0 g.n,.p (.int .i64 0)]/\nb=[.vec 31 3 (a7 (aH g.n (xD g.n (aQ g) y)))]):
  ae Tryz.prog 189 [dP m g,ar m' (aH g.n y)] R nb:=by
 have n1:=h.n1
 have hs:=fun R nb e1 e2=>wc false false m' g.n (aQ g) y (D:=163) (fun i k hi hk=>h.AY hi hk) (fun i hi=>(hy i hi).mono qD) n1 n5 qD qD R nb e1 e2
 have hf:=yW 3 g.n
 have ho:=Gp m m' g g.n y
 rw[hk]at ho
 have hcf:=Gs m' (aH g.n y) (fun i hi=>by
  rw[bT]at hi
  rw[fh hi];exact B7 (y i) (hy i hi).sz qD) (by rw[bT];omega)
 refine aW Tryz.func189 ?_
 refine gx ?_
 repeat refine aq ?_
 refine ag (aa.pure (ho) af) ?_
 repeat refine aq ?_
 refine ag (aa.pure (hf) af) ?_
 repeat refine aq ?_
 refine cJ ?_
 refine aa.pure (pvs:=[ar m' (aH g.n y),.fn 207 []]) hcf ?_
 refine fI ?_
 refine aa.pure (eI m g h) ?_
 by_cases hr:(wN g.n (aQ g) y).r<g.n
 ·obtain⟨rfl,rfl⟩:=e1 hr
  refine aa.aO (hs _ _ (fun _=>⟨rfl,rfl⟩) (fun e=>absurd e qO)) (fun _=>rfl) ?_
  exact eT (.p _ (.sl _ _ (au []))) (.p _ (.int _ _))
 ·have hr':(wN g.n (aQ g) y).r=g.n:=by
   have:=(m7 (qA (D:=163) (fun i k hi hk=>h.AY hi hk) (fun i hi=>(hy i hi).mono qD)) qD (Nat.le_succ g.n) g.n (Nat.le_refl _)).rn
   have:(wN g.n (aQ g) y).r<=g.n:=this
   omega
  obtain⟨rfl,rfl⟩:=e2 hr'
  refine aa.eC (hs _ _ (fun e=>absurd e hr) (fun _=>⟨rfl,rfl⟩)) ?_
  exact ab.eC 1 rfl (.int _ _) rfl (au _)
abbrev pX (m:Nat->Bool) (m':Bool) (g:GV) (y:Nat->Rat):PV:=.agg [.int .i64 g.k,.int .i64 g.n,.int .i64 g.r,ar (m 0) (aH g.la g.A),ar (m 1) (aH g.lb g.B),ar (m 2) (aH g.lh g.G),ar (m 3) (aH g.lh g.H),ar m' (aH g.n y)]
structure Sys (g:GV) (y:Nat->Rat):Prop where
 wf:Wf g 5 13
 n5:g.n<=5
 hy:∀i,i<g.n->Bz (y i) 5
variable {g:GV} {y:Nat->Rat}
theorem Sys.hA (h:Sys g y):∀i j,i<g.n->j<g.n->Bz (aQ g i j) 163:=fun i j hi hj=>h.wf.AY hi hj
theorem HS (m:Nat->Bool) (m':Bool) (h:Sys g y) (hk:g.k=1):Way 165 [pX m m' g y] g y:=by
 obtain⟨K,h1,h2,h3⟩:=Jd (JD (aQ g)) g.n
 have hl:=tv m m' g h.wf hk h.n5 y h.hA h.hy K h1 h2 h3
 by_cases hK:K<g.n
 ·have hl:=hl _ _ (fun _=>⟨rfl,rfl⟩) (fun e=>absurd e qO)
  refine .inr ⟨8,.inl rfl,?_⟩
  refine aW Tryz.func165 ?_
  refine aa.aO (hl) (fun _=>rfl) ?_
  exact eT (.p _ (.sl _ _ (au []))) (.p _ (.int _ _))
 ·have hl:=hl _ _ (fun e=>absurd e hK) (fun _=>⟨rfl,rfl⟩)
  refine .inl ⟨fun z=>uZ (aQ g) z g.n,zg hk fun t ht=>h2 t qO,fun i hi=>(Be h.n5 h.hA qD qD h.hy g.n (Nat.le_refl _) i hi).mono (by have:=(oh (D:=163) qD h.n5).2;omega),?_⟩
  refine aW Tryz.func165 ?_
  refine aa.kF hl ?_
  exact ab.eC 1 rfl (.int _ _) rfl (au _)
theorem Ix (m:Nat->Bool) (m':Bool) (h:Sys g y) (hk:g.k=2):Way 166 [pX m m' g y] g y:=by
 obtain⟨K,h1,h2,h3⟩:=Jd (JD (aQ (B3 g))) g.n
 have hl:=AZ m m' g h.wf hk h.n5 y h.hy K h1 h2 h3
 have w:=HA h.wf hk
 by_cases hK:K<g.n
 ·have hl:=hl _ _ (fun _=>⟨rfl,rfl⟩) (fun e=>absurd e qO)
  refine .inr ⟨8,.inl rfl,?_⟩
  refine aW Tryz.func166 ?_
  refine aa.aO (hl) (fun _=>rfl) ?_
  exact eT (.p _ (.sl _ _ (au []))) (.p _ (.int _ _))
 ·have hl:=hl _ _ (fun e=>absurd e hK) (fun _=>⟨rfl,rfl⟩)
  refine .inl ⟨fun z=>MB g.n (uZ (aQ (B3 g)) z g.n),G3 hk fun t ht=>h2 t qO,fun i hi=>(Be (n:=g.n) (D:=163) h.n5 (fun i j hi hj=>w.AY hi hj) qD qD h.hy g.n (Nat.le_refl _) (g.n-1-i) qO).mono (by have:=(oh (D:=163) qD h.n5).2;omega),?_⟩
  refine aW Tryz.func166 ?_
  refine aa.kF hl ?_
  exact ab.eC 1 rfl (.int _ _) rfl (au _)
theorem F4 (m:Nat->Bool) (m':Bool) (h:Sys g y) (hk:g.k=3):Way 167 [pX m m' g y] g y:=by
 have hc:=BX m m' g h.wf hk h.n5 y h.hy
 by_cases hr:(wN g.n (aQ g) y).r<g.n
 ·have hc:=hc _ _ (fun _=>⟨rfl,rfl⟩) (fun e=>absurd e qO)
  refine .inr ⟨9,.inr ⟨rfl,Classical.byContradiction fun hd=>by have:=qP (y:=y).2 hd;omega⟩,?_⟩
  refine aW Tryz.func167 ?_
  refine aa.aO (hc) (fun _=>rfl) ?_
  exact eT (.p _ (.sl _ _ (au []))) (.p _ (.int _ _))
 ·have hr':(wN g.n (aQ g) y).r=g.n:=by
   have:=(m7 (qA (D:=163) h.hA (fun i hi=>(h.hy i hi).mono qD)) qD (Nat.le_succ g.n) g.n (Nat.le_refl _)).rn
   have:(wN g.n (aQ g) y).r<=g.n:=this
   omega
  have hc:=hc _ _ (fun e=>absurd e hr) (fun _=>⟨rfl,rfl⟩)
  refine .inl ⟨xD g.n (aQ g),fun z=>G8 (qP.2 (qP.1 hr')),fun i hi=>(LV (D:=163) h.hA (fun i hi=>(h.hy i hi).mono qD) qD qD h.n5 i hi).mono qD,?_⟩
  refine aW Tryz.func167 ?_
  refine aa.eC hc ?_
  exact ab.eC 1 rfl (.int _ _) rfl (au _)
theorem EH (m:Nat->Bool) (m':Bool) (h:Sys g y):(∃X:(Nat->Rat)->Nat->Rat,Ml g X/\(∀i,i<g.n->Bz (X y i) 10000000000)/\ae Tryz.prog 130 [pX m m' g y] (.bK [.vec 0 3 0 g.n,.p (.int .i64 0)]) [.vec 31 3 (a7 (aH g.n (X y)))])\/
  ∃e:Int,(e=9/\Mv g)/\ae Tryz.prog 130 [pX m m' g y] (.bK [.p (ar false []),.p (.int .i64 e)]) []:=by
 have hs:=fun R nb e1 e2=>wc false false m' g.n (aQ g) y (D:=163) h.hA (fun i hi=>(h.hy i hi).mono qD) h.wf.n1 h.n5 qD qD R nb e1 e2
 by_cases hr:(wN g.n (aQ g) y).r<g.n
 ·have hc:=hs _ _ (fun _=>⟨rfl,rfl⟩) (fun e=>absurd e qO)
  refine .inr ⟨9,⟨rfl,Classical.byContradiction fun hd=>by have:=qP (y:=y).2 hd;omega⟩,?_⟩
  refine aW Tryz.func130 ?_
  refine cS ?_
  repeat refine aq ?_
  refine ag (aa.pure (eI m g h.wf) af) ?_
  repeat refine aq ?_
  refine ag (aa.aO (hc) (fun _=>rfl) af) ?_
  repeat refine aq ?_
  refine cX ?_
  exact eT (.p _ (.sl _ _ (au []))) (.p _ (.int _ _))
 ·have hr':(wN g.n (aQ g) y).r=g.n:=by
   have:=(m7 (qA (D:=163) h.hA (fun i hi=>(h.hy i hi).mono qD)) qD (Nat.le_succ g.n) g.n (Nat.le_refl _)).rn
   have:(wN g.n (aQ g) y).r<=g.n:=this
   omega
  have hc:=hs _ _ (fun e=>absurd e hr) (fun _=>⟨rfl,rfl⟩)
  refine .inl ⟨xD g.n (aQ g),fun z=>G8 (qP.2 (qP.1 hr')),fun i hi=>(LV (D:=163) h.hA (fun i hi=>(h.hy i hi).mono qD) qD qD h.n5 i hi).mono qD,?_⟩
  refine aW Tryz.func130 ?_
  refine cS ?_
  repeat refine aq ?_
  refine ag (aa.pure (eI m g h.wf) af) ?_
  repeat refine aq ?_
  refine ag (aa.eC hc af) ?_
  repeat refine aq ?_
  refine cX ?_
  exact ab.eC 1 rfl (.int _ _) rfl (au _)
theorem yt {n:Nat} {x y:Nat->Rat}:fx (aH (n+1) x) (aH (n+1) y)=if(aH (n+1) x).Nodup then 0 else 9:=by
 unfold fx;rw[bT,bT,if_neg qO]
theorem Ao (m m':Bool) (x f:List Rat) {s:Nat} (hx:Bl x s) (hs:s+s<=1048576) (hn:x.length<=1000000000) (h:fx x f≠0):ae Tryz.prog 190 [ar m x,ar m' f] (.bK [.p (ar false []),.p (.int .i64 (fx x f))]) []:=by
 have hd:=KY 209 m m' x f hx hs qO [] fun e=>absurd e h
 rw[if_neg h]at hd
 refine aW Tryz.func190 ?_
 refine aa.aO (pvs:=[ar m x,ar m' f,.fn 209 []]) hd (fun _=>rfl) ?_
 exact eT (.p _ (.sl _ _ (au []))) (.p _ (.int _ _))
theorem IM (m:Nat->Bool) (m':Bool) (h:Sys g y) (hk:g.k=4):Way 168 [pX m m' g y] g y:=by
 have hla:g.la=g.n:=by unfold GV.la aE;rw[hk];rfl
 have n1:=h.wf.n1
 have n5:=h.n5
 obtain⟨n,hn⟩:∃n,g.n=n+1:=⟨g.n-1,qO⟩
 have hx:∀i,i<n+1->Bz (g.A i) 5:=fun i hi=>h.wf.bA i qO
 have hf:∀i,i<n+1->Bz (y i) 5:=fun i hi=>h.hy i qO
 have hb:bs (2*5+2) 5 (n+n+1)<=1048576:=Nat.le_trans (mT (show n+n+1<=9 by omega)) qD
 by_cases hr:fx (aH (n+1) g.A) (aH (n+1) y)=0
 ·have ht:=yD (m 0) m' n g.A y (s:=5) (b:=5) hx hf qD hb qO hr
  rw[<-hn,show aH g.n g.A=aH g.la g.A by rw[hla]]at ht
  refine .inl ⟨fun z=>vt g.A n z,GA hn hk (hn▸vA.1 (re hr).2.2),fun i hi=>(NG (s:=5) (b:=5) hx hf i qO).mono (Nat.le_trans (Nat.le_trans (mT (show n+n<=n+n+1 by omega)) hb) qD),?_⟩
  refine aW Tryz.func168 ?_
  refine aa.eC ht ?_
  exact ab.eC 1 rfl (.int _ _) rfl (au _)
 ·have ht:=Ao (m 0) m' (aH (n+1) g.A) (aH (n+1) y) (s:=5) (Bl.aH hx) qD (by rw[bT];omega) hr
  have hi:¬(aH (n+1) g.A).Nodup:=fun h=>hr (by rw[yt,if_pos h])
  rw[yt,if_neg hi,<-hn,show aH g.n g.A=aH g.la g.A by rw[hla]]at ht
  refine .inr ⟨9,.inr ⟨rfl,GF hk fun h=>hi (vA.2 (hn▸h))⟩,?_⟩
  refine aW Tryz.func168 ?_
  refine aa.aO (ht) (fun _=>rfl) ?_
  exact eT (.p _ (.sl _ _ (au []))) (.p _ (.int _ _))
theorem Bw (m:Nat->Bool) (m':Bool) (h:Sys g y) (hk:g.k=5):Way 169 [pX m m' g y] g y:=by
 have hc:gT g 5 13:={h.wf with k5:=hk}
 by_cases ht:j9 g.A g.n/\j9 g.B g.n
 ·have hs:=Bd m m' g hc ht.1 ht.2 y (fun i hi=>(h.hy i hi).mono qD)
  refine .inl ⟨Mn g,KP hc ht.1 ht.2,fun i hi=>?_,?_⟩
  ·have:=gB (F:=fun k=>AQ g i k*y k) (n:=g.n) (fun k hk=>(Cv hc hi hk).mul (h.hy k hk)) g.n (Nat.le_refl _)
   have e:g.n*(5400+5+1)<=5*(5400+5+1):=Nat.mul_le_mul_right _ h.n5
   exact this.mono (Nat.le_trans (Nat.add_le_add_right e 1) qD)
  ·refine aW Tryz.func169 ?_
   refine aa.eC hs ?_
   exact ab.eC 1 rfl (.int _ _) rfl (au _)
 ·have hs:=yc m m' g hc y ht
  refine .inr ⟨9,.inr ⟨rfl,JK hk ht⟩,?_⟩
  refine aW Tryz.func169 ?_
  refine aa.aO (hs) (fun _=>rfl) ?_
  exact eT (.p _ (.sl _ _ (au []))) (.p _ (.int _ _))
theorem AR (m:Nat->Bool) (m':Bool) (h:Sys g y) (hk:g.k=7):Way 131 [pX m m' g y] g y:=by
 ·have hB:=MP h.wf h.n5
  rcases Cr g.n (aQ g)with hp|⟨K,hK,hp,hz⟩
  ·have f1:=Cj m g h.wf hk hB qD qD hp
   obtain⟨f2,f3⟩:=Bn m' g.n (aQ g) y h.wf.n1 h.n5 hB hp h.hy
   refine .inl ⟨FF g.n (aQ g),fun z=>JP hp,fun i hi=>(f3 i hi).mono qD,?_⟩
   refine aW Tryz.func131 ?_
   refine aa.aO (f1) (fun _=>rfl) ?_
   refine cJ ?_
   refine aa.eC f2 ?_
   exact ab.eC 2 rfl (.int _ _) rfl (au _)
  ·have f1:=As m g h.wf hk hB qD qD hK hp hz
   refine .inr ⟨9,.inr ⟨rfl,KU hK hp hz⟩,?_⟩
   refine aW Tryz.func131 ?_
   refine aa.aO (f1) (fun _=>rfl) ?_
   refine ir ?_
   exact eT (.emp 3) (.p _ (.int _ _))
theorem uW (m:Nat->Bool) (m':Bool) (h:Sys g y):Way 170 [pX m m' g y] g y:=by
 have hB:=BF h.wf h.n5
 have n1:=h.wf.n1
 have n5:=h.n5
 obtain⟨b1,b2,b3⟩:=vU (aQ g) g.n
 by_cases hz:zX (aQ g) g.n<g.n
 ·have f1:=zn m g h.wf hB qD hz
  refine .inr ⟨8,.inl rfl,?_⟩
  refine aW Tryz.func170 ?_
  refine aa.aO (f1) (fun _=>rfl) ?_
  refine ir ?_
  exact eT (.emp 3) (.p _ (.int _ _))
 ·have hp:∀t,t<g.n->wi (aQ g) t≠0:=fun t ht=>b2 t qO
  have f1:=B9 m g h.wf hB qD hp
  have zL:∀i j,i<g.n->j<g.n->Bz (fT (aQ g) i j) 84201:=fun i j hi hj=>Nq h.wf n5 hi hj
  have zU:∀i j,i<g.n->j<g.n->Bz (iJ (aQ g) i j) 21000000:=fun i j hi hj=>(Np h.wf n5 hi hj).mono qD
  have e1:uP 84201 4<=21000000:=by decide+kernel
  have e2:uP 21000000 4<=5000000000:=by decide+kernel
  have lX:∀k,k<=g.n->∀i,i<k->Bz (jB (fT (aQ g)) y k i) 21000000:=fun k hk i hi=>(L1 zL (fun i hi=>(h.hy i hi).mono qD) k hk i hi).mono (Nat.le_trans (mQ qO) e1)
  have hlo:=t7 false false m' g.n (fT (aQ g)) y qO zL (fun i hi=>(h.hy i hi).mono qD) lX qO
  have zz:∀i,i<g.n->Bz (jB (fT (aQ g)) y g.n i) 21000000:=fun i hi=>lX g.n (Nat.le_refl _) i hi
  have uX:∀t,t<=g.n->∀i,g.n<=i+t->i<g.n->Bz (qq (iJ (aQ g)) (jB (fT (aQ g)) y g.n) g.n t i) 5000000000:=fun t ht i h1 h2=>(Mo zU zz t ht i h1 h2).mono (Nat.le_trans (mQ qO) e2)
  have hup:=sM false false false g.n g.n (iJ (aQ g)) (jB (fT (aQ g)) y g.n) qO zU zz uX qO (Nat.le_refl _) (fun t ht=>by
   have:=hp (g.n-1-t) qO
   show(if _ then _ else _)≠_
   rw[if_neg (Nat.lt_irrefl _)];exact this) (fun h=>absurd h (Nat.lt_irrefl _)) _ _ (fun h=>absurd h (Nat.lt_irrefl _)) (fun _=>⟨rfl,rfl⟩)
  refine .inl ⟨fun z=>qq (iJ (aQ g)) (jB (fT (aQ g)) z g.n) g.n g.n,JM hp,fun i hi=>(uX g.n (Nat.le_refl _) i qO hi).mono qD,?_⟩
  refine aW Tryz.func170 ?_
  refine aa.aO (f1) (fun _=>rfl) ?_
  refine cJ ?_
  refine aa.pure (hlo) ?_
  refine aa.eC hup ?_
  exact ab.eC 1 rfl (.int _ _) rfl (au _)
end
section
variable {g:GV} {y:Nat->Rat}
theorem Ep (m:Nat->Bool) (m':Bool) (h:Sys g y):Way 132 [pX m m' g y] g y:=by
 have hkk:g.k=1\/g.k=2\/g.k=3\/g.k=4\/g.k=5\/g.k=6\/g.k=7:=by have:=h.wf.k1;have:=h.wf.k7;omega
 rcases hkk with hk|hk|hk|hk|hk|hk|hk
 ·rcases HS m m' h hk with⟨X,hS,hx,hc⟩|⟨e,he,hc⟩
  ·refine .inl ⟨X,hS,hx,?_⟩
   refine aW Tryz.func132 ?_
   iterate 7 refine bn.all rfl<|dZ.add rfl ?_
   refine bn.all rfl<|eo.at 0 (.int .i64 1,.lp 165 [pX m m' g y]) rfl ?_ ?_ ?_
   ·rw[hk];rfl
   ·rw[hk];rfl
   refine aa.eC hc ?_
   exact ab.eC 2 rfl (.int _ _) rfl (au _)
  ·refine .inr ⟨e,he,?_⟩
   refine aW Tryz.func132 ?_
   iterate 7 refine bn.all rfl<|dZ.add rfl ?_
   refine bn.all rfl<|eo.at 0 (.int .i64 1,.lp 165 [pX m m' g y]) rfl ?_ ?_ ?_
   ·rw[hk];rfl
   ·rw[hk];rfl
   refine aa.aO (hc) (fun _=>rfl) ?_
   exact eT (.p _ (.sl _ _ (au []))) (.p _ (.int _ _))
 ·rcases Ix m m' h hk with⟨X,hS,hx,hc⟩|⟨e,he,hc⟩
  ·refine .inl ⟨X,hS,hx,?_⟩
   refine aW Tryz.func132 ?_
   iterate 7 refine bn.all rfl<|dZ.add rfl ?_
   refine bn.all rfl<|eo.at 1 (.int .i64 2,.lp 166 [pX m m' g y]) rfl ?_ ?_ ?_
   ·rw[hk];rfl
   ·rw[hk];rfl
   refine aa.eC hc ?_
   exact ab.eC 2 rfl (.int _ _) rfl (au _)
  ·refine .inr ⟨e,he,?_⟩
   refine aW Tryz.func132 ?_
   iterate 7 refine bn.all rfl<|dZ.add rfl ?_
   refine bn.all rfl<|eo.at 1 (.int .i64 2,.lp 166 [pX m m' g y]) rfl ?_ ?_ ?_
   ·rw[hk];rfl
   ·rw[hk];rfl
   refine aa.aO (hc) (fun _=>rfl) ?_
   exact eT (.p _ (.sl _ _ (au []))) (.p _ (.int _ _))
 ·rcases F4 m m' h hk with⟨X,hS,hx,hc⟩|⟨e,he,hc⟩
  ·refine .inl ⟨X,hS,hx,?_⟩
   refine aW Tryz.func132 ?_
   iterate 7 refine bn.all rfl<|dZ.add rfl ?_
   refine bn.all rfl<|eo.at 2 (.int .i64 3,.lp 167 [pX m m' g y]) rfl ?_ ?_ ?_
   ·rw[hk];rfl
   ·rw[hk];rfl
   refine aa.eC hc ?_
   exact ab.eC 2 rfl (.int _ _) rfl (au _)
  ·refine .inr ⟨e,he,?_⟩
   refine aW Tryz.func132 ?_
   iterate 7 refine bn.all rfl<|dZ.add rfl ?_
   refine bn.all rfl<|eo.at 2 (.int .i64 3,.lp 167 [pX m m' g y]) rfl ?_ ?_ ?_
   ·rw[hk];rfl
   ·rw[hk];rfl
   refine aa.aO (hc) (fun _=>rfl) ?_
   exact eT (.p _ (.sl _ _ (au []))) (.p _ (.int _ _))
 ·rcases IM m m' h hk with⟨X,hS,hx,hc⟩|⟨e,he,hc⟩
  ·refine .inl ⟨X,hS,hx,?_⟩
   refine aW Tryz.func132 ?_
   iterate 7 refine bn.all rfl<|dZ.add rfl ?_
   refine bn.all rfl<|eo.at 3 (.int .i64 4,.lp 168 [pX m m' g y]) rfl ?_ ?_ ?_
   ·rw[hk];rfl
   ·rw[hk];rfl
   refine aa.eC hc ?_
   exact ab.eC 2 rfl (.int _ _) rfl (au _)
  ·refine .inr ⟨e,he,?_⟩
   refine aW Tryz.func132 ?_
   iterate 7 refine bn.all rfl<|dZ.add rfl ?_
   refine bn.all rfl<|eo.at 3 (.int .i64 4,.lp 168 [pX m m' g y]) rfl ?_ ?_ ?_
   ·rw[hk];rfl
   ·rw[hk];rfl
   refine aa.aO (hc) (fun _=>rfl) ?_
   exact eT (.p _ (.sl _ _ (au []))) (.p _ (.int _ _))
 ·rcases Bw m m' h hk with⟨X,hS,hx,hc⟩|⟨e,he,hc⟩
  ·refine .inl ⟨X,hS,hx,?_⟩
   refine aW Tryz.func132 ?_
   iterate 7 refine bn.all rfl<|dZ.add rfl ?_
   refine bn.all rfl<|eo.at 4 (.int .i64 5,.lp 169 [pX m m' g y]) rfl ?_ ?_ ?_
   ·rw[hk];rfl
   ·rw[hk];rfl
   refine aa.eC hc ?_
   exact ab.eC 2 rfl (.int _ _) rfl (au _)
  ·refine .inr ⟨e,he,?_⟩
   refine aW Tryz.func132 ?_
   iterate 7 refine bn.all rfl<|dZ.add rfl ?_
   refine bn.all rfl<|eo.at 4 (.int .i64 5,.lp 169 [pX m m' g y]) rfl ?_ ?_ ?_
   ·rw[hk];rfl
   ·rw[hk];rfl
   refine aa.aO (hc) (fun _=>rfl) ?_
   exact eT (.p _ (.sl _ _ (au []))) (.p _ (.int _ _))
 ·rcases uW m m' h with⟨X,hS,hx,hc⟩|⟨e,he,hc⟩
  ·refine .inl ⟨X,hS,hx,?_⟩
   refine aW Tryz.func132 ?_
   iterate 7 refine bn.all rfl<|dZ.add rfl ?_
   refine bn.all rfl<|eo.at 5 (.int .i64 6,.lp 170 [pX m m' g y]) rfl ?_ ?_ ?_
   ·rw[hk];rfl
   ·rw[hk];rfl
   refine aa.eC hc ?_
   exact ab.eC 2 rfl (.int _ _) rfl (au _)
  ·refine .inr ⟨e,he,?_⟩
   refine aW Tryz.func132 ?_
   iterate 7 refine bn.all rfl<|dZ.add rfl ?_
   refine bn.all rfl<|eo.at 5 (.int .i64 6,.lp 170 [pX m m' g y]) rfl ?_ ?_ ?_
   ·rw[hk];rfl
   ·rw[hk];rfl
   refine aa.aO (hc) (fun _=>rfl) ?_
   exact eT (.p _ (.sl _ _ (au []))) (.p _ (.int _ _))
 ·rcases AR m m' h hk with⟨X,hS,hx,hc⟩|⟨e,he,hc⟩
  ·refine .inl ⟨X,hS,hx,?_⟩
   refine aW Tryz.func132 ?_
   iterate 7 refine bn.all rfl<|dZ.add rfl ?_
   refine bn.all rfl<|eo.at 6 (.int .i64 7,.lp 131 [pX m m' g y]) rfl ?_ ?_ ?_
   ·rw[hk];rfl
   ·rw[hk];rfl
   refine aa.eC hc ?_
   exact ab.eC 2 rfl (.int _ _) rfl (au _)
  ·refine .inr ⟨e,he,?_⟩
   refine aW Tryz.func132 ?_
   iterate 7 refine bn.all rfl<|dZ.add rfl ?_
   refine bn.all rfl<|eo.at 6 (.int .i64 7,.lp 131 [pX m m' g y]) rfl ?_ ?_ ?_
   ·rw[hk];rfl
   ·rw[hk];rfl
   refine aa.aO (hc) (fun _=>rfl) ?_
   exact eT (.p _ (.sl _ _ (au []))) (.p _ (.int _ _))
def Pe (f:FuncId) (args:List PV) (g:GV) (y:Nat->Rat):Prop:=
 (∃(X:(Nat->Rat)->Nat->Rat) (b:Int),Ml g X/\(∀i,i<g.n->Bz (X y i) 10000000000)/\ae Tryz.prog f args (.bK [.vec 0 3 0 g.n,.p (.int .i64 b),.p (.int .i64 0)]) [.vec 31 3 (a7 (aH g.n (X y)))])\/
  ∃b:Int,Mv g/\ae Tryz.prog f args (.bK [.p (ar false []),.p (.int .i64 b),.p (.int .i64 9)]) []
theorem M8 (m:Nat->Bool) (m':Bool) (h:Sys g y):Pe 77 [pX m m' g y,.int .i64 3] g y:=by
 rcases Ep m m' h with⟨X,hS,hx,hc⟩|⟨e,rfl|⟨rfl,hs⟩,hc⟩
 ·refine .inl ⟨X,1,hS,hx,?_⟩
  refine aW Tryz.func77 ?_
  refine cJ ?_
  refine cJ ?_
  refine cJ ?_
  refine ir ?_
  refine aa.eC hc ?_
  refine cJ ?_
  exact ab.kF 1 rfl (.int _ _) (.int _ _) rfl (au _)
 ·rcases EH m m' h with⟨X,hS,hx,h0⟩|⟨e,he,h0⟩
  ·have hb:ae Tryz.prog 77 [pX m m' g y,.int .i64 0] (.bK [.vec 0 3 0 g.n,.p (.int .i64 0),.p (.int .i64 0)]) [.vec 31 3 (a7 (aH g.n (X y)))]:=by
    refine aW Tryz.func77 ?_
    refine ir ?_
    refine aa.eC h0 ?_
    exact ab.kF 1 rfl (.int _ _) (.int _ _) rfl (au _)
   refine .inl ⟨X,0,hS,hx,?_⟩
   refine aW Tryz.func77 ?_
   refine cJ ?_
   refine cJ ?_
   refine cJ ?_
   refine ir ?_
   refine aa.aO (hc) (fun _=>rfl) ?_
   refine ir ?_
   refine aa.kF hb ?_
   exact ab.kF 1 rfl (.int _ _) (.int _ _) rfl (au _)
  ·obtain⟨rfl,hs⟩:=he
   have hb:ae Tryz.prog 77 [pX m m' g y,.int .i64 0] (.bK [.p (ar false []),.p (.int .i64 0),.p (.int .i64 9)]) []:=by
    refine aW Tryz.func77 ?_
    refine ir ?_
    refine aa.aO (h0) (fun _=>rfl) ?_
    exact yl (.p _ (.sl _ _ (au []))) (.p _ (.int _ _)) (.p _ (.int _ _))
   refine .inr ⟨0,hs,?_⟩
   refine aW Tryz.func77 ?_
   refine cJ ?_
   refine cJ ?_
   refine cJ ?_
   refine ir ?_
   refine aa.aO (hc) (fun _=>rfl) ?_
   refine ir ?_
   refine aa.aO (hb) (fun _=>rfl) ?_
   exact yl (.p _ (.sl _ _ (au []))) (.p _ (.int _ _)) (.p _ (.int _ _))
 ·refine .inr ⟨1,hs,?_⟩
  refine aW Tryz.func77 ?_
  refine cJ ?_
  refine cJ ?_
  refine cJ ?_
  refine ir ?_
  refine aa.aO (hc) (fun _=>rfl) ?_
  refine cJ ?_
  exact yl (.p _ (.sl _ _ (au []))) (.p _ (.int _ _)) (.p _ (.int _ _))
theorem FK (m:Nat->Bool) (m':Bool) (h:Sys g y):Pe 34 [dP m g,ar m' (aH g.n y),.int .i64 3] g y:=by
 have n5:=h.n5
 rcases M8 m m' h with⟨X,b,hS,hx,hc⟩|⟨b,hs,hc⟩
 ·refine .inl ⟨X,b,hS,hx,?_⟩
  refine aW Tryz.func34 ?_
  refine SZ.mk (g.n:Int) (by simp[aH]) ?_
  refine ao.no qS ?_
  refine aa.pure (jj m g h.wf) ?_
  refine cJ ?_
  refine SZ.mk (g.n:Int) (by simp[aH]) ?_
  refine aJ.mk Nat (fun i=>([(1,.p (ar m' (aH g.n y))),(2,.p (.int .i64 3)),(3,.aC 0 0),(21,.p (ar m' (aH g.n y))),(22,.p (.int .i64 g.n)),(23,.p (.int .i64 i))],[.box 26 (jF m g)]))
   (fun i=>i<=g.n) (fun i=>g.n-i) 0 [0] (Nat.zero_le _) aY ?_
  intro i (hi:i<=g.n)
  by_cases h1:i<g.n
  ·refine bo ?_
   refine aF.rf i rfl h1 ?_
   refine aa.pure (gj (y i) (h.hy i h1).sz qO) ?_
   refine cJ ?_
   refine a5 (i+1) ?_
   exact⟨i+1,[0],h1,cA,aY⟩
  refine bd ?_
  refine aa.kF hc ?_
  refine cJ ?_
  exact ab.kF 1 rfl (.int _ _) (.int _ _) rfl (au _)
 ·refine .inr ⟨0,hs,?_⟩
  refine aW Tryz.func34 ?_
  refine SZ.mk (g.n:Int) (by simp[aH]) ?_
  refine ao.no qS ?_
  refine aa.pure (jj m g h.wf) ?_
  refine cJ ?_
  refine SZ.mk (g.n:Int) (by simp[aH]) ?_
  refine aJ.mk Nat (fun i=>([(1,.p (ar m' (aH g.n y))),(2,.p (.int .i64 3)),(3,.aC 0 0),(21,.p (ar m' (aH g.n y))),(22,.p (.int .i64 g.n)),(23,.p (.int .i64 i))],[.box 26 (jF m g)]))
   (fun i=>i<=g.n) (fun i=>g.n-i) 0 [0] (Nat.zero_le _) aY ?_
  intro i (hi:i<=g.n)
  by_cases h1:i<g.n
  ·refine bo ?_
   refine aF.rf i rfl h1 ?_
   refine aa.pure (gj (y i) (h.hy i h1).sz qO) ?_
   refine cJ ?_
   refine a5 (i+1) ?_
   exact⟨i+1,[0],h1,cA,aY⟩
  refine bd ?_
  refine aa.aO (hc) (fun _=>rfl) ?_
  refine ir ?_
  exact yl (.emp 3) (.p _ (.int _ _)) (.p _ (.int _ _))
end
abbrev vj (n:Nat) (c:Nat->Nat):List PV:=fl n fun i=>.int .u64 ((c i:Nat):Int)
abbrev Mf (f:Nat):Prop:=dY f (iM f)
theorem Fj (m:Bool) (n:Nat) (c:Nat->Nat) (hc:∀i,i<n->Mf (c i)) (hn:n<=1000):ae Tryz.prog 41 [.sl m 1 (vj n c)] (.bK [.p (ar false (aH n fun i=>iM (c i))),.p (.int .i64 0)]) []:=by
 refine aW Tryz.func41 ?_
 refine SZ.mk (n:Int) qS ?_
 refine SZ.mk (n:Int) rfl ?_
 refine cm.mk qS ?_
 refine cy.rat n rfl qO ?_
 refine SZ.mk (n:Int) qS ?_
 refine aJ.mk Nat (fun i=>([(4,.vec 0 3 0 n),(12,.p (.sl m 1 (vj n c))),(13,.p (.int .i64 n)),(14,.p (.int .i64 i))],[.vec 31 3 (fl n fun k=>if k<i then aB (iM (c k))else cU)]))
  (fun i=>i<=n) (fun i=>n-i) 0 [0] (Nat.zero_le _) (aY ⟨congrArg _ ((aU fun k hk=>if_neg qO).trans (bQ n cU).symm),trivial⟩) ?_
 intro i (hi:i<=n)
 by_cases hin:i<n
 ·refine bo ?_
  have h:=hc i hin
  refine aF.fl i _ rfl hin rfl ?_
  refine aa.aO (pR (c i) h.lt h.nan h.inf) (fun _=>rfl) ?_
  refine cJ ?_
  refine aK.mk i rfl hin ?_
  refine cm.mk (by simp;omega)<|dp.mk _ (eQ (f:=fun k=>iM (c k)) hin) ?_
  refine a5 (i+1) ?_
  exact⟨i+1,[0],hin,cA,aY⟩
 ·refine bd ?_
  obtain rfl:i=n:=qO
  exact ab.pure (.bK rfl fun t c' d e1 e2=>by
   match t,e1,e2 with
   |0,e1,e2=>cases e1;cases e2;exact EL (l:=aH i fun k=>iM (c k)) uw (by simp[aH])
   |1,e1,e2=>cases e1;cases e2;exact .p _ (.int _ _))
def gz (n:Nat) (A:Nat->Nat->Rat) (b v:Nat->Rat) (i:Nat):Rat:=uE n A v i-b i
def rm (n:Nat) (A:Nat->Nat->Rat) (b v:Nat->Rat):Rat:=qC A n n*jY v n+jY b n
def nD (n:Nat) (A:Nat->Nat->Rat) (b v:Nat->Rat):Rat:=jY (gz n A b v) n/rm n A b v
theorem GI {f:Nat->Rat}:∀n,(sm n f).abs<=sm n fun i=>(f i).abs
 |0=>(by decide+kernel:(0:Rat).abs<=0)
 |n+1=>by
  have h1:=GI (f:=f) n
  have h2:=l6 (sm n f) (-(f n))
  show(sm n f+f n).abs<=_+_
  rw[Rat.abs_neg]at h2
  rw[show sm n f- -(f n)=sm n f+f n by grind]at h2
  exact Rat.le_trans h2 (by grind)
theorem CJ {f g:Nat->Rat}:∀{n:Nat},(∀i,i<n->f i<=g i)->sm n f<=sm n g
 |0,_=>Rat.le_refl
 |n+1,h=>by have h1:=CJ fun i hi=>h i (Nat.lt_succ_of_lt hi);have h2:=h n (Nat.lt_succ_self n);show _+_<=_+_;grind
theorem Hg {n:Nat} {A:Nat->Nat->Rat} {w:Nat->Rat} {u:Rat} (hw:∀k,k<n->(w k).abs<=u) (hu:0<=u) {i:Nat} (hi:i<n):(sm n fun k=>A i k*w k).abs<=qC A n n*u:=by
 refine Rat.le_trans (GI n) ?_
 have h1:sm n (fun k=>(A i k*w k).abs)<=sm n fun k=>u*(A i k).abs:=CJ fun k hk=>by
  rw[yH,Rat.mul_comm]
  exact Rat.mul_le_mul_of_nonneg_right (hw k hk) Rat.abs_nonneg
 rw[c8,Rat.mul_comm]at h1
 exact Rat.le_trans h1 (Rat.mul_le_mul_of_nonneg_right ((jq (f:=yr A n) n).2 i hi) hu)
theorem J2 {n:Nat} {A:Nat->Nat->Rat} {b v:Nat->Rat} {i:Nat} (hi:i<n):(gz n A b v i).abs<=rm n A b v:=by
 have h1:=l6 (uE n A v i) (b i)
 have h2:=Hg (A:=A) (w:=v) (u:=jY v n) (fun k hk=>(jq (f:=fun i=>(v i).abs) n).2 k hk) (jq n).1 hi
 have h3:=(jq (f:=fun i=>(b i).abs) n).2 i hi
 have h2:(uE n A v i).abs<=_:=h2
 exact Rat.le_trans h1 (by unfold rm;grind)
theorem xl (m m' mb mx:Bool) (n:Nat) (A:Nat->Nat->Rat) (b:Nat->Rat) (c:Nat->Nat) (hA:∀i j,i<n->j<n->Bz (A i j) 163) (hb:∀i,i<n->Bz (b i) 5) (hc:∀i,i<n->Mf (c i)) (hv:∀i,i<n->Bz (iM (c i)) 1080) (h0:0<n) (hn:n<=5):
  ae Tryz.prog 13 [cn m m' n n A,ar mb (aH n b),.sl mx 1 (vj n c)] (.bK [.p (aB (nD n A b fun i=>iM (c i))),.p (.int .i64 0)]) []:=by
 obtain⟨v,ev⟩:∃v,v=fun i=>iM (c i):=⟨_,rfl⟩
 have hv:∀i,i<n->Bz (v i) 1080:=by rw[ev];exact hv
 have c1:=Fj mx n c hc qO
 rw[<-ev]at c1⊢
 have w1:n*(163+1080+1)<=5*1244:=Nat.mul_le_mul_right _ hn
 have w2:n*(163+1)<=5*164:=Nat.mul_le_mul_right _ hn
 have c2:=Ey m m' false n A v (a:=163) (b:=1080) hA hv h0 qO qO
 have bA:∀i,i<n->Bz (uE n A v i) 6300:=fun i hi=>(xx (fun k hk=>hA i k hi hk) hv n (Nat.le_refl _)).mono qO
 have bL:∀i,i<n->Bz (gz n A b v i) 6400:=fun i hi=>((bA i hi).sub (hb i hi)).mono qO
 refine aW Tryz.func13 ?_
 refine SZ.mk (n:Int) qS ?_
 refine SZ.mk (n:Int) qS ?_
 refine ao.no qS ?_
 refine SZ.mk (n:Int) (by simp[aH]) ?_
 refine SZ.mk (n:Int) qS ?_
 refine ao.no qS ?_
 refine aa.aO (c1) (fun _=>rfl) ?_
 refine cJ ?_
 refine aa.fresh c2 ?_
 refine SZ.mk (n:Int) rfl ?_
 refine SZ.mk (n:Int) (by simp[aH]) ?_
 refine ao.no qS ?_
 refine SZ.mk (n:Int) rfl ?_
 refine aJ.mk Nat (fun i=>([(0,.p (cn m m' n n A)),(1,.p (ar mb (aH n b))),(6,.aC 0 0),(8,.p (ar false (aH n v))),(10,.vec 1 3 0 n),(46,.p (.int .i64 n)),(47,.p (.int .i64 i))],[Ea,.vec 31 3 (a7 (aH n fun t=>if t<i then gz n A b v t else uE n A v t))]))
  (fun i=>i<=n) (fun i=>n-i) 0 [0,1] (Nat.zero_le _) aY ?_
 intro i (hi:i<=n)
 by_cases hin:i<n
 ·refine bo ?_
  refine cS ?_
  repeat refine aq ?_
  refine ag (aK.mk i rfl hin af) ?_
  refine ag (aF.rv i (uE n A v i) rfl hin (if_neg (Nat.lt_irrefl _)) af) ?_
  repeat refine aq ?_
  refine ag (aF.rf i rfl hin af) ?_
  repeat refine aq ?_
  refine ag (aa.pure (dh (uE n A v i) (b i) (bA i hin).sz (hb i hin).sz qO) af) ?_
  refine ag (aK.mk i rfl hin af) ?_
  refine ag (cm.rf hin<|dp.rf af) ?_
  repeat refine aq ?_
  refine cX ?_
  refine a5 (i+1) ?_
  exact⟨i+1,[0,1],hin,cA,aY ⟨rfl,p6 fun t ht=>by
   unfold a8
   by_cases e:t=i+0
   ·rw[if_pos e,if_pos qO,e];rfl
   ·rw[if_neg e]
    by_cases e2:t<i
    ·rw[if_pos qO];exact(if_pos e2).symm
    ·rw[if_neg qO];exact(if_neg e2).symm,trivial⟩⟩
 ·refine bd ?_
  obtain rfl:i=n:=qO
  rw[show aH i (fun t=>if t<i then gz i A b v t else uE i A v t)=aH i (gz i A b v)from d8 fun t ht=>if_pos ht]
  refine bl.all (by simp[aH]) ?_
  refine aa.pure (sS true i (gz i A b v) bL qD qD qO) ?_
  have bf:Bz (jY (gz i A b v) i) 6400:=jy (fun t ht=>(bL t ht).abs) qD i (Nat.le_refl _)
  have hw:jY (gz i A b v) i≠0->rm i A b v≠0:=fun h1 h2=>h1 (Rat.le_antisymm (AS Rat.le_refl i fun t ht=>h2▸J2 ht) (jq _).1)
  unfold nD
  generalize jY (gz i A b v) i=q at*
  refine SZ.mk (az q.num.natAbs:Int) qS ?_
  by_cases hq:q=0
  ·rw[hq,Rat.div_def,Rat.zero_mul]
   refine ao.yes (jx (by rw[show(0:Rat).num.natAbs=0 from rfl,aw.2 rfl];rfl)) ?_
   exact eT (.p _ (aG _ _ _)) (.p _ (.int _ _))
  ·have hnz:az q.num.natAbs≠0:=fun h=>hq (Rat.num_eq_zero.1 (by have:=aw.1 h;omega))
   refine ao.no (iO qO) ?_
   have hw:=hw hq
   have bN:∀t,t<i->Bz (yr A i t) 1000:=fun t ht=>(gB (fun j hj=>(hA t j ht hj).abs) i (Nat.le_refl _)).mono qO
   have s1:=jy bN qD i (Nat.le_refl _)
   have s2:=jy (fun t ht=>(hv t ht).abs) qD i (Nat.le_refl _)
   have s3:=jy (fun t ht=>(hb t ht).abs) qD i (Nat.le_refl _)
   have s4:=(s1.mul s2).add s3
   unfold rm at hw⊢
   refine cS ?_
   repeat refine aq ?_
   refine ag (aa.pure (HV m m' i A hA qO qO) af) ?_
   repeat refine aq ?_
   refine ag (aa.pure (sS false i v hv qD qD qO) af) ?_
   refine ag (aa.pure (cE (qC A i i) (jY v i) s1.sz s2.sz qO) af) ?_
   repeat refine aq ?_
   refine ag (aa.pure (sS mb i b hb qD qD qO) af) ?_
   refine ag (aa.pure (eh (qC A i i*jY v i) (jY b i) (s1.mul s2).sz s3.sz qO) af) ?_
   refine ag (aa.aO (iS q (qC A i i*jY v i+jY b i) hw bf.sz s4.sz qO) (fun _=>rfl) af) ?_
   repeat refine aq ?_
   refine cX ?_
   exact eT (.p _ (aG _ _ _)) (.p _ (.int _ _))
end Go.Proofs.YtiakeknbdclaoaaGreat
