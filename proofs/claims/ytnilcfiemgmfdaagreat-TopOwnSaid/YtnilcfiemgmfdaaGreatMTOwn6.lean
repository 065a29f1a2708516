/- FTOwn: what its proof needs, part 6. -/
import Derived.Test.YtnilcfiemgmfdaaGreatMTOwn5
set_option linter.unusedVariables false
set_option linter.unusedSimpArgs false
namespace Go.Proofs.YtnilcfiemgmfdaaGreat
open Go
set_option maxRecDepth 10000
theorem vz (m:Nat->Bool) (n r:Nat) (A B G H:Nat->Rat) {b c:Nat} (h:Wf ⟨1,n,r,A,B,G,H⟩ b c):au Tryz.prog 40 [cG m ⟨1,n,r,A,B,G,H⟩] (.p (.int .i64 0)) []:=by
 have n6:n<=6:=h.n6
 have n1:1<=n:=h.n1
 have r2:r<=2:=h.r2
 have hnr:n*r<=12:=Nat.mul_le_mul n6 r2
 have hc4:=h.c4
 have hbc:=h.bc
 have cc:=bU (k:=1) (r:=r) n1 (show n<=8 by omega) (show r<=3 by omega)
 have cb:∀i:Nat,(if i=0 then aw 1 n else if i=1 then aH 1 n else aE 1 n r)<=24:=fun i=>by split<;>(try split)<;>omega
 show au Tryz.prog 40 [.agg [.int .i64 ((1:Nat):Int),.int .i64 (n:Int),.int .i64 (r:Int),ah (m 0) (ar (aw 1 n) A),ah (m 1) (ar (aH 1 n) B),ah (m 2) (ar (aE 1 n r) G),ah (m 3) (ar (aE 1 n r) H)]] (.p (.int .i64 0)) []
 refine aa (wr:=a9) a6 mixed Tryz.func40 (by kernel_rfl) rfl (by kernel_rfl) (af rfl) (by simp) ?_
 refine ag.no (decide_eq_false (by omega)) ?_
 refine ag.no (decide_eq_false (by omega)) ?_
 refine ab.pure (gM m ⟨1,n,r,A,B,G,H⟩ h) ?_
 refine ag.no (rfl) ?_
 refine ab.ni [cG m ⟨1,n,r,A,B,G,H⟩] _ rfl (eF m ⟨1,n,r,A,B,G,H⟩) ?_
 refine ab.pure (fG) ?_
 refine aM.mk Nat (fun i=>([(1,.aF 0 0),(3,.aF 1 0),(4,.p (.mp false pG)),(28,.p (.agg [ah (m 0) (ar (aw 1 n) A),ah (m 1) (ar (aH 1 n) B),ah (m 2) (ar (aE 1 n r) G),ah (m 3) (ar (aE 1 n r) H)])),(29,.p (.int .i64 i))],[.box 26 [.p (.int .i64 ((1:Nat):Int)),.p (.int .i64 (n:Int)),.p (.int .i64 (r:Int)),.p (ah (m 0) (ar (aw 1 n) A)),.p (ah (m 1) (ar (aH 1 n) B)),.p (ah (m 2) (ar (aE 1 n r) G)),.p (ah (m 3) (ar (aE 1 n r) H))],.box 73 [.p (ah (m 0) (ar (aw 1 n) A)),.p (ah (m 1) (ar (aH 1 n) B)),.p (ah (m 2) (ar (aE 1 n r) G)),.p (ah (m 3) (ar (aE 1 n r) H))]]))
  (fun i=>i<=4) (fun i=>4-i) 0 [0,1] (Nat.zero_le _) ⟨rfl,by simp,rfl,rfl,rfl,⟨rfl,rfl,rfl,rfl,rfl,trivial⟩,⟨rfl,rfl,trivial⟩⟩ ?_
 intro i hi
 have hi:i<=4:=hi
 rcases(show i=0\/i=1\/i=2\/i=3\/i=4 by omega)with rfl|rfl|rfl|rfl|rfl
 ·refine ag.yes (rfl) ?_
  refine aG.mk 0 _ rfl rfl ?_
  refine a5.all rfl<|cd.at 0 _ rfl rfl rfl ?_
  refine SZ.mk ((aw 1 n:Nat):Int) (by simp[ar]) ?_
  refine aI.mk 0 rfl (by decide) ?_
  refine ae.ao ((2*n:Nat):Int) (by omega) (by omega) ?_
  refine aI.mk 1 rfl (by decide) ?_
  refine ae.ao ((0*n:Nat):Int) (by omega) (by omega) ?_
  refine ae.ao ((0:Nat):Int) (by simp) (by omega) ?_
  refine ae.ao ((2*n+0:Nat):Int) (by omega) (by omega) ?_
  refine aI.mk 2 rfl (by decide) ?_
  refine ae.ao ((aw 1 n:Nat):Int) (by simp[aw,aH,aE]<;>omega) (by have:=bU (k:=1) (r:=r) n1 (show n<=8 by omega) (show r<=3 by omega);omega) ?_
  refine ag.no (f0 rfl) ?_
  refine ae.ao ((0+1:Nat):Int) (by omega) (by omega) ?_
  exact⟨0+1,[0,1],by decide,by decide,⟨rfl,by simp,rfl,rfl,rfl,⟨rfl,rfl,rfl,rfl,rfl,trivial⟩,⟨rfl,rfl,trivial⟩⟩⟩
 ·refine ag.yes (rfl) ?_
  refine aG.mk 1 _ rfl rfl ?_
  refine a5.all rfl<|cd.none rfl ?_
  refine SZ.mk ((aH 1 n:Nat):Int) (by simp[ar]) ?_
  refine aI.mk 0 rfl (by decide) ?_
  refine ae.ao ((0*n:Nat):Int) (by omega) (by omega) ?_
  refine aI.mk 1 rfl (by decide) ?_
  refine ae.ao ((0*n:Nat):Int) (by omega) (by omega) ?_
  refine ae.ao ((0:Nat):Int) (by simp) (by omega) ?_
  refine ae.ao ((0*n+0:Nat):Int) (by omega) (by omega) ?_
  refine aI.mk 2 rfl (by decide) ?_
  refine ae.ao ((aH 1 n:Nat):Int) (by simp[aw,aH,aE]<;>omega) (by have:=bU (k:=1) (r:=r) n1 (show n<=8 by omega) (show r<=3 by omega);omega) ?_
  refine ag.no (f0 rfl) ?_
  refine ae.ao ((1+1:Nat):Int) (by omega) (by omega) ?_
  exact⟨1+1,[0,1],by decide,by decide,⟨rfl,by simp,rfl,rfl,rfl,⟨rfl,rfl,rfl,rfl,rfl,trivial⟩,⟨rfl,rfl,trivial⟩⟩⟩
 ·refine ag.yes (rfl) ?_
  refine aG.mk 2 _ rfl rfl ?_
  refine a5.all rfl<|cd.none rfl ?_
  refine SZ.mk ((aE 1 n r:Nat):Int) (by simp[ar]) ?_
  refine aI.mk 0 rfl (by decide) ?_
  refine ae.ao ((0*n:Nat):Int) (by omega) (by omega) ?_
  refine aI.mk 1 rfl (by decide) ?_
  refine ae.ao ((0*n:Nat):Int) (by omega) (by omega) ?_
  refine ae.ao ((0:Nat):Int) (by simp) (by omega) ?_
  refine ae.ao ((0*n+0:Nat):Int) (by omega) (by omega) ?_
  refine aI.mk 2 rfl (by decide) ?_
  refine ae.ao ((aE 1 n r:Nat):Int) (by simp[aw,aH,aE]<;>omega) (by have:=bU (k:=1) (r:=r) n1 (show n<=8 by omega) (show r<=3 by omega);omega) ?_
  refine ag.no (f0 rfl) ?_
  refine ae.ao ((2+1:Nat):Int) (by omega) (by omega) ?_
  exact⟨2+1,[0,1],by decide,by decide,⟨rfl,by simp,rfl,rfl,rfl,⟨rfl,rfl,rfl,rfl,rfl,trivial⟩,⟨rfl,rfl,trivial⟩⟩⟩
 ·refine ag.yes (rfl) ?_
  refine aG.mk 3 _ rfl rfl ?_
  refine a5.all rfl<|cd.none rfl ?_
  refine SZ.mk ((aE 1 n r:Nat):Int) (by simp[ar]) ?_
  refine aI.mk 0 rfl (by decide) ?_
  refine ae.ao ((0*n:Nat):Int) (by omega) (by omega) ?_
  refine aI.mk 1 rfl (by decide) ?_
  refine ae.ao ((0*n:Nat):Int) (by omega) (by omega) ?_
  refine ae.ao ((0:Nat):Int) (by simp) (by omega) ?_
  refine ae.ao ((0*n+0:Nat):Int) (by omega) (by omega) ?_
  refine aI.mk 2 rfl (by decide) ?_
  refine ae.ao ((aE 1 n r:Nat):Int) (by simp[aw,aH,aE]<;>omega) (by have:=bU (k:=1) (r:=r) n1 (show n<=8 by omega) (show r<=3 by omega);omega) ?_
  refine ag.no (f0 rfl) ?_
  refine ae.ao ((3+1:Nat):Int) (by omega) (by omega) ?_
  exact⟨3+1,[0,1],by decide,by decide,⟨rfl,by simp,rfl,rfl,rfl,⟨rfl,rfl,rfl,rfl,rfl,trivial⟩,⟨rfl,rfl,trivial⟩⟩⟩
 ·refine ag.no (rfl) ?_
  refine aM.mk Nat (fun i=>([(1,.aF 0 0),(60,.p (.agg [ah (m 0) (ar (aw 1 n) A),ah (m 1) (ar (aH 1 n) B),ah (m 2) (ar (aE 1 n r) G),ah (m 3) (ar (aE 1 n r) H)])),(61,.p (.int .i64 i))],[.box 26 [.p (.int .i64 ((1:Nat):Int)),.p (.int .i64 (n:Int)),.p (.int .i64 (r:Int)),.p (ah (m 0) (ar (aw 1 n) A)),.p (ah (m 1) (ar (aH 1 n) B)),.p (ah (m 2) (ar (aE 1 n r) G)),.p (ah (m 3) (ar (aE 1 n r) H))],.box 73 [.p (ah (m 0) (ar (aw 1 n) A)),.p (ah (m 1) (ar (aH 1 n) B)),.p (ah (m 2) (ar (aE 1 n r) G)),.p (ah (m 3) (ar (aE 1 n r) H))]]))
   (fun i=>i<=4) (fun i=>4-i) 0 [0,1] (Nat.zero_le _) ⟨rfl,by simp,rfl,rfl,rfl,⟨rfl,rfl,rfl,trivial⟩,⟨rfl,rfl,trivial⟩⟩ ?_
  intro i hi
  have hi:i<=4:=hi
  rcases(show i=0\/i=1\/i=2\/i=3\/i=4 by omega)with rfl|rfl|rfl|rfl|rfl
  ·refine ag.yes (rfl) ?_
   refine aG.mk 0 _ rfl rfl ?_
   refine ab.pure (bN (m 0) (ar (aw 1 n) A) (fun i hi=>by rw[az]at hi;rw[bj hi];exact bu _ ((h.bA i hi).mono (by omega))) (by rw[az];exact Nat.le_trans (cb 0) (by decide))) ?_
   refine a8.mk (fun h=>by cases h) (fun _=>?_)
   refine ae.ao ((0+1:Nat):Int) (by omega) (by omega) ?_
   exact⟨0+1,[0,1],by decide,by decide,⟨rfl,by simp,rfl,rfl,rfl,⟨rfl,rfl,rfl,trivial⟩,⟨rfl,rfl,trivial⟩⟩⟩
  ·refine ag.yes (rfl) ?_
   refine aG.mk 1 _ rfl rfl ?_
   refine ab.pure (bN (m 1) (ar (aH 1 n) B) (fun i hi=>by rw[az]at hi;rw[bj hi];exact bu _ ((h.bB i hi).mono (by omega))) (by rw[az];exact Nat.le_trans (cb 1) (by decide))) ?_
   refine a8.mk (fun h=>by cases h) (fun _=>?_)
   refine ae.ao ((1+1:Nat):Int) (by omega) (by omega) ?_
   exact⟨1+1,[0,1],by decide,by decide,⟨rfl,by simp,rfl,rfl,rfl,⟨rfl,rfl,rfl,trivial⟩,⟨rfl,rfl,trivial⟩⟩⟩
  ·refine ag.yes (rfl) ?_
   refine aG.mk 2 _ rfl rfl ?_
   refine ab.pure (bN (m 2) (ar (aE 1 n r) G) (fun i hi=>by rw[az]at hi;rw[bj hi];exact bu _ ((h.bG i hi).mono (by omega))) (by rw[az];exact Nat.le_trans (cb 2) (by decide))) ?_
   refine a8.mk (fun h=>by cases h) (fun _=>?_)
   refine ae.ao ((2+1:Nat):Int) (by omega) (by omega) ?_
   exact⟨2+1,[0,1],by decide,by decide,⟨rfl,by simp,rfl,rfl,rfl,⟨rfl,rfl,rfl,trivial⟩,⟨rfl,rfl,trivial⟩⟩⟩
  ·refine ag.yes (rfl) ?_
   refine aG.mk 3 _ rfl rfl ?_
   refine ab.pure (bN (m 3) (ar (aE 1 n r) H) (fun i hi=>by rw[az]at hi;rw[bj hi];exact bu _ ((h.bH i hi).mono (by omega))) (by rw[az];exact Nat.le_trans (cb 3) (by decide))) ?_
   refine a8.mk (fun h=>by cases h) (fun _=>?_)
   refine ae.ao ((3+1:Nat):Int) (by omega) (by omega) ?_
   exact⟨3+1,[0,1],by decide,by decide,⟨rfl,by simp,rfl,rfl,rfl,⟨rfl,rfl,rfl,trivial⟩,⟨rfl,rfl,trivial⟩⟩⟩
  ·refine ag.no (rfl) ?_
   refine SZ.mk ((aw 1 n:Nat):Int) (by simp[ar]) ?_
   refine aM.mk Nat (fun i=>([(1,.aF 0 0),(68,.p (ah (m 0) (ar (aw 1 n) A))),(69,.p (.int .i64 ((aw 1 n:Nat):Int))),(70,.p (.int .i64 i))],[.box 26 [.p (.int .i64 ((1:Nat):Int)),.p (.int .i64 (n:Int)),.p (.int .i64 (r:Int)),.p (ah (m 0) (ar (aw 1 n) A)),.p (ah (m 1) (ar (aH 1 n) B)),.p (ah (m 2) (ar (aE 1 n r) G)),.p (ah (m 3) (ar (aE 1 n r) H))],.box 73 [.p (ah (m 0) (ar (aw 1 n) A)),.p (ah (m 1) (ar (aH 1 n) B)),.p (ah (m 2) (ar (aE 1 n r) G)),.p (ah (m 3) (ar (aE 1 n r) H))]]))
    (fun i=>i<=aw 1 n) (fun i=>aw 1 n-i) 0 [0,1] (Nat.zero_le _) ⟨rfl,by simp,rfl,rfl,rfl,⟨rfl,rfl,rfl,rfl,trivial⟩,⟨rfl,rfl,trivial⟩⟩ ?_
   intro i hi
   have hi:i<=aw 1 n:=hi
   have cA:=cb 0
   by_cases hia:i<aw 1 n
   ·refine ag.yes (decide_eq_true (by omega)) ?_
    refine aG.rf i rfl hia ?_
    have hz:=(h.bA i hia).mono (show b<=c by omega)
    have hc2:=gD (m 1) true (A i) (ar (aH 1 n) B) (fun j hj=>by
     rw[az]at hj;rw[bj hj]
     have:=fz true (A i) (B j) hz (h.bB j hj) (by omega)
     rw[decide_eq_false (h.ne i j hia hj)]at this
     exact this) (by rw[az];exact Nat.le_trans (cb 1) (by decide))
    refine ab.pure (pvs:=[ah (m 1) (ar (aH 1 n) B),.fn 96 [.eT true (aJ (A i))]]) hc2 ?_
    refine a8.mk (fun h=>by cases h) (fun _=>?_)
    refine ae.ao ((i+1:Nat):Int) (by omega) (by omega) ?_
    exact⟨i+1,[0,1],hia,by show aw 1 n-(i+1)<aw 1 n-i;omega,⟨rfl,by simp,rfl,rfl,rfl,⟨rfl,rfl,rfl,rfl,trivial⟩,⟨rfl,rfl,trivial⟩⟩⟩
   ·refine ag.no (decide_eq_false (by omega)) ?_
    exact aq.pure (.p _ (.int _ _))
theorem uN (m:Nat->Bool) (n r:Nat) (A B G H:Nat->Rat) {b c:Nat} (h:Wf ⟨2,n,r,A,B,G,H⟩ b c):au Tryz.prog 40 [cG m ⟨2,n,r,A,B,G,H⟩] (.p (.int .i64 0)) []:=by
 have n6:n<=6:=h.n6
 have n1:1<=n:=h.n1
 have r2:r<=2:=h.r2
 have hnr:n*r<=12:=Nat.mul_le_mul n6 r2
 have hc4:=h.c4
 have hbc:=h.bc
 have cc:=bU (k:=2) (r:=r) n1 (show n<=8 by omega) (show r<=3 by omega)
 have cb:∀i:Nat,(if i=0 then aw 2 n else if i=1 then aH 2 n else aE 2 n r)<=24:=fun i=>by split<;>(try split)<;>omega
 show au Tryz.prog 40 [.agg [.int .i64 ((2:Nat):Int),.int .i64 (n:Int),.int .i64 (r:Int),ah (m 0) (ar (aw 2 n) A),ah (m 1) (ar (aH 2 n) B),ah (m 2) (ar (aE 2 n r) G),ah (m 3) (ar (aE 2 n r) H)]] (.p (.int .i64 0)) []
 refine aa (wr:=a9) a6 mixed Tryz.func40 (by kernel_rfl) rfl (by kernel_rfl) (af rfl) (by simp) ?_
 refine ag.no (decide_eq_false (by omega)) ?_
 refine ag.no (decide_eq_false (by omega)) ?_
 refine ab.pure (gM m ⟨2,n,r,A,B,G,H⟩ h) ?_
 refine ag.no (rfl) ?_
 refine ab.ni [cG m ⟨2,n,r,A,B,G,H⟩] _ rfl (eF m ⟨2,n,r,A,B,G,H⟩) ?_
 refine ab.pure (fG) ?_
 refine aM.mk Nat (fun i=>([(1,.aF 0 0),(3,.aF 1 0),(4,.p (.mp false pG)),(28,.p (.agg [ah (m 0) (ar (aw 2 n) A),ah (m 1) (ar (aH 2 n) B),ah (m 2) (ar (aE 2 n r) G),ah (m 3) (ar (aE 2 n r) H)])),(29,.p (.int .i64 i))],[.box 26 [.p (.int .i64 ((2:Nat):Int)),.p (.int .i64 (n:Int)),.p (.int .i64 (r:Int)),.p (ah (m 0) (ar (aw 2 n) A)),.p (ah (m 1) (ar (aH 2 n) B)),.p (ah (m 2) (ar (aE 2 n r) G)),.p (ah (m 3) (ar (aE 2 n r) H))],.box 73 [.p (ah (m 0) (ar (aw 2 n) A)),.p (ah (m 1) (ar (aH 2 n) B)),.p (ah (m 2) (ar (aE 2 n r) G)),.p (ah (m 3) (ar (aE 2 n r) H))]]))
  (fun i=>i<=4) (fun i=>4-i) 0 [0,1] (Nat.zero_le _) ⟨rfl,by simp,rfl,rfl,rfl,⟨rfl,rfl,rfl,rfl,rfl,trivial⟩,⟨rfl,rfl,trivial⟩⟩ ?_
 intro i hi
 have hi:i<=4:=hi
 rcases(show i=0\/i=1\/i=2\/i=3\/i=4 by omega)with rfl|rfl|rfl|rfl|rfl
 ·refine ag.yes (rfl) ?_
  refine aG.mk 0 _ rfl rfl ?_
  refine a5.all rfl<|cd.at 1 _ rfl rfl rfl ?_
  refine SZ.mk ((aw 2 n:Nat):Int) (by simp[ar]) ?_
  refine aI.mk 0 rfl (by decide) ?_
  refine ae.ao ((2*n:Nat):Int) (by omega) (by omega) ?_
  refine aI.mk 1 rfl (by decide) ?_
  refine ae.ao ((0*n:Nat):Int) (by omega) (by omega) ?_
  refine ae.ao ((0:Nat):Int) (by simp) (by omega) ?_
  refine ae.ao ((2*n+0:Nat):Int) (by omega) (by omega) ?_
  refine aI.mk 2 rfl (by decide) ?_
  refine ae.ao ((aw 2 n:Nat):Int) (by simp[aw,aH,aE]<;>omega) (by have:=bU (k:=2) (r:=r) n1 (show n<=8 by omega) (show r<=3 by omega);omega) ?_
  refine ag.no (f0 rfl) ?_
  refine ae.ao ((0+1:Nat):Int) (by omega) (by omega) ?_
  exact⟨0+1,[0,1],by decide,by decide,⟨rfl,by simp,rfl,rfl,rfl,⟨rfl,rfl,rfl,rfl,rfl,trivial⟩,⟨rfl,rfl,trivial⟩⟩⟩
 ·refine ag.yes (rfl) ?_
  refine aG.mk 1 _ rfl rfl ?_
  refine a5.all rfl<|cd.none rfl ?_
  refine SZ.mk ((aH 2 n:Nat):Int) (by simp[ar]) ?_
  refine aI.mk 0 rfl (by decide) ?_
  refine ae.ao ((0*n:Nat):Int) (by omega) (by omega) ?_
  refine aI.mk 1 rfl (by decide) ?_
  refine ae.ao ((0*n:Nat):Int) (by omega) (by omega) ?_
  refine ae.ao ((0:Nat):Int) (by simp) (by omega) ?_
  refine ae.ao ((0*n+0:Nat):Int) (by omega) (by omega) ?_
  refine aI.mk 2 rfl (by decide) ?_
  refine ae.ao ((aH 2 n:Nat):Int) (by simp[aw,aH,aE]<;>omega) (by have:=bU (k:=2) (r:=r) n1 (show n<=8 by omega) (show r<=3 by omega);omega) ?_
  refine ag.no (f0 rfl) ?_
  refine ae.ao ((1+1:Nat):Int) (by omega) (by omega) ?_
  exact⟨1+1,[0,1],by decide,by decide,⟨rfl,by simp,rfl,rfl,rfl,⟨rfl,rfl,rfl,rfl,rfl,trivial⟩,⟨rfl,rfl,trivial⟩⟩⟩
 ·refine ag.yes (rfl) ?_
  refine aG.mk 2 _ rfl rfl ?_
  refine a5.all rfl<|cd.none rfl ?_
  refine SZ.mk ((aE 2 n r:Nat):Int) (by simp[ar]) ?_
  refine aI.mk 0 rfl (by decide) ?_
  refine ae.ao ((0*n:Nat):Int) (by omega) (by omega) ?_
  refine aI.mk 1 rfl (by decide) ?_
  refine ae.ao ((0*n:Nat):Int) (by omega) (by omega) ?_
  refine ae.ao ((0:Nat):Int) (by simp) (by omega) ?_
  refine ae.ao ((0*n+0:Nat):Int) (by omega) (by omega) ?_
  refine aI.mk 2 rfl (by decide) ?_
  refine ae.ao ((aE 2 n r:Nat):Int) (by simp[aw,aH,aE]<;>omega) (by have:=bU (k:=2) (r:=r) n1 (show n<=8 by omega) (show r<=3 by omega);omega) ?_
  refine ag.no (f0 rfl) ?_
  refine ae.ao ((2+1:Nat):Int) (by omega) (by omega) ?_
  exact⟨2+1,[0,1],by decide,by decide,⟨rfl,by simp,rfl,rfl,rfl,⟨rfl,rfl,rfl,rfl,rfl,trivial⟩,⟨rfl,rfl,trivial⟩⟩⟩
 ·refine ag.yes (rfl) ?_
  refine aG.mk 3 _ rfl rfl ?_
  refine a5.all rfl<|cd.none rfl ?_
  refine SZ.mk ((aE 2 n r:Nat):Int) (by simp[ar]) ?_
  refine aI.mk 0 rfl (by decide) ?_
  refine ae.ao ((0*n:Nat):Int) (by omega) (by omega) ?_
  refine aI.mk 1 rfl (by decide) ?_
  refine ae.ao ((0*n:Nat):Int) (by omega) (by omega) ?_
  refine ae.ao ((0:Nat):Int) (by simp) (by omega) ?_
  refine ae.ao ((0*n+0:Nat):Int) (by omega) (by omega) ?_
  refine aI.mk 2 rfl (by decide) ?_
  refine ae.ao ((aE 2 n r:Nat):Int) (by simp[aw,aH,aE]<;>omega) (by have:=bU (k:=2) (r:=r) n1 (show n<=8 by omega) (show r<=3 by omega);omega) ?_
  refine ag.no (f0 rfl) ?_
  refine ae.ao ((3+1:Nat):Int) (by omega) (by omega) ?_
  exact⟨3+1,[0,1],by decide,by decide,⟨rfl,by simp,rfl,rfl,rfl,⟨rfl,rfl,rfl,rfl,rfl,trivial⟩,⟨rfl,rfl,trivial⟩⟩⟩
 ·refine ag.no (rfl) ?_
  refine aM.mk Nat (fun i=>([(1,.aF 0 0),(60,.p (.agg [ah (m 0) (ar (aw 2 n) A),ah (m 1) (ar (aH 2 n) B),ah (m 2) (ar (aE 2 n r) G),ah (m 3) (ar (aE 2 n r) H)])),(61,.p (.int .i64 i))],[.box 26 [.p (.int .i64 ((2:Nat):Int)),.p (.int .i64 (n:Int)),.p (.int .i64 (r:Int)),.p (ah (m 0) (ar (aw 2 n) A)),.p (ah (m 1) (ar (aH 2 n) B)),.p (ah (m 2) (ar (aE 2 n r) G)),.p (ah (m 3) (ar (aE 2 n r) H))],.box 73 [.p (ah (m 0) (ar (aw 2 n) A)),.p (ah (m 1) (ar (aH 2 n) B)),.p (ah (m 2) (ar (aE 2 n r) G)),.p (ah (m 3) (ar (aE 2 n r) H))]]))
   (fun i=>i<=4) (fun i=>4-i) 0 [0,1] (Nat.zero_le _) ⟨rfl,by simp,rfl,rfl,rfl,⟨rfl,rfl,rfl,trivial⟩,⟨rfl,rfl,trivial⟩⟩ ?_
  intro i hi
  have hi:i<=4:=hi
  rcases(show i=0\/i=1\/i=2\/i=3\/i=4 by omega)with rfl|rfl|rfl|rfl|rfl
  ·refine ag.yes (rfl) ?_
   refine aG.mk 0 _ rfl rfl ?_
   refine ab.pure (bN (m 0) (ar (aw 2 n) A) (fun i hi=>by rw[az]at hi;rw[bj hi];exact bu _ ((h.bA i hi).mono (by omega))) (by rw[az];exact Nat.le_trans (cb 0) (by decide))) ?_
   refine a8.mk (fun h=>by cases h) (fun _=>?_)
   refine ae.ao ((0+1:Nat):Int) (by omega) (by omega) ?_
   exact⟨0+1,[0,1],by decide,by decide,⟨rfl,by simp,rfl,rfl,rfl,⟨rfl,rfl,rfl,trivial⟩,⟨rfl,rfl,trivial⟩⟩⟩
  ·refine ag.yes (rfl) ?_
   refine aG.mk 1 _ rfl rfl ?_
   refine ab.pure (bN (m 1) (ar (aH 2 n) B) (fun i hi=>by rw[az]at hi;rw[bj hi];exact bu _ ((h.bB i hi).mono (by omega))) (by rw[az];exact Nat.le_trans (cb 1) (by decide))) ?_
   refine a8.mk (fun h=>by cases h) (fun _=>?_)
   refine ae.ao ((1+1:Nat):Int) (by omega) (by omega) ?_
   exact⟨1+1,[0,1],by decide,by decide,⟨rfl,by simp,rfl,rfl,rfl,⟨rfl,rfl,rfl,trivial⟩,⟨rfl,rfl,trivial⟩⟩⟩
  ·refine ag.yes (rfl) ?_
   refine aG.mk 2 _ rfl rfl ?_
   refine ab.pure (bN (m 2) (ar (aE 2 n r) G) (fun i hi=>by rw[az]at hi;rw[bj hi];exact bu _ ((h.bG i hi).mono (by omega))) (by rw[az];exact Nat.le_trans (cb 2) (by decide))) ?_
   refine a8.mk (fun h=>by cases h) (fun _=>?_)
   refine ae.ao ((2+1:Nat):Int) (by omega) (by omega) ?_
   exact⟨2+1,[0,1],by decide,by decide,⟨rfl,by simp,rfl,rfl,rfl,⟨rfl,rfl,rfl,trivial⟩,⟨rfl,rfl,trivial⟩⟩⟩
  ·refine ag.yes (rfl) ?_
   refine aG.mk 3 _ rfl rfl ?_
   refine ab.pure (bN (m 3) (ar (aE 2 n r) H) (fun i hi=>by rw[az]at hi;rw[bj hi];exact bu _ ((h.bH i hi).mono (by omega))) (by rw[az];exact Nat.le_trans (cb 3) (by decide))) ?_
   refine a8.mk (fun h=>by cases h) (fun _=>?_)
   refine ae.ao ((3+1:Nat):Int) (by omega) (by omega) ?_
   exact⟨3+1,[0,1],by decide,by decide,⟨rfl,by simp,rfl,rfl,rfl,⟨rfl,rfl,rfl,trivial⟩,⟨rfl,rfl,trivial⟩⟩⟩
  ·refine ag.no (rfl) ?_
   refine SZ.mk ((aw 2 n:Nat):Int) (by simp[ar]) ?_
   refine aM.mk Nat (fun i=>([(1,.aF 0 0),(68,.p (ah (m 0) (ar (aw 2 n) A))),(69,.p (.int .i64 ((aw 2 n:Nat):Int))),(70,.p (.int .i64 i))],[.box 26 [.p (.int .i64 ((2:Nat):Int)),.p (.int .i64 (n:Int)),.p (.int .i64 (r:Int)),.p (ah (m 0) (ar (aw 2 n) A)),.p (ah (m 1) (ar (aH 2 n) B)),.p (ah (m 2) (ar (aE 2 n r) G)),.p (ah (m 3) (ar (aE 2 n r) H))],.box 73 [.p (ah (m 0) (ar (aw 2 n) A)),.p (ah (m 1) (ar (aH 2 n) B)),.p (ah (m 2) (ar (aE 2 n r) G)),.p (ah (m 3) (ar (aE 2 n r) H))]]))
    (fun i=>i<=aw 2 n) (fun i=>aw 2 n-i) 0 [0,1] (Nat.zero_le _) ⟨rfl,by simp,rfl,rfl,rfl,⟨rfl,rfl,rfl,rfl,trivial⟩,⟨rfl,rfl,trivial⟩⟩ ?_
   intro i hi
   have hi:i<=aw 2 n:=hi
   have cA:=cb 0
   by_cases hia:i<aw 2 n
   ·refine ag.yes (decide_eq_true (by omega)) ?_
    refine aG.rf i rfl hia ?_
    have hz:=(h.bA i hia).mono (show b<=c by omega)
    have hc2:=gD (m 1) true (A i) (ar (aH 2 n) B) (fun j hj=>by
     rw[az]at hj;rw[bj hj]
     have:=fz true (A i) (B j) hz (h.bB j hj) (by omega)
     rw[decide_eq_false (h.ne i j hia hj)]at this
     exact this) (by rw[az];exact Nat.le_trans (cb 1) (by decide))
    refine ab.pure (pvs:=[ah (m 1) (ar (aH 2 n) B),.fn 96 [.eT true (aJ (A i))]]) hc2 ?_
    refine a8.mk (fun h=>by cases h) (fun _=>?_)
    refine ae.ao ((i+1:Nat):Int) (by omega) (by omega) ?_
    exact⟨i+1,[0,1],hia,by show aw 2 n-(i+1)<aw 2 n-i;omega,⟨rfl,by simp,rfl,rfl,rfl,⟨rfl,rfl,rfl,rfl,trivial⟩,⟨rfl,rfl,trivial⟩⟩⟩
   ·refine ag.no (decide_eq_false (by omega)) ?_
    exact aq.pure (.p _ (.int _ _))
theorem vn (m:Nat->Bool) (n r:Nat) (A B G H:Nat->Rat) {b c:Nat} (h:Wf ⟨3,n,r,A,B,G,H⟩ b c):au Tryz.prog 40 [cG m ⟨3,n,r,A,B,G,H⟩] (.p (.int .i64 0)) []:=by
 have n6:n<=6:=h.n6
 have n1:1<=n:=h.n1
 have r2:r<=2:=h.r2
 have hnr:n*r<=12:=Nat.mul_le_mul n6 r2
 have hc4:=h.c4
 have hbc:=h.bc
 have cc:=bU (k:=3) (r:=r) n1 (show n<=8 by omega) (show r<=3 by omega)
 have cb:∀i:Nat,(if i=0 then aw 3 n else if i=1 then aH 3 n else aE 3 n r)<=24:=fun i=>by split<;>(try split)<;>omega
 show au Tryz.prog 40 [.agg [.int .i64 ((3:Nat):Int),.int .i64 (n:Int),.int .i64 (r:Int),ah (m 0) (ar (aw 3 n) A),ah (m 1) (ar (aH 3 n) B),ah (m 2) (ar (aE 3 n r) G),ah (m 3) (ar (aE 3 n r) H)]] (.p (.int .i64 0)) []
 refine aa (wr:=a9) a6 mixed Tryz.func40 (by kernel_rfl) rfl (by kernel_rfl) (af rfl) (by simp) ?_
 refine ag.no (decide_eq_false (by omega)) ?_
 refine ag.no (decide_eq_false (by omega)) ?_
 refine ab.pure (gM m ⟨3,n,r,A,B,G,H⟩ h) ?_
 refine ag.no (rfl) ?_
 refine ab.ni [cG m ⟨3,n,r,A,B,G,H⟩] _ rfl (eF m ⟨3,n,r,A,B,G,H⟩) ?_
 refine ab.pure (fG) ?_
 refine aM.mk Nat (fun i=>([(1,.aF 0 0),(3,.aF 1 0),(4,.p (.mp false pG)),(28,.p (.agg [ah (m 0) (ar (aw 3 n) A),ah (m 1) (ar (aH 3 n) B),ah (m 2) (ar (aE 3 n r) G),ah (m 3) (ar (aE 3 n r) H)])),(29,.p (.int .i64 i))],[.box 26 [.p (.int .i64 ((3:Nat):Int)),.p (.int .i64 (n:Int)),.p (.int .i64 (r:Int)),.p (ah (m 0) (ar (aw 3 n) A)),.p (ah (m 1) (ar (aH 3 n) B)),.p (ah (m 2) (ar (aE 3 n r) G)),.p (ah (m 3) (ar (aE 3 n r) H))],.box 73 [.p (ah (m 0) (ar (aw 3 n) A)),.p (ah (m 1) (ar (aH 3 n) B)),.p (ah (m 2) (ar (aE 3 n r) G)),.p (ah (m 3) (ar (aE 3 n r) H))]]))
  (fun i=>i<=4) (fun i=>4-i) 0 [0,1] (Nat.zero_le _) ⟨rfl,by simp,rfl,rfl,rfl,⟨rfl,rfl,rfl,rfl,rfl,trivial⟩,⟨rfl,rfl,trivial⟩⟩ ?_
 intro i hi
 have hi:i<=4:=hi
 rcases(show i=0\/i=1\/i=2\/i=3\/i=4 by omega)with rfl|rfl|rfl|rfl|rfl
 ·refine ag.yes (rfl) ?_
  refine aG.mk 0 _ rfl rfl ?_
  refine a5.all rfl<|cd.at 2 _ rfl rfl rfl ?_
  refine SZ.mk ((aw 3 n:Nat):Int) (by simp[ar]) ?_
  refine aI.mk 0 rfl (by decide) ?_
  refine ae.ao ((1*n:Nat):Int) (by omega) (by omega) ?_
  refine aI.mk 1 rfl (by decide) ?_
  refine ae.ao ((0*n:Nat):Int) (by omega) (by omega) ?_
  refine ae.ao ((0:Nat):Int) (by simp) (by omega) ?_
  refine ae.ao ((1*n+0:Nat):Int) (by omega) (by omega) ?_
  refine aI.mk 2 rfl (by decide) ?_
  refine ae.ao ((aw 3 n:Nat):Int) (by simp[aw,aH,aE]<;>omega) (by have:=bU (k:=3) (r:=r) n1 (show n<=8 by omega) (show r<=3 by omega);omega) ?_
  refine ag.no (f0 rfl) ?_
  refine ae.ao ((0+1:Nat):Int) (by omega) (by omega) ?_
  exact⟨0+1,[0,1],by decide,by decide,⟨rfl,by simp,rfl,rfl,rfl,⟨rfl,rfl,rfl,rfl,rfl,trivial⟩,⟨rfl,rfl,trivial⟩⟩⟩
 ·refine ag.yes (rfl) ?_
  refine aG.mk 1 _ rfl rfl ?_
  refine a5.all rfl<|cd.none rfl ?_
  refine SZ.mk ((aH 3 n:Nat):Int) (by simp[ar]) ?_
  refine aI.mk 0 rfl (by decide) ?_
  refine ae.ao ((0*n:Nat):Int) (by omega) (by omega) ?_
  refine aI.mk 1 rfl (by decide) ?_
  refine ae.ao ((0*n:Nat):Int) (by omega) (by omega) ?_
  refine ae.ao ((0:Nat):Int) (by simp) (by omega) ?_
  refine ae.ao ((0*n+0:Nat):Int) (by omega) (by omega) ?_
  refine aI.mk 2 rfl (by decide) ?_
  refine ae.ao ((aH 3 n:Nat):Int) (by simp[aw,aH,aE]<;>omega) (by have:=bU (k:=3) (r:=r) n1 (show n<=8 by omega) (show r<=3 by omega);omega) ?_
  refine ag.no (f0 rfl) ?_
  refine ae.ao ((1+1:Nat):Int) (by omega) (by omega) ?_
  exact⟨1+1,[0,1],by decide,by decide,⟨rfl,by simp,rfl,rfl,rfl,⟨rfl,rfl,rfl,rfl,rfl,trivial⟩,⟨rfl,rfl,trivial⟩⟩⟩
 ·refine ag.yes (rfl) ?_
  refine aG.mk 2 _ rfl rfl ?_
  refine a5.all rfl<|cd.none rfl ?_
  refine SZ.mk ((aE 3 n r:Nat):Int) (by simp[ar]) ?_
  refine aI.mk 0 rfl (by decide) ?_
  refine ae.ao ((0*n:Nat):Int) (by omega) (by omega) ?_
  refine aI.mk 1 rfl (by decide) ?_
  refine ae.ao ((0*n:Nat):Int) (by omega) (by omega) ?_
  refine ae.ao ((0:Nat):Int) (by simp) (by omega) ?_
  refine ae.ao ((0*n+0:Nat):Int) (by omega) (by omega) ?_
  refine aI.mk 2 rfl (by decide) ?_
  refine ae.ao ((aE 3 n r:Nat):Int) (by simp[aw,aH,aE]<;>omega) (by have:=bU (k:=3) (r:=r) n1 (show n<=8 by omega) (show r<=3 by omega);omega) ?_
  refine ag.no (f0 rfl) ?_
  refine ae.ao ((2+1:Nat):Int) (by omega) (by omega) ?_
  exact⟨2+1,[0,1],by decide,by decide,⟨rfl,by simp,rfl,rfl,rfl,⟨rfl,rfl,rfl,rfl,rfl,trivial⟩,⟨rfl,rfl,trivial⟩⟩⟩
 ·refine ag.yes (rfl) ?_
  refine aG.mk 3 _ rfl rfl ?_
  refine a5.all rfl<|cd.none rfl ?_
  refine SZ.mk ((aE 3 n r:Nat):Int) (by simp[ar]) ?_
  refine aI.mk 0 rfl (by decide) ?_
  refine ae.ao ((0*n:Nat):Int) (by omega) (by omega) ?_
  refine aI.mk 1 rfl (by decide) ?_
  refine ae.ao ((0*n:Nat):Int) (by omega) (by omega) ?_
  refine ae.ao ((0:Nat):Int) (by simp) (by omega) ?_
  refine ae.ao ((0*n+0:Nat):Int) (by omega) (by omega) ?_
  refine aI.mk 2 rfl (by decide) ?_
  refine ae.ao ((aE 3 n r:Nat):Int) (by simp[aw,aH,aE]<;>omega) (by have:=bU (k:=3) (r:=r) n1 (show n<=8 by omega) (show r<=3 by omega);omega) ?_
  refine ag.no (f0 rfl) ?_
  refine ae.ao ((3+1:Nat):Int) (by omega) (by omega) ?_
  exact⟨3+1,[0,1],by decide,by decide,⟨rfl,by simp,rfl,rfl,rfl,⟨rfl,rfl,rfl,rfl,rfl,trivial⟩,⟨rfl,rfl,trivial⟩⟩⟩
 ·refine ag.no (rfl) ?_
  refine aM.mk Nat (fun i=>([(1,.aF 0 0),(60,.p (.agg [ah (m 0) (ar (aw 3 n) A),ah (m 1) (ar (aH 3 n) B),ah (m 2) (ar (aE 3 n r) G),ah (m 3) (ar (aE 3 n r) H)])),(61,.p (.int .i64 i))],[.box 26 [.p (.int .i64 ((3:Nat):Int)),.p (.int .i64 (n:Int)),.p (.int .i64 (r:Int)),.p (ah (m 0) (ar (aw 3 n) A)),.p (ah (m 1) (ar (aH 3 n) B)),.p (ah (m 2) (ar (aE 3 n r) G)),.p (ah (m 3) (ar (aE 3 n r) H))],.box 73 [.p (ah (m 0) (ar (aw 3 n) A)),.p (ah (m 1) (ar (aH 3 n) B)),.p (ah (m 2) (ar (aE 3 n r) G)),.p (ah (m 3) (ar (aE 3 n r) H))]]))
   (fun i=>i<=4) (fun i=>4-i) 0 [0,1] (Nat.zero_le _) ⟨rfl,by simp,rfl,rfl,rfl,⟨rfl,rfl,rfl,trivial⟩,⟨rfl,rfl,trivial⟩⟩ ?_
  intro i hi
  have hi:i<=4:=hi
  rcases(show i=0\/i=1\/i=2\/i=3\/i=4 by omega)with rfl|rfl|rfl|rfl|rfl
  ·refine ag.yes (rfl) ?_
   refine aG.mk 0 _ rfl rfl ?_
   refine ab.pure (bN (m 0) (ar (aw 3 n) A) (fun i hi=>by rw[az]at hi;rw[bj hi];exact bu _ ((h.bA i hi).mono (by omega))) (by rw[az];exact Nat.le_trans (cb 0) (by decide))) ?_
   refine a8.mk (fun h=>by cases h) (fun _=>?_)
   refine ae.ao ((0+1:Nat):Int) (by omega) (by omega) ?_
   exact⟨0+1,[0,1],by decide,by decide,⟨rfl,by simp,rfl,rfl,rfl,⟨rfl,rfl,rfl,trivial⟩,⟨rfl,rfl,trivial⟩⟩⟩
  ·refine ag.yes (rfl) ?_
   refine aG.mk 1 _ rfl rfl ?_
   refine ab.pure (bN (m 1) (ar (aH 3 n) B) (fun i hi=>by rw[az]at hi;rw[bj hi];exact bu _ ((h.bB i hi).mono (by omega))) (by rw[az];exact Nat.le_trans (cb 1) (by decide))) ?_
   refine a8.mk (fun h=>by cases h) (fun _=>?_)
   refine ae.ao ((1+1:Nat):Int) (by omega) (by omega) ?_
   exact⟨1+1,[0,1],by decide,by decide,⟨rfl,by simp,rfl,rfl,rfl,⟨rfl,rfl,rfl,trivial⟩,⟨rfl,rfl,trivial⟩⟩⟩
  ·refine ag.yes (rfl) ?_
   refine aG.mk 2 _ rfl rfl ?_
   refine ab.pure (bN (m 2) (ar (aE 3 n r) G) (fun i hi=>by rw[az]at hi;rw[bj hi];exact bu _ ((h.bG i hi).mono (by omega))) (by rw[az];exact Nat.le_trans (cb 2) (by decide))) ?_
   refine a8.mk (fun h=>by cases h) (fun _=>?_)
   refine ae.ao ((2+1:Nat):Int) (by omega) (by omega) ?_
   exact⟨2+1,[0,1],by decide,by decide,⟨rfl,by simp,rfl,rfl,rfl,⟨rfl,rfl,rfl,trivial⟩,⟨rfl,rfl,trivial⟩⟩⟩
  ·refine ag.yes (rfl) ?_
   refine aG.mk 3 _ rfl rfl ?_
   refine ab.pure (bN (m 3) (ar (aE 3 n r) H) (fun i hi=>by rw[az]at hi;rw[bj hi];exact bu _ ((h.bH i hi).mono (by omega))) (by rw[az];exact Nat.le_trans (cb 3) (by decide))) ?_
   refine a8.mk (fun h=>by cases h) (fun _=>?_)
   refine ae.ao ((3+1:Nat):Int) (by omega) (by omega) ?_
   exact⟨3+1,[0,1],by decide,by decide,⟨rfl,by simp,rfl,rfl,rfl,⟨rfl,rfl,rfl,trivial⟩,⟨rfl,rfl,trivial⟩⟩⟩
  ·refine ag.no (rfl) ?_
   refine SZ.mk ((aw 3 n:Nat):Int) (by simp[ar]) ?_
   refine aM.mk Nat (fun i=>([(1,.aF 0 0),(68,.p (ah (m 0) (ar (aw 3 n) A))),(69,.p (.int .i64 ((aw 3 n:Nat):Int))),(70,.p (.int .i64 i))],[.box 26 [.p (.int .i64 ((3:Nat):Int)),.p (.int .i64 (n:Int)),.p (.int .i64 (r:Int)),.p (ah (m 0) (ar (aw 3 n) A)),.p (ah (m 1) (ar (aH 3 n) B)),.p (ah (m 2) (ar (aE 3 n r) G)),.p (ah (m 3) (ar (aE 3 n r) H))],.box 73 [.p (ah (m 0) (ar (aw 3 n) A)),.p (ah (m 1) (ar (aH 3 n) B)),.p (ah (m 2) (ar (aE 3 n r) G)),.p (ah (m 3) (ar (aE 3 n r) H))]]))
    (fun i=>i<=aw 3 n) (fun i=>aw 3 n-i) 0 [0,1] (Nat.zero_le _) ⟨rfl,by simp,rfl,rfl,rfl,⟨rfl,rfl,rfl,rfl,trivial⟩,⟨rfl,rfl,trivial⟩⟩ ?_
   intro i hi
   have hi:i<=aw 3 n:=hi
   have cA:=cb 0
   by_cases hia:i<aw 3 n
   ·refine ag.yes (decide_eq_true (by omega)) ?_
    refine aG.rf i rfl hia ?_
    have hz:=(h.bA i hia).mono (show b<=c by omega)
    have hc2:=gD (m 1) true (A i) (ar (aH 3 n) B) (fun j hj=>by
     rw[az]at hj;rw[bj hj]
     have:=fz true (A i) (B j) hz (h.bB j hj) (by omega)
     rw[decide_eq_false (h.ne i j hia hj)]at this
     exact this) (by rw[az];exact Nat.le_trans (cb 1) (by decide))
    refine ab.pure (pvs:=[ah (m 1) (ar (aH 3 n) B),.fn 96 [.eT true (aJ (A i))]]) hc2 ?_
    refine a8.mk (fun h=>by cases h) (fun _=>?_)
    refine ae.ao ((i+1:Nat):Int) (by omega) (by omega) ?_
    exact⟨i+1,[0,1],hia,by show aw 3 n-(i+1)<aw 3 n-i;omega,⟨rfl,by simp,rfl,rfl,rfl,⟨rfl,rfl,rfl,rfl,trivial⟩,⟨rfl,rfl,trivial⟩⟩⟩
   ·refine ag.no (decide_eq_false (by omega)) ?_
    exact aq.pure (.p _ (.int _ _))
theorem vO (m:Nat->Bool) (n r:Nat) (A B G H:Nat->Rat) {b c:Nat} (h:Wf ⟨4,n,r,A,B,G,H⟩ b c):au Tryz.prog 40 [cG m ⟨4,n,r,A,B,G,H⟩] (.p (.int .i64 0)) []:=by
 have n6:n<=6:=h.n6
 have n1:1<=n:=h.n1
 have r2:r<=2:=h.r2
 have hnr:n*r<=12:=Nat.mul_le_mul n6 r2
 have hc4:=h.c4
 have hbc:=h.bc
 have cc:=bU (k:=4) (r:=r) n1 (show n<=8 by omega) (show r<=3 by omega)
 have cb:∀i:Nat,(if i=0 then aw 4 n else if i=1 then aH 4 n else aE 4 n r)<=24:=fun i=>by split<;>(try split)<;>omega
 show au Tryz.prog 40 [.agg [.int .i64 ((4:Nat):Int),.int .i64 (n:Int),.int .i64 (r:Int),ah (m 0) (ar (aw 4 n) A),ah (m 1) (ar (aH 4 n) B),ah (m 2) (ar (aE 4 n r) G),ah (m 3) (ar (aE 4 n r) H)]] (.p (.int .i64 0)) []
 refine aa (wr:=a9) a6 mixed Tryz.func40 (by kernel_rfl) rfl (by kernel_rfl) (af rfl) (by simp) ?_
 refine ag.no (decide_eq_false (by omega)) ?_
 refine ag.no (decide_eq_false (by omega)) ?_
 refine ab.pure (gM m ⟨4,n,r,A,B,G,H⟩ h) ?_
 refine ag.no (rfl) ?_
 refine ab.ni [cG m ⟨4,n,r,A,B,G,H⟩] _ rfl (eF m ⟨4,n,r,A,B,G,H⟩) ?_
 refine ab.pure (fG) ?_
 refine aM.mk Nat (fun i=>([(1,.aF 0 0),(3,.aF 1 0),(4,.p (.mp false pG)),(28,.p (.agg [ah (m 0) (ar (aw 4 n) A),ah (m 1) (ar (aH 4 n) B),ah (m 2) (ar (aE 4 n r) G),ah (m 3) (ar (aE 4 n r) H)])),(29,.p (.int .i64 i))],[.box 26 [.p (.int .i64 ((4:Nat):Int)),.p (.int .i64 (n:Int)),.p (.int .i64 (r:Int)),.p (ah (m 0) (ar (aw 4 n) A)),.p (ah (m 1) (ar (aH 4 n) B)),.p (ah (m 2) (ar (aE 4 n r) G)),.p (ah (m 3) (ar (aE 4 n r) H))],.box 73 [.p (ah (m 0) (ar (aw 4 n) A)),.p (ah (m 1) (ar (aH 4 n) B)),.p (ah (m 2) (ar (aE 4 n r) G)),.p (ah (m 3) (ar (aE 4 n r) H))]]))
  (fun i=>i<=4) (fun i=>4-i) 0 [0,1] (Nat.zero_le _) ⟨rfl,by simp,rfl,rfl,rfl,⟨rfl,rfl,rfl,rfl,rfl,trivial⟩,⟨rfl,rfl,trivial⟩⟩ ?_
 intro i hi
 have hi:i<=4:=hi
 rcases(show i=0\/i=1\/i=2\/i=3\/i=4 by omega)with rfl|rfl|rfl|rfl|rfl
 ·refine ag.yes (rfl) ?_
  refine aG.mk 0 _ rfl rfl ?_
  refine a5.all rfl<|cd.at 3 _ rfl rfl rfl ?_
  refine SZ.mk ((aw 4 n:Nat):Int) (by simp[ar]) ?_
  refine aI.mk 0 rfl (by decide) ?_
  refine ae.ao ((1*n:Nat):Int) (by omega) (by omega) ?_
  refine aI.mk 1 rfl (by decide) ?_
  refine ae.ao ((0*n:Nat):Int) (by omega) (by omega) ?_
  refine ae.ao ((0:Nat):Int) (by simp) (by omega) ?_
  refine ae.ao ((1*n+0:Nat):Int) (by omega) (by omega) ?_
  refine aI.mk 2 rfl (by decide) ?_
  refine ae.ao ((aw 4 n:Nat):Int) (by simp[aw,aH,aE]<;>omega) (by have:=bU (k:=4) (r:=r) n1 (show n<=8 by omega) (show r<=3 by omega);omega) ?_
  refine ag.no (f0 rfl) ?_
  refine ae.ao ((0+1:Nat):Int) (by omega) (by omega) ?_
  exact⟨0+1,[0,1],by decide,by decide,⟨rfl,by simp,rfl,rfl,rfl,⟨rfl,rfl,rfl,rfl,rfl,trivial⟩,⟨rfl,rfl,trivial⟩⟩⟩
 ·refine ag.yes (rfl) ?_
  refine aG.mk 1 _ rfl rfl ?_
  refine a5.all rfl<|cd.none rfl ?_
  refine SZ.mk ((aH 4 n:Nat):Int) (by simp[ar]) ?_
  refine aI.mk 0 rfl (by decide) ?_
  refine ae.ao ((0*n:Nat):Int) (by omega) (by omega) ?_
  refine aI.mk 1 rfl (by decide) ?_
  refine ae.ao ((0*n:Nat):Int) (by omega) (by omega) ?_
  refine ae.ao ((0:Nat):Int) (by simp) (by omega) ?_
  refine ae.ao ((0*n+0:Nat):Int) (by omega) (by omega) ?_
  refine aI.mk 2 rfl (by decide) ?_
  refine ae.ao ((aH 4 n:Nat):Int) (by simp[aw,aH,aE]<;>omega) (by have:=bU (k:=4) (r:=r) n1 (show n<=8 by omega) (show r<=3 by omega);omega) ?_
  refine ag.no (f0 rfl) ?_
  refine ae.ao ((1+1:Nat):Int) (by omega) (by omega) ?_
  exact⟨1+1,[0,1],by decide,by decide,⟨rfl,by simp,rfl,rfl,rfl,⟨rfl,rfl,rfl,rfl,rfl,trivial⟩,⟨rfl,rfl,trivial⟩⟩⟩
 ·refine ag.yes (rfl) ?_
  refine aG.mk 2 _ rfl rfl ?_
  refine a5.all rfl<|cd.none rfl ?_
  refine SZ.mk ((aE 4 n r:Nat):Int) (by simp[ar]) ?_
  refine aI.mk 0 rfl (by decide) ?_
  refine ae.ao ((0*n:Nat):Int) (by omega) (by omega) ?_
  refine aI.mk 1 rfl (by decide) ?_
  refine ae.ao ((0*n:Nat):Int) (by omega) (by omega) ?_
  refine ae.ao ((0:Nat):Int) (by simp) (by omega) ?_
  refine ae.ao ((0*n+0:Nat):Int) (by omega) (by omega) ?_
  refine aI.mk 2 rfl (by decide) ?_
  refine ae.ao ((aE 4 n r:Nat):Int) (by simp[aw,aH,aE]<;>omega) (by have:=bU (k:=4) (r:=r) n1 (show n<=8 by omega) (show r<=3 by omega);omega) ?_
  refine ag.no (f0 rfl) ?_
  refine ae.ao ((2+1:Nat):Int) (by omega) (by omega) ?_
  exact⟨2+1,[0,1],by decide,by decide,⟨rfl,by simp,rfl,rfl,rfl,⟨rfl,rfl,rfl,rfl,rfl,trivial⟩,⟨rfl,rfl,trivial⟩⟩⟩
 ·refine ag.yes (rfl) ?_
  refine aG.mk 3 _ rfl rfl ?_
  refine a5.all rfl<|cd.none rfl ?_
  refine SZ.mk ((aE 4 n r:Nat):Int) (by simp[ar]) ?_
  refine aI.mk 0 rfl (by decide) ?_
  refine ae.ao ((0*n:Nat):Int) (by omega) (by omega) ?_
  refine aI.mk 1 rfl (by decide) ?_
  refine ae.ao ((0*n:Nat):Int) (by omega) (by omega) ?_
  refine ae.ao ((0:Nat):Int) (by simp) (by omega) ?_
  refine ae.ao ((0*n+0:Nat):Int) (by omega) (by omega) ?_
  refine aI.mk 2 rfl (by decide) ?_
  refine ae.ao ((aE 4 n r:Nat):Int) (by simp[aw,aH,aE]<;>omega) (by have:=bU (k:=4) (r:=r) n1 (show n<=8 by omega) (show r<=3 by omega);omega) ?_
  refine ag.no (f0 rfl) ?_
  refine ae.ao ((3+1:Nat):Int) (by omega) (by omega) ?_
  exact⟨3+1,[0,1],by decide,by decide,⟨rfl,by simp,rfl,rfl,rfl,⟨rfl,rfl,rfl,rfl,rfl,trivial⟩,⟨rfl,rfl,trivial⟩⟩⟩
 ·refine ag.no (rfl) ?_
  refine aM.mk Nat (fun i=>([(1,.aF 0 0),(60,.p (.agg [ah (m 0) (ar (aw 4 n) A),ah (m 1) (ar (aH 4 n) B),ah (m 2) (ar (aE 4 n r) G),ah (m 3) (ar (aE 4 n r) H)])),(61,.p (.int .i64 i))],[.box 26 [.p (.int .i64 ((4:Nat):Int)),.p (.int .i64 (n:Int)),.p (.int .i64 (r:Int)),.p (ah (m 0) (ar (aw 4 n) A)),.p (ah (m 1) (ar (aH 4 n) B)),.p (ah (m 2) (ar (aE 4 n r) G)),.p (ah (m 3) (ar (aE 4 n r) H))],.box 73 [.p (ah (m 0) (ar (aw 4 n) A)),.p (ah (m 1) (ar (aH 4 n) B)),.p (ah (m 2) (ar (aE 4 n r) G)),.p (ah (m 3) (ar (aE 4 n r) H))]]))
   (fun i=>i<=4) (fun i=>4-i) 0 [0,1] (Nat.zero_le _) ⟨rfl,by simp,rfl,rfl,rfl,⟨rfl,rfl,rfl,trivial⟩,⟨rfl,rfl,trivial⟩⟩ ?_
  intro i hi
  have hi:i<=4:=hi
  rcases(show i=0\/i=1\/i=2\/i=3\/i=4 by omega)with rfl|rfl|rfl|rfl|rfl
  ·refine ag.yes (rfl) ?_
   refine aG.mk 0 _ rfl rfl ?_
   refine ab.pure (bN (m 0) (ar (aw 4 n) A) (fun i hi=>by rw[az]at hi;rw[bj hi];exact bu _ ((h.bA i hi).mono (by omega))) (by rw[az];exact Nat.le_trans (cb 0) (by decide))) ?_
   refine a8.mk (fun h=>by cases h) (fun _=>?_)
   refine ae.ao ((0+1:Nat):Int) (by omega) (by omega) ?_
   exact⟨0+1,[0,1],by decide,by decide,⟨rfl,by simp,rfl,rfl,rfl,⟨rfl,rfl,rfl,trivial⟩,⟨rfl,rfl,trivial⟩⟩⟩
  ·refine ag.yes (rfl) ?_
   refine aG.mk 1 _ rfl rfl ?_
   refine ab.pure (bN (m 1) (ar (aH 4 n) B) (fun i hi=>by rw[az]at hi;rw[bj hi];exact bu _ ((h.bB i hi).mono (by omega))) (by rw[az];exact Nat.le_trans (cb 1) (by decide))) ?_
   refine a8.mk (fun h=>by cases h) (fun _=>?_)
   refine ae.ao ((1+1:Nat):Int) (by omega) (by omega) ?_
   exact⟨1+1,[0,1],by decide,by decide,⟨rfl,by simp,rfl,rfl,rfl,⟨rfl,rfl,rfl,trivial⟩,⟨rfl,rfl,trivial⟩⟩⟩
  ·refine ag.yes (rfl) ?_
   refine aG.mk 2 _ rfl rfl ?_
   refine ab.pure (bN (m 2) (ar (aE 4 n r) G) (fun i hi=>by rw[az]at hi;rw[bj hi];exact bu _ ((h.bG i hi).mono (by omega))) (by rw[az];exact Nat.le_trans (cb 2) (by decide))) ?_
   refine a8.mk (fun h=>by cases h) (fun _=>?_)
   refine ae.ao ((2+1:Nat):Int) (by omega) (by omega) ?_
   exact⟨2+1,[0,1],by decide,by decide,⟨rfl,by simp,rfl,rfl,rfl,⟨rfl,rfl,rfl,trivial⟩,⟨rfl,rfl,trivial⟩⟩⟩
  ·refine ag.yes (rfl) ?_
   refine aG.mk 3 _ rfl rfl ?_
   refine ab.pure (bN (m 3) (ar (aE 4 n r) H) (fun i hi=>by rw[az]at hi;rw[bj hi];exact bu _ ((h.bH i hi).mono (by omega))) (by rw[az];exact Nat.le_trans (cb 3) (by decide))) ?_
   refine a8.mk (fun h=>by cases h) (fun _=>?_)
   refine ae.ao ((3+1:Nat):Int) (by omega) (by omega) ?_
   exact⟨3+1,[0,1],by decide,by decide,⟨rfl,by simp,rfl,rfl,rfl,⟨rfl,rfl,rfl,trivial⟩,⟨rfl,rfl,trivial⟩⟩⟩
  ·refine ag.no (rfl) ?_
   refine SZ.mk ((aw 4 n:Nat):Int) (by simp[ar]) ?_
   refine aM.mk Nat (fun i=>([(1,.aF 0 0),(68,.p (ah (m 0) (ar (aw 4 n) A))),(69,.p (.int .i64 ((aw 4 n:Nat):Int))),(70,.p (.int .i64 i))],[.box 26 [.p (.int .i64 ((4:Nat):Int)),.p (.int .i64 (n:Int)),.p (.int .i64 (r:Int)),.p (ah (m 0) (ar (aw 4 n) A)),.p (ah (m 1) (ar (aH 4 n) B)),.p (ah (m 2) (ar (aE 4 n r) G)),.p (ah (m 3) (ar (aE 4 n r) H))],.box 73 [.p (ah (m 0) (ar (aw 4 n) A)),.p (ah (m 1) (ar (aH 4 n) B)),.p (ah (m 2) (ar (aE 4 n r) G)),.p (ah (m 3) (ar (aE 4 n r) H))]]))
    (fun i=>i<=aw 4 n) (fun i=>aw 4 n-i) 0 [0,1] (Nat.zero_le _) ⟨rfl,by simp,rfl,rfl,rfl,⟨rfl,rfl,rfl,rfl,trivial⟩,⟨rfl,rfl,trivial⟩⟩ ?_
   intro i hi
   have hi:i<=aw 4 n:=hi
   have cA:=cb 0
   by_cases hia:i<aw 4 n
   ·refine ag.yes (decide_eq_true (by omega)) ?_
    refine aG.rf i rfl hia ?_
    have hz:=(h.bA i hia).mono (show b<=c by omega)
    have hc2:=gD (m 1) true (A i) (ar (aH 4 n) B) (fun j hj=>by
     rw[az]at hj;rw[bj hj]
     have:=fz true (A i) (B j) hz (h.bB j hj) (by omega)
     rw[decide_eq_false (h.ne i j hia hj)]at this
     exact this) (by rw[az];exact Nat.le_trans (cb 1) (by decide))
    refine ab.pure (pvs:=[ah (m 1) (ar (aH 4 n) B),.fn 96 [.eT true (aJ (A i))]]) hc2 ?_
    refine a8.mk (fun h=>by cases h) (fun _=>?_)
    refine ae.ao ((i+1:Nat):Int) (by omega) (by omega) ?_
    exact⟨i+1,[0,1],hia,by show aw 4 n-(i+1)<aw 4 n-i;omega,⟨rfl,by simp,rfl,rfl,rfl,⟨rfl,rfl,rfl,rfl,trivial⟩,⟨rfl,rfl,trivial⟩⟩⟩
   ·refine ag.no (decide_eq_false (by omega)) ?_
    exact aq.pure (.p _ (.int _ _))
theorem uu (m:Nat->Bool) (n r:Nat) (A B G H:Nat->Rat) {b c:Nat} (h:Wf ⟨5,n,r,A,B,G,H⟩ b c):au Tryz.prog 40 [cG m ⟨5,n,r,A,B,G,H⟩] (.p (.int .i64 0)) []:=by
 have n6:n<=6:=h.n6
 have n1:1<=n:=h.n1
 have r2:r<=2:=h.r2
 have hnr:n*r<=12:=Nat.mul_le_mul n6 r2
 have hc4:=h.c4
 have hbc:=h.bc
 have cc:=bU (k:=5) (r:=r) n1 (show n<=8 by omega) (show r<=3 by omega)
 have cb:∀i:Nat,(if i=0 then aw 5 n else if i=1 then aH 5 n else aE 5 n r)<=24:=fun i=>by split<;>(try split)<;>omega
 show au Tryz.prog 40 [.agg [.int .i64 ((5:Nat):Int),.int .i64 (n:Int),.int .i64 (r:Int),ah (m 0) (ar (aw 5 n) A),ah (m 1) (ar (aH 5 n) B),ah (m 2) (ar (aE 5 n r) G),ah (m 3) (ar (aE 5 n r) H)]] (.p (.int .i64 0)) []
 refine aa (wr:=a9) a6 mixed Tryz.func40 (by kernel_rfl) rfl (by kernel_rfl) (af rfl) (by simp) ?_
 refine ag.no (decide_eq_false (by omega)) ?_
 refine ag.no (decide_eq_false (by omega)) ?_
 refine ab.pure (gM m ⟨5,n,r,A,B,G,H⟩ h) ?_
 refine ag.no (rfl) ?_
 refine ab.ni [cG m ⟨5,n,r,A,B,G,H⟩] _ rfl (eF m ⟨5,n,r,A,B,G,H⟩) ?_
 refine ab.pure (fG) ?_
 refine aM.mk Nat (fun i=>([(1,.aF 0 0),(3,.aF 1 0),(4,.p (.mp false pG)),(28,.p (.agg [ah (m 0) (ar (aw 5 n) A),ah (m 1) (ar (aH 5 n) B),ah (m 2) (ar (aE 5 n r) G),ah (m 3) (ar (aE 5 n r) H)])),(29,.p (.int .i64 i))],[.box 26 [.p (.int .i64 ((5:Nat):Int)),.p (.int .i64 (n:Int)),.p (.int .i64 (r:Int)),.p (ah (m 0) (ar (aw 5 n) A)),.p (ah (m 1) (ar (aH 5 n) B)),.p (ah (m 2) (ar (aE 5 n r) G)),.p (ah (m 3) (ar (aE 5 n r) H))],.box 73 [.p (ah (m 0) (ar (aw 5 n) A)),.p (ah (m 1) (ar (aH 5 n) B)),.p (ah (m 2) (ar (aE 5 n r) G)),.p (ah (m 3) (ar (aE 5 n r) H))]]))
  (fun i=>i<=4) (fun i=>4-i) 0 [0,1] (Nat.zero_le _) ⟨rfl,by simp,rfl,rfl,rfl,⟨rfl,rfl,rfl,rfl,rfl,trivial⟩,⟨rfl,rfl,trivial⟩⟩ ?_
 intro i hi
 have hi:i<=4:=hi
 rcases(show i=0\/i=1\/i=2\/i=3\/i=4 by omega)with rfl|rfl|rfl|rfl|rfl
 ·refine ag.yes (rfl) ?_
  refine aG.mk 0 _ rfl rfl ?_
  refine a5.all rfl<|cd.at 4 _ rfl rfl rfl ?_
  refine SZ.mk ((aw 5 n:Nat):Int) (by simp[ar]) ?_
  refine aI.mk 0 rfl (by decide) ?_
  refine ae.ao ((1*n:Nat):Int) (by omega) (by omega) ?_
  refine aI.mk 1 rfl (by decide) ?_
  refine ae.ao ((0*n:Nat):Int) (by omega) (by omega) ?_
  refine ae.ao ((0:Nat):Int) (by simp) (by omega) ?_
  refine ae.ao ((1*n+0:Nat):Int) (by omega) (by omega) ?_
  refine aI.mk 2 rfl (by decide) ?_
  refine ae.ao ((aw 5 n:Nat):Int) (by simp[aw,aH,aE]<;>omega) (by have:=bU (k:=5) (r:=r) n1 (show n<=8 by omega) (show r<=3 by omega);omega) ?_
  refine ag.no (f0 rfl) ?_
  refine ae.ao ((0+1:Nat):Int) (by omega) (by omega) ?_
  exact⟨0+1,[0,1],by decide,by decide,⟨rfl,by simp,rfl,rfl,rfl,⟨rfl,rfl,rfl,rfl,rfl,trivial⟩,⟨rfl,rfl,trivial⟩⟩⟩
 ·refine ag.yes (rfl) ?_
  refine aG.mk 1 _ rfl rfl ?_
  refine a5.all rfl<|cd.at 5 _ rfl rfl rfl ?_
  refine SZ.mk ((aH 5 n:Nat):Int) (by simp[ar]) ?_
  refine aI.mk 0 rfl (by decide) ?_
  refine ae.ao ((1*n:Nat):Int) (by omega) (by omega) ?_
  refine aI.mk 1 rfl (by decide) ?_
  refine ae.ao ((0*n:Nat):Int) (by omega) (by omega) ?_
  refine ae.ao ((0:Nat):Int) (by simp) (by omega) ?_
  refine ae.ao ((1*n+0:Nat):Int) (by omega) (by omega) ?_
  refine aI.mk 2 rfl (by decide) ?_
  refine ae.ao ((aH 5 n:Nat):Int) (by simp[aw,aH,aE]<;>omega) (by have:=bU (k:=5) (r:=r) n1 (show n<=8 by omega) (show r<=3 by omega);omega) ?_
  refine ag.no (f0 rfl) ?_
  refine ae.ao ((1+1:Nat):Int) (by omega) (by omega) ?_
  exact⟨1+1,[0,1],by decide,by decide,⟨rfl,by simp,rfl,rfl,rfl,⟨rfl,rfl,rfl,rfl,rfl,trivial⟩,⟨rfl,rfl,trivial⟩⟩⟩
 ·refine ag.yes (rfl) ?_
  refine aG.mk 2 _ rfl rfl ?_
  refine a5.all rfl<|cd.none rfl ?_
  refine SZ.mk ((aE 5 n r:Nat):Int) (by simp[ar]) ?_
  refine aI.mk 0 rfl (by decide) ?_
  refine ae.ao ((0*n:Nat):Int) (by omega) (by omega) ?_
  refine aI.mk 1 rfl (by decide) ?_
  refine ae.ao ((0*n:Nat):Int) (by omega) (by omega) ?_
  refine ae.ao ((0:Nat):Int) (by simp) (by omega) ?_
  refine ae.ao ((0*n+0:Nat):Int) (by omega) (by omega) ?_
  refine aI.mk 2 rfl (by decide) ?_
  refine ae.ao ((aE 5 n r:Nat):Int) (by simp[aw,aH,aE]<;>omega) (by have:=bU (k:=5) (r:=r) n1 (show n<=8 by omega) (show r<=3 by omega);omega) ?_
  refine ag.no (f0 rfl) ?_
  refine ae.ao ((2+1:Nat):Int) (by omega) (by omega) ?_
  exact⟨2+1,[0,1],by decide,by decide,⟨rfl,by simp,rfl,rfl,rfl,⟨rfl,rfl,rfl,rfl,rfl,trivial⟩,⟨rfl,rfl,trivial⟩⟩⟩
 ·refine ag.yes (rfl) ?_
  refine aG.mk 3 _ rfl rfl ?_
  refine a5.all rfl<|cd.none rfl ?_
  refine SZ.mk ((aE 5 n r:Nat):Int) (by simp[ar]) ?_
  refine aI.mk 0 rfl (by decide) ?_
  refine ae.ao ((0*n:Nat):Int) (by omega) (by omega) ?_
  refine aI.mk 1 rfl (by decide) ?_
  refine ae.ao ((0*n:Nat):Int) (by omega) (by omega) ?_
  refine ae.ao ((0:Nat):Int) (by simp) (by omega) ?_
  refine ae.ao ((0*n+0:Nat):Int) (by omega) (by omega) ?_
  refine aI.mk 2 rfl (by decide) ?_
  refine ae.ao ((aE 5 n r:Nat):Int) (by simp[aw,aH,aE]<;>omega) (by have:=bU (k:=5) (r:=r) n1 (show n<=8 by omega) (show r<=3 by omega);omega) ?_
  refine ag.no (f0 rfl) ?_
  refine ae.ao ((3+1:Nat):Int) (by omega) (by omega) ?_
  exact⟨3+1,[0,1],by decide,by decide,⟨rfl,by simp,rfl,rfl,rfl,⟨rfl,rfl,rfl,rfl,rfl,trivial⟩,⟨rfl,rfl,trivial⟩⟩⟩
 ·refine ag.no (rfl) ?_
  refine aM.mk Nat (fun i=>([(1,.aF 0 0),(60,.p (.agg [ah (m 0) (ar (aw 5 n) A),ah (m 1) (ar (aH 5 n) B),ah (m 2) (ar (aE 5 n r) G),ah (m 3) (ar (aE 5 n r) H)])),(61,.p (.int .i64 i))],[.box 26 [.p (.int .i64 ((5:Nat):Int)),.p (.int .i64 (n:Int)),.p (.int .i64 (r:Int)),.p (ah (m 0) (ar (aw 5 n) A)),.p (ah (m 1) (ar (aH 5 n) B)),.p (ah (m 2) (ar (aE 5 n r) G)),.p (ah (m 3) (ar (aE 5 n r) H))],.box 73 [.p (ah (m 0) (ar (aw 5 n) A)),.p (ah (m 1) (ar (aH 5 n) B)),.p (ah (m 2) (ar (aE 5 n r) G)),.p (ah (m 3) (ar (aE 5 n r) H))]]))
   (fun i=>i<=4) (fun i=>4-i) 0 [0,1] (Nat.zero_le _) ⟨rfl,by simp,rfl,rfl,rfl,⟨rfl,rfl,rfl,trivial⟩,⟨rfl,rfl,trivial⟩⟩ ?_
  intro i hi
  have hi:i<=4:=hi
  rcases(show i=0\/i=1\/i=2\/i=3\/i=4 by omega)with rfl|rfl|rfl|rfl|rfl
  ·refine ag.yes (rfl) ?_
   refine aG.mk 0 _ rfl rfl ?_
   refine ab.pure (bN (m 0) (ar (aw 5 n) A) (fun i hi=>by rw[az]at hi;rw[bj hi];exact bu _ ((h.bA i hi).mono (by omega))) (by rw[az];exact Nat.le_trans (cb 0) (by decide))) ?_
   refine a8.mk (fun h=>by cases h) (fun _=>?_)
   refine ae.ao ((0+1:Nat):Int) (by omega) (by omega) ?_
   exact⟨0+1,[0,1],by decide,by decide,⟨rfl,by simp,rfl,rfl,rfl,⟨rfl,rfl,rfl,trivial⟩,⟨rfl,rfl,trivial⟩⟩⟩
  ·refine ag.yes (rfl) ?_
   refine aG.mk 1 _ rfl rfl ?_
   refine ab.pure (bN (m 1) (ar (aH 5 n) B) (fun i hi=>by rw[az]at hi;rw[bj hi];exact bu _ ((h.bB i hi).mono (by omega))) (by rw[az];exact Nat.le_trans (cb 1) (by decide))) ?_
   refine a8.mk (fun h=>by cases h) (fun _=>?_)
   refine ae.ao ((1+1:Nat):Int) (by omega) (by omega) ?_
   exact⟨1+1,[0,1],by decide,by decide,⟨rfl,by simp,rfl,rfl,rfl,⟨rfl,rfl,rfl,trivial⟩,⟨rfl,rfl,trivial⟩⟩⟩
  ·refine ag.yes (rfl) ?_
   refine aG.mk 2 _ rfl rfl ?_
   refine ab.pure (bN (m 2) (ar (aE 5 n r) G) (fun i hi=>by rw[az]at hi;rw[bj hi];exact bu _ ((h.bG i hi).mono (by omega))) (by rw[az];exact Nat.le_trans (cb 2) (by decide))) ?_
   refine a8.mk (fun h=>by cases h) (fun _=>?_)
   refine ae.ao ((2+1:Nat):Int) (by omega) (by omega) ?_
   exact⟨2+1,[0,1],by decide,by decide,⟨rfl,by simp,rfl,rfl,rfl,⟨rfl,rfl,rfl,trivial⟩,⟨rfl,rfl,trivial⟩⟩⟩
  ·refine ag.yes (rfl) ?_
   refine aG.mk 3 _ rfl rfl ?_
   refine ab.pure (bN (m 3) (ar (aE 5 n r) H) (fun i hi=>by rw[az]at hi;rw[bj hi];exact bu _ ((h.bH i hi).mono (by omega))) (by rw[az];exact Nat.le_trans (cb 3) (by decide))) ?_
   refine a8.mk (fun h=>by cases h) (fun _=>?_)
   refine ae.ao ((3+1:Nat):Int) (by omega) (by omega) ?_
   exact⟨3+1,[0,1],by decide,by decide,⟨rfl,by simp,rfl,rfl,rfl,⟨rfl,rfl,rfl,trivial⟩,⟨rfl,rfl,trivial⟩⟩⟩
  ·refine ag.no (rfl) ?_
   refine SZ.mk ((aw 5 n:Nat):Int) (by simp[ar]) ?_
   refine aM.mk Nat (fun i=>([(1,.aF 0 0),(68,.p (ah (m 0) (ar (aw 5 n) A))),(69,.p (.int .i64 ((aw 5 n:Nat):Int))),(70,.p (.int .i64 i))],[.box 26 [.p (.int .i64 ((5:Nat):Int)),.p (.int .i64 (n:Int)),.p (.int .i64 (r:Int)),.p (ah (m 0) (ar (aw 5 n) A)),.p (ah (m 1) (ar (aH 5 n) B)),.p (ah (m 2) (ar (aE 5 n r) G)),.p (ah (m 3) (ar (aE 5 n r) H))],.box 73 [.p (ah (m 0) (ar (aw 5 n) A)),.p (ah (m 1) (ar (aH 5 n) B)),.p (ah (m 2) (ar (aE 5 n r) G)),.p (ah (m 3) (ar (aE 5 n r) H))]]))
    (fun i=>i<=aw 5 n) (fun i=>aw 5 n-i) 0 [0,1] (Nat.zero_le _) ⟨rfl,by simp,rfl,rfl,rfl,⟨rfl,rfl,rfl,rfl,trivial⟩,⟨rfl,rfl,trivial⟩⟩ ?_
   intro i hi
   have hi:i<=aw 5 n:=hi
   have cA:=cb 0
   by_cases hia:i<aw 5 n
   ·refine ag.yes (decide_eq_true (by omega)) ?_
    refine aG.rf i rfl hia ?_
    have hz:=(h.bA i hia).mono (show b<=c by omega)
    have hc2:=gD (m 1) true (A i) (ar (aH 5 n) B) (fun j hj=>by
     rw[az]at hj;rw[bj hj]
     have:=fz true (A i) (B j) hz (h.bB j hj) (by omega)
     rw[decide_eq_false (h.ne i j hia hj)]at this
     exact this) (by rw[az];exact Nat.le_trans (cb 1) (by decide))
    refine ab.pure (pvs:=[ah (m 1) (ar (aH 5 n) B),.fn 96 [.eT true (aJ (A i))]]) hc2 ?_
    refine a8.mk (fun h=>by cases h) (fun _=>?_)
    refine ae.ao ((i+1:Nat):Int) (by omega) (by omega) ?_
    exact⟨i+1,[0,1],hia,by show aw 5 n-(i+1)<aw 5 n-i;omega,⟨rfl,by simp,rfl,rfl,rfl,⟨rfl,rfl,rfl,rfl,trivial⟩,⟨rfl,rfl,trivial⟩⟩⟩
   ·refine ag.no (decide_eq_false (by omega)) ?_
    exact aq.pure (.p _ (.int _ _))
theorem ui (m:Nat->Bool) (n r:Nat) (A B G H:Nat->Rat) {b c:Nat} (h:Wf ⟨6,n,r,A,B,G,H⟩ b c):au Tryz.prog 40 [cG m ⟨6,n,r,A,B,G,H⟩] (.p (.int .i64 0)) []:=by
 have n6:n<=6:=h.n6
 have n1:1<=n:=h.n1
 have r2:r<=2:=h.r2
 have hnr:n*r<=12:=Nat.mul_le_mul n6 r2
 have hc4:=h.c4
 have hbc:=h.bc
 have cc:=bU (k:=6) (r:=r) n1 (show n<=8 by omega) (show r<=3 by omega)
 have cb:∀i:Nat,(if i=0 then aw 6 n else if i=1 then aH 6 n else aE 6 n r)<=24:=fun i=>by split<;>(try split)<;>omega
 show au Tryz.prog 40 [.agg [.int .i64 ((6:Nat):Int),.int .i64 (n:Int),.int .i64 (r:Int),ah (m 0) (ar (aw 6 n) A),ah (m 1) (ar (aH 6 n) B),ah (m 2) (ar (aE 6 n r) G),ah (m 3) (ar (aE 6 n r) H)]] (.p (.int .i64 0)) []
 refine aa (wr:=a9) a6 mixed Tryz.func40 (by kernel_rfl) rfl (by kernel_rfl) (af rfl) (by simp) ?_
 refine ag.no (decide_eq_false (by omega)) ?_
 refine ag.no (decide_eq_false (by omega)) ?_
 refine ab.pure (gM m ⟨6,n,r,A,B,G,H⟩ h) ?_
 refine ag.no (rfl) ?_
 refine ab.ni [cG m ⟨6,n,r,A,B,G,H⟩] _ rfl (eF m ⟨6,n,r,A,B,G,H⟩) ?_
 refine ab.pure (fG) ?_
 refine aM.mk Nat (fun i=>([(1,.aF 0 0),(3,.aF 1 0),(4,.p (.mp false pG)),(28,.p (.agg [ah (m 0) (ar (aw 6 n) A),ah (m 1) (ar (aH 6 n) B),ah (m 2) (ar (aE 6 n r) G),ah (m 3) (ar (aE 6 n r) H)])),(29,.p (.int .i64 i))],[.box 26 [.p (.int .i64 ((6:Nat):Int)),.p (.int .i64 (n:Int)),.p (.int .i64 (r:Int)),.p (ah (m 0) (ar (aw 6 n) A)),.p (ah (m 1) (ar (aH 6 n) B)),.p (ah (m 2) (ar (aE 6 n r) G)),.p (ah (m 3) (ar (aE 6 n r) H))],.box 73 [.p (ah (m 0) (ar (aw 6 n) A)),.p (ah (m 1) (ar (aH 6 n) B)),.p (ah (m 2) (ar (aE 6 n r) G)),.p (ah (m 3) (ar (aE 6 n r) H))]]))
  (fun i=>i<=4) (fun i=>4-i) 0 [0,1] (Nat.zero_le _) ⟨rfl,by simp,rfl,rfl,rfl,⟨rfl,rfl,rfl,rfl,rfl,trivial⟩,⟨rfl,rfl,trivial⟩⟩ ?_
 intro i hi
 have hi:i<=4:=hi
 rcases(show i=0\/i=1\/i=2\/i=3\/i=4 by omega)with rfl|rfl|rfl|rfl|rfl
 ·refine ag.yes (rfl) ?_
  refine aG.mk 0 _ rfl rfl ?_
  refine a5.all rfl<|cd.none rfl ?_
  refine SZ.mk ((aw 6 n:Nat):Int) (by simp[ar]) ?_
  refine aI.mk 0 rfl (by decide) ?_
  refine ae.ao ((0*n:Nat):Int) (by omega) (by omega) ?_
  refine aI.mk 1 rfl (by decide) ?_
  refine ae.ao ((0*n:Nat):Int) (by omega) (by omega) ?_
  refine ae.ao ((0:Nat):Int) (by simp) (by omega) ?_
  refine ae.ao ((0*n+0:Nat):Int) (by omega) (by omega) ?_
  refine aI.mk 2 rfl (by decide) ?_
  refine ae.ao ((aw 6 n:Nat):Int) (by simp[aw,aH,aE]<;>omega) (by have:=bU (k:=6) (r:=r) n1 (show n<=8 by omega) (show r<=3 by omega);omega) ?_
  refine ag.no (f0 rfl) ?_
  refine ae.ao ((0+1:Nat):Int) (by omega) (by omega) ?_
  exact⟨0+1,[0,1],by decide,by decide,⟨rfl,by simp,rfl,rfl,rfl,⟨rfl,rfl,rfl,rfl,rfl,trivial⟩,⟨rfl,rfl,trivial⟩⟩⟩
 ·refine ag.yes (rfl) ?_
  refine aG.mk 1 _ rfl rfl ?_
  refine a5.all rfl<|cd.none rfl ?_
  refine SZ.mk ((aH 6 n:Nat):Int) (by simp[ar]) ?_
  refine aI.mk 0 rfl (by decide) ?_
  refine ae.ao ((0*n:Nat):Int) (by omega) (by omega) ?_
  refine aI.mk 1 rfl (by decide) ?_
  refine ae.ao ((0*n:Nat):Int) (by omega) (by omega) ?_
  refine ae.ao ((0:Nat):Int) (by simp) (by omega) ?_
  refine ae.ao ((0*n+0:Nat):Int) (by omega) (by omega) ?_
  refine aI.mk 2 rfl (by decide) ?_
  refine ae.ao ((aH 6 n:Nat):Int) (by simp[aw,aH,aE]<;>omega) (by have:=bU (k:=6) (r:=r) n1 (show n<=8 by omega) (show r<=3 by omega);omega) ?_
  refine ag.no (f0 rfl) ?_
  refine ae.ao ((1+1:Nat):Int) (by omega) (by omega) ?_
  exact⟨1+1,[0,1],by decide,by decide,⟨rfl,by simp,rfl,rfl,rfl,⟨rfl,rfl,rfl,rfl,rfl,trivial⟩,⟨rfl,rfl,trivial⟩⟩⟩
 ·refine ag.yes (rfl) ?_
  refine aG.mk 2 _ rfl rfl ?_
  refine a5.all rfl<|cd.at 6 _ rfl rfl rfl ?_
  refine SZ.mk ((aE 6 n r:Nat):Int) (by simp[ar]) ?_
  refine aI.mk 0 rfl (by decide) ?_
  refine ae.ao ((0*n:Nat):Int) (by omega) (by omega) ?_
  refine aI.mk 1 rfl (by decide) ?_
  refine ae.ao ((1*n:Nat):Int) (by omega) (by omega) ?_
  refine ae.ao ((n*r:Nat):Int) (by rw[Int.natCast_mul];simp) (by omega) ?_
  refine ae.ao ((0*n+n*r:Nat):Int) (by omega) (by omega) ?_
  refine aI.mk 2 rfl (by decide) ?_
  refine ae.ao ((aE 6 n r:Nat):Int) (by simp[aw,aH,aE]<;>omega) (by have:=bU (k:=6) (r:=r) n1 (show n<=8 by omega) (show r<=3 by omega);omega) ?_
  refine ag.no (f0 rfl) ?_
  refine ae.ao ((2+1:Nat):Int) (by omega) (by omega) ?_
  exact⟨2+1,[0,1],by decide,by decide,⟨rfl,by simp,rfl,rfl,rfl,⟨rfl,rfl,rfl,rfl,rfl,trivial⟩,⟨rfl,rfl,trivial⟩⟩⟩
 ·refine ag.yes (rfl) ?_
  refine aG.mk 3 _ rfl rfl ?_
  refine a5.all rfl<|cd.at 7 _ rfl rfl rfl ?_
  refine SZ.mk ((aE 6 n r:Nat):Int) (by simp[ar]) ?_
  refine aI.mk 0 rfl (by decide) ?_
  refine ae.ao ((0*n:Nat):Int) (by omega) (by omega) ?_
  refine aI.mk 1 rfl (by decide) ?_
  refine ae.ao ((1*n:Nat):Int) (by omega) (by omega) ?_
  refine ae.ao ((n*r:Nat):Int) (by rw[Int.natCast_mul];simp) (by omega) ?_
  refine ae.ao ((0*n+n*r:Nat):Int) (by omega) (by omega) ?_
  refine aI.mk 2 rfl (by decide) ?_
  refine ae.ao ((aE 6 n r:Nat):Int) (by simp[aw,aH,aE]<;>omega) (by have:=bU (k:=6) (r:=r) n1 (show n<=8 by omega) (show r<=3 by omega);omega) ?_
  refine ag.no (f0 rfl) ?_
  refine ae.ao ((3+1:Nat):Int) (by omega) (by omega) ?_
  exact⟨3+1,[0,1],by decide,by decide,⟨rfl,by simp,rfl,rfl,rfl,⟨rfl,rfl,rfl,rfl,rfl,trivial⟩,⟨rfl,rfl,trivial⟩⟩⟩
 ·refine ag.no (rfl) ?_
  refine aM.mk Nat (fun i=>([(1,.aF 0 0),(60,.p (.agg [ah (m 0) (ar (aw 6 n) A),ah (m 1) (ar (aH 6 n) B),ah (m 2) (ar (aE 6 n r) G),ah (m 3) (ar (aE 6 n r) H)])),(61,.p (.int .i64 i))],[.box 26 [.p (.int .i64 ((6:Nat):Int)),.p (.int .i64 (n:Int)),.p (.int .i64 (r:Int)),.p (ah (m 0) (ar (aw 6 n) A)),.p (ah (m 1) (ar (aH 6 n) B)),.p (ah (m 2) (ar (aE 6 n r) G)),.p (ah (m 3) (ar (aE 6 n r) H))],.box 73 [.p (ah (m 0) (ar (aw 6 n) A)),.p (ah (m 1) (ar (aH 6 n) B)),.p (ah (m 2) (ar (aE 6 n r) G)),.p (ah (m 3) (ar (aE 6 n r) H))]]))
   (fun i=>i<=4) (fun i=>4-i) 0 [0,1] (Nat.zero_le _) ⟨rfl,by simp,rfl,rfl,rfl,⟨rfl,rfl,rfl,trivial⟩,⟨rfl,rfl,trivial⟩⟩ ?_
  intro i hi
  have hi:i<=4:=hi
  rcases(show i=0\/i=1\/i=2\/i=3\/i=4 by omega)with rfl|rfl|rfl|rfl|rfl
  ·refine ag.yes (rfl) ?_
   refine aG.mk 0 _ rfl rfl ?_
   refine ab.pure (bN (m 0) (ar (aw 6 n) A) (fun i hi=>by rw[az]at hi;rw[bj hi];exact bu _ ((h.bA i hi).mono (by omega))) (by rw[az];exact Nat.le_trans (cb 0) (by decide))) ?_
   refine a8.mk (fun h=>by cases h) (fun _=>?_)
   refine ae.ao ((0+1:Nat):Int) (by omega) (by omega) ?_
   exact⟨0+1,[0,1],by decide,by decide,⟨rfl,by simp,rfl,rfl,rfl,⟨rfl,rfl,rfl,trivial⟩,⟨rfl,rfl,trivial⟩⟩⟩
  ·refine ag.yes (rfl) ?_
   refine aG.mk 1 _ rfl rfl ?_
   refine ab.pure (bN (m 1) (ar (aH 6 n) B) (fun i hi=>by rw[az]at hi;rw[bj hi];exact bu _ ((h.bB i hi).mono (by omega))) (by rw[az];exact Nat.le_trans (cb 1) (by decide))) ?_
   refine a8.mk (fun h=>by cases h) (fun _=>?_)
   refine ae.ao ((1+1:Nat):Int) (by omega) (by omega) ?_
   exact⟨1+1,[0,1],by decide,by decide,⟨rfl,by simp,rfl,rfl,rfl,⟨rfl,rfl,rfl,trivial⟩,⟨rfl,rfl,trivial⟩⟩⟩
  ·refine ag.yes (rfl) ?_
   refine aG.mk 2 _ rfl rfl ?_
   refine ab.pure (bN (m 2) (ar (aE 6 n r) G) (fun i hi=>by rw[az]at hi;rw[bj hi];exact bu _ ((h.bG i hi).mono (by omega))) (by rw[az];exact Nat.le_trans (cb 2) (by decide))) ?_
   refine a8.mk (fun h=>by cases h) (fun _=>?_)
   refine ae.ao ((2+1:Nat):Int) (by omega) (by omega) ?_
   exact⟨2+1,[0,1],by decide,by decide,⟨rfl,by simp,rfl,rfl,rfl,⟨rfl,rfl,rfl,trivial⟩,⟨rfl,rfl,trivial⟩⟩⟩
  ·refine ag.yes (rfl) ?_
   refine aG.mk 3 _ rfl rfl ?_
   refine ab.pure (bN (m 3) (ar (aE 6 n r) H) (fun i hi=>by rw[az]at hi;rw[bj hi];exact bu _ ((h.bH i hi).mono (by omega))) (by rw[az];exact Nat.le_trans (cb 3) (by decide))) ?_
   refine a8.mk (fun h=>by cases h) (fun _=>?_)
   refine ae.ao ((3+1:Nat):Int) (by omega) (by omega) ?_
   exact⟨3+1,[0,1],by decide,by decide,⟨rfl,by simp,rfl,rfl,rfl,⟨rfl,rfl,rfl,trivial⟩,⟨rfl,rfl,trivial⟩⟩⟩
  ·refine ag.no (rfl) ?_
   refine SZ.mk ((aw 6 n:Nat):Int) (by simp[ar]) ?_
   refine aM.mk Nat (fun i=>([(1,.aF 0 0),(68,.p (ah (m 0) (ar (aw 6 n) A))),(69,.p (.int .i64 ((aw 6 n:Nat):Int))),(70,.p (.int .i64 i))],[.box 26 [.p (.int .i64 ((6:Nat):Int)),.p (.int .i64 (n:Int)),.p (.int .i64 (r:Int)),.p (ah (m 0) (ar (aw 6 n) A)),.p (ah (m 1) (ar (aH 6 n) B)),.p (ah (m 2) (ar (aE 6 n r) G)),.p (ah (m 3) (ar (aE 6 n r) H))],.box 73 [.p (ah (m 0) (ar (aw 6 n) A)),.p (ah (m 1) (ar (aH 6 n) B)),.p (ah (m 2) (ar (aE 6 n r) G)),.p (ah (m 3) (ar (aE 6 n r) H))]]))
    (fun i=>i<=aw 6 n) (fun i=>aw 6 n-i) 0 [0,1] (Nat.zero_le _) ⟨rfl,by simp,rfl,rfl,rfl,⟨rfl,rfl,rfl,rfl,trivial⟩,⟨rfl,rfl,trivial⟩⟩ ?_
   intro i hi
   have hi:i<=aw 6 n:=hi
   have cA:=cb 0
   by_cases hia:i<aw 6 n
   ·refine ag.yes (decide_eq_true (by omega)) ?_
    refine aG.rf i rfl hia ?_
    have hz:=(h.bA i hia).mono (show b<=c by omega)
    have hc2:=gD (m 1) true (A i) (ar (aH 6 n) B) (fun j hj=>by
     rw[az]at hj;rw[bj hj]
     have:=fz true (A i) (B j) hz (h.bB j hj) (by omega)
     rw[decide_eq_false (h.ne i j hia hj)]at this
     exact this) (by rw[az];exact Nat.le_trans (cb 1) (by decide))
    refine ab.pure (pvs:=[ah (m 1) (ar (aH 6 n) B),.fn 96 [.eT true (aJ (A i))]]) hc2 ?_
    refine a8.mk (fun h=>by cases h) (fun _=>?_)
    refine ae.ao ((i+1:Nat):Int) (by omega) (by omega) ?_
    exact⟨i+1,[0,1],hia,by show aw 6 n-(i+1)<aw 6 n-i;omega,⟨rfl,by simp,rfl,rfl,rfl,⟨rfl,rfl,rfl,rfl,trivial⟩,⟨rfl,rfl,trivial⟩⟩⟩
   ·refine ag.no (decide_eq_false (by omega)) ?_
    exact aq.pure (.p _ (.int _ _))
theorem uw (m:Nat->Bool) (n r:Nat) (A B G H:Nat->Rat) {b c:Nat} (h:Wf ⟨7,n,r,A,B,G,H⟩ b c):au Tryz.prog 40 [cG m ⟨7,n,r,A,B,G,H⟩] (.p (.int .i64 0)) []:=by
 have n6:n<=6:=h.n6
 have n1:1<=n:=h.n1
 have r2:r<=2:=h.r2
 have hnr:n*r<=12:=Nat.mul_le_mul n6 r2
 have hc4:=h.c4
 have hbc:=h.bc
 have cc:=bU (k:=7) (r:=r) n1 (show n<=8 by omega) (show r<=3 by omega)
 have cb:∀i:Nat,(if i=0 then aw 7 n else if i=1 then aH 7 n else aE 7 n r)<=24:=fun i=>by split<;>(try split)<;>omega
 show au Tryz.prog 40 [.agg [.int .i64 ((7:Nat):Int),.int .i64 (n:Int),.int .i64 (r:Int),ah (m 0) (ar (aw 7 n) A),ah (m 1) (ar (aH 7 n) B),ah (m 2) (ar (aE 7 n r) G),ah (m 3) (ar (aE 7 n r) H)]] (.p (.int .i64 0)) []
 refine aa (wr:=a9) a6 mixed Tryz.func40 (by kernel_rfl) rfl (by kernel_rfl) (af rfl) (by simp) ?_
 refine ag.no (decide_eq_false (by omega)) ?_
 refine ag.no (decide_eq_false (by omega)) ?_
 refine ab.pure (gM m ⟨7,n,r,A,B,G,H⟩ h) ?_
 refine ag.no (rfl) ?_
 refine ab.ni [cG m ⟨7,n,r,A,B,G,H⟩] _ rfl (eF m ⟨7,n,r,A,B,G,H⟩) ?_
 refine ab.pure (fG) ?_
 refine aM.mk Nat (fun i=>([(1,.aF 0 0),(3,.aF 1 0),(4,.p (.mp false pG)),(28,.p (.agg [ah (m 0) (ar (aw 7 n) A),ah (m 1) (ar (aH 7 n) B),ah (m 2) (ar (aE 7 n r) G),ah (m 3) (ar (aE 7 n r) H)])),(29,.p (.int .i64 i))],[.box 26 [.p (.int .i64 ((7:Nat):Int)),.p (.int .i64 (n:Int)),.p (.int .i64 (r:Int)),.p (ah (m 0) (ar (aw 7 n) A)),.p (ah (m 1) (ar (aH 7 n) B)),.p (ah (m 2) (ar (aE 7 n r) G)),.p (ah (m 3) (ar (aE 7 n r) H))],.box 73 [.p (ah (m 0) (ar (aw 7 n) A)),.p (ah (m 1) (ar (aH 7 n) B)),.p (ah (m 2) (ar (aE 7 n r) G)),.p (ah (m 3) (ar (aE 7 n r) H))]]))
  (fun i=>i<=4) (fun i=>4-i) 0 [0,1] (Nat.zero_le _) ⟨rfl,by simp,rfl,rfl,rfl,⟨rfl,rfl,rfl,rfl,rfl,trivial⟩,⟨rfl,rfl,trivial⟩⟩ ?_
 intro i hi
 have hi:i<=4:=hi
 rcases(show i=0\/i=1\/i=2\/i=3\/i=4 by omega)with rfl|rfl|rfl|rfl|rfl
 ·refine ag.yes (rfl) ?_
  refine aG.mk 0 _ rfl rfl ?_
  refine a5.all rfl<|cd.at 8 _ rfl rfl rfl ?_
  refine SZ.mk ((aw 7 n:Nat):Int) (by simp[ar]) ?_
  refine aI.mk 0 rfl (by decide) ?_
  refine ae.ao ((1*n:Nat):Int) (by omega) (by omega) ?_
  refine aI.mk 1 rfl (by decide) ?_
  refine ae.ao ((0*n:Nat):Int) (by omega) (by omega) ?_
  refine ae.ao ((0:Nat):Int) (by simp) (by omega) ?_
  refine ae.ao ((1*n+0:Nat):Int) (by omega) (by omega) ?_
  refine aI.mk 2 rfl (by decide) ?_
  refine ae.ao ((aw 7 n:Nat):Int) (by simp[aw,aH,aE]<;>omega) (by have:=bU (k:=7) (r:=r) n1 (show n<=8 by omega) (show r<=3 by omega);omega) ?_
  refine ag.no (f0 rfl) ?_
  refine ae.ao ((0+1:Nat):Int) (by omega) (by omega) ?_
  exact⟨0+1,[0,1],by decide,by decide,⟨rfl,by simp,rfl,rfl,rfl,⟨rfl,rfl,rfl,rfl,rfl,trivial⟩,⟨rfl,rfl,trivial⟩⟩⟩
 ·refine ag.yes (rfl) ?_
  refine aG.mk 1 _ rfl rfl ?_
  refine a5.all rfl<|cd.at 9 _ rfl rfl rfl ?_
  refine SZ.mk ((aH 7 n:Nat):Int) (by simp[ar]) ?_
  refine aI.mk 0 rfl (by decide) ?_
  refine ae.ao ((1*n:Nat):Int) (by omega) (by omega) ?_
  refine aI.mk 1 rfl (by decide) ?_
  refine ae.ao ((0*n:Nat):Int) (by omega) (by omega) ?_
  refine ae.ao ((0:Nat):Int) (by simp) (by omega) ?_
  refine ae.ao ((1*n+0:Nat):Int) (by omega) (by omega) ?_
  refine aI.mk 2 rfl (by decide) ?_
  refine ae.ao ((aH 7 n:Nat):Int) (by simp[aw,aH,aE]<;>omega) (by have:=bU (k:=7) (r:=r) n1 (show n<=8 by omega) (show r<=3 by omega);omega) ?_
  refine ag.no (f0 rfl) ?_
  refine ae.ao ((1+1:Nat):Int) (by omega) (by omega) ?_
  exact⟨1+1,[0,1],by decide,by decide,⟨rfl,by simp,rfl,rfl,rfl,⟨rfl,rfl,rfl,rfl,rfl,trivial⟩,⟨rfl,rfl,trivial⟩⟩⟩
 ·refine ag.yes (rfl) ?_
  refine aG.mk 2 _ rfl rfl ?_
  refine a5.all rfl<|cd.at 10 _ rfl rfl rfl ?_
  refine SZ.mk ((aE 7 n r:Nat):Int) (by simp[ar]) ?_
  refine aI.mk 0 rfl (by decide) ?_
  refine ae.ao ((0*n:Nat):Int) (by omega) (by omega) ?_
  refine aI.mk 1 rfl (by decide) ?_
  refine ae.ao ((1*n:Nat):Int) (by omega) (by omega) ?_
  refine ae.ao ((n*r:Nat):Int) (by rw[Int.natCast_mul];simp) (by omega) ?_
  refine ae.ao ((0*n+n*r:Nat):Int) (by omega) (by omega) ?_
  refine aI.mk 2 rfl (by decide) ?_
  refine ae.ao ((aE 7 n r:Nat):Int) (by simp[aw,aH,aE]<;>omega) (by have:=bU (k:=7) (r:=r) n1 (show n<=8 by omega) (show r<=3 by omega);omega) ?_
  refine ag.no (f0 rfl) ?_
  refine ae.ao ((2+1:Nat):Int) (by omega) (by omega) ?_
  exact⟨2+1,[0,1],by decide,by decide,⟨rfl,by simp,rfl,rfl,rfl,⟨rfl,rfl,rfl,rfl,rfl,trivial⟩,⟨rfl,rfl,trivial⟩⟩⟩
 ·refine ag.yes (rfl) ?_
  refine aG.mk 3 _ rfl rfl ?_
  refine a5.all rfl<|cd.at 11 _ rfl rfl rfl ?_
  refine SZ.mk ((aE 7 n r:Nat):Int) (by simp[ar]) ?_
  refine aI.mk 0 rfl (by decide) ?_
  refine ae.ao ((0*n:Nat):Int) (by omega) (by omega) ?_
  refine aI.mk 1 rfl (by decide) ?_
  refine ae.ao ((1*n:Nat):Int) (by omega) (by omega) ?_
  refine ae.ao ((n*r:Nat):Int) (by rw[Int.natCast_mul];simp) (by omega) ?_
  refine ae.ao ((0*n+n*r:Nat):Int) (by omega) (by omega) ?_
  refine aI.mk 2 rfl (by decide) ?_
  refine ae.ao ((aE 7 n r:Nat):Int) (by simp[aw,aH,aE]<;>omega) (by have:=bU (k:=7) (r:=r) n1 (show n<=8 by omega) (show r<=3 by omega);omega) ?_
  refine ag.no (f0 rfl) ?_
  refine ae.ao ((3+1:Nat):Int) (by omega) (by omega) ?_
  exact⟨3+1,[0,1],by decide,by decide,⟨rfl,by simp,rfl,rfl,rfl,⟨rfl,rfl,rfl,rfl,rfl,trivial⟩,⟨rfl,rfl,trivial⟩⟩⟩
 ·refine ag.no (rfl) ?_
  refine aM.mk Nat (fun i=>([(1,.aF 0 0),(60,.p (.agg [ah (m 0) (ar (aw 7 n) A),ah (m 1) (ar (aH 7 n) B),ah (m 2) (ar (aE 7 n r) G),ah (m 3) (ar (aE 7 n r) H)])),(61,.p (.int .i64 i))],[.box 26 [.p (.int .i64 ((7:Nat):Int)),.p (.int .i64 (n:Int)),.p (.int .i64 (r:Int)),.p (ah (m 0) (ar (aw 7 n) A)),.p (ah (m 1) (ar (aH 7 n) B)),.p (ah (m 2) (ar (aE 7 n r) G)),.p (ah (m 3) (ar (aE 7 n r) H))],.box 73 [.p (ah (m 0) (ar (aw 7 n) A)),.p (ah (m 1) (ar (aH 7 n) B)),.p (ah (m 2) (ar (aE 7 n r) G)),.p (ah (m 3) (ar (aE 7 n r) H))]]))
   (fun i=>i<=4) (fun i=>4-i) 0 [0,1] (Nat.zero_le _) ⟨rfl,by simp,rfl,rfl,rfl,⟨rfl,rfl,rfl,trivial⟩,⟨rfl,rfl,trivial⟩⟩ ?_
  intro i hi
  have hi:i<=4:=hi
  rcases(show i=0\/i=1\/i=2\/i=3\/i=4 by omega)with rfl|rfl|rfl|rfl|rfl
  ·refine ag.yes (rfl) ?_
   refine aG.mk 0 _ rfl rfl ?_
   refine ab.pure (bN (m 0) (ar (aw 7 n) A) (fun i hi=>by rw[az]at hi;rw[bj hi];exact bu _ ((h.bA i hi).mono (by omega))) (by rw[az];exact Nat.le_trans (cb 0) (by decide))) ?_
   refine a8.mk (fun h=>by cases h) (fun _=>?_)
   refine ae.ao ((0+1:Nat):Int) (by omega) (by omega) ?_
   exact⟨0+1,[0,1],by decide,by decide,⟨rfl,by simp,rfl,rfl,rfl,⟨rfl,rfl,rfl,trivial⟩,⟨rfl,rfl,trivial⟩⟩⟩
  ·refine ag.yes (rfl) ?_
   refine aG.mk 1 _ rfl rfl ?_
   refine ab.pure (bN (m 1) (ar (aH 7 n) B) (fun i hi=>by rw[az]at hi;rw[bj hi];exact bu _ ((h.bB i hi).mono (by omega))) (by rw[az];exact Nat.le_trans (cb 1) (by decide))) ?_
   refine a8.mk (fun h=>by cases h) (fun _=>?_)
   refine ae.ao ((1+1:Nat):Int) (by omega) (by omega) ?_
   exact⟨1+1,[0,1],by decide,by decide,⟨rfl,by simp,rfl,rfl,rfl,⟨rfl,rfl,rfl,trivial⟩,⟨rfl,rfl,trivial⟩⟩⟩
  ·refine ag.yes (rfl) ?_
   refine aG.mk 2 _ rfl rfl ?_
   refine ab.pure (bN (m 2) (ar (aE 7 n r) G) (fun i hi=>by rw[az]at hi;rw[bj hi];exact bu _ ((h.bG i hi).mono (by omega))) (by rw[az];exact Nat.le_trans (cb 2) (by decide))) ?_
   refine a8.mk (fun h=>by cases h) (fun _=>?_)
   refine ae.ao ((2+1:Nat):Int) (by omega) (by omega) ?_
   exact⟨2+1,[0,1],by decide,by decide,⟨rfl,by simp,rfl,rfl,rfl,⟨rfl,rfl,rfl,trivial⟩,⟨rfl,rfl,trivial⟩⟩⟩
  ·refine ag.yes (rfl) ?_
   refine aG.mk 3 _ rfl rfl ?_
   refine ab.pure (bN (m 3) (ar (aE 7 n r) H) (fun i hi=>by rw[az]at hi;rw[bj hi];exact bu _ ((h.bH i hi).mono (by omega))) (by rw[az];exact Nat.le_trans (cb 3) (by decide))) ?_
   refine a8.mk (fun h=>by cases h) (fun _=>?_)
   refine ae.ao ((3+1:Nat):Int) (by omega) (by omega) ?_
   exact⟨3+1,[0,1],by decide,by decide,⟨rfl,by simp,rfl,rfl,rfl,⟨rfl,rfl,rfl,trivial⟩,⟨rfl,rfl,trivial⟩⟩⟩
  ·refine ag.no (rfl) ?_
   refine SZ.mk ((aw 7 n:Nat):Int) (by simp[ar]) ?_
   refine aM.mk Nat (fun i=>([(1,.aF 0 0),(68,.p (ah (m 0) (ar (aw 7 n) A))),(69,.p (.int .i64 ((aw 7 n:Nat):Int))),(70,.p (.int .i64 i))],[.box 26 [.p (.int .i64 ((7:Nat):Int)),.p (.int .i64 (n:Int)),.p (.int .i64 (r:Int)),.p (ah (m 0) (ar (aw 7 n) A)),.p (ah (m 1) (ar (aH 7 n) B)),.p (ah (m 2) (ar (aE 7 n r) G)),.p (ah (m 3) (ar (aE 7 n r) H))],.box 73 [.p (ah (m 0) (ar (aw 7 n) A)),.p (ah (m 1) (ar (aH 7 n) B)),.p (ah (m 2) (ar (aE 7 n r) G)),.p (ah (m 3) (ar (aE 7 n r) H))]]))
    (fun i=>i<=aw 7 n) (fun i=>aw 7 n-i) 0 [0,1] (Nat.zero_le _) ⟨rfl,by simp,rfl,rfl,rfl,⟨rfl,rfl,rfl,rfl,trivial⟩,⟨rfl,rfl,trivial⟩⟩ ?_
   intro i hi
   have hi:i<=aw 7 n:=hi
   have cA:=cb 0
   by_cases hia:i<aw 7 n
   ·refine ag.yes (decide_eq_true (by omega)) ?_
    refine aG.rf i rfl hia ?_
    have hz:=(h.bA i hia).mono (show b<=c by omega)
    have hc2:=gD (m 1) true (A i) (ar (aH 7 n) B) (fun j hj=>by
     rw[az]at hj;rw[bj hj]
     have:=fz true (A i) (B j) hz (h.bB j hj) (by omega)
     rw[decide_eq_false (h.ne i j hia hj)]at this
     exact this) (by rw[az];exact Nat.le_trans (cb 1) (by decide))
    refine ab.pure (pvs:=[ah (m 1) (ar (aH 7 n) B),.fn 96 [.eT true (aJ (A i))]]) hc2 ?_
    refine a8.mk (fun h=>by cases h) (fun _=>?_)
    refine ae.ao ((i+1:Nat):Int) (by omega) (by omega) ?_
    exact⟨i+1,[0,1],hia,by show aw 7 n-(i+1)<aw 7 n-i;omega,⟨rfl,by simp,rfl,rfl,rfl,⟨rfl,rfl,rfl,rfl,trivial⟩,⟨rfl,rfl,trivial⟩⟩⟩
   ·refine ag.no (decide_eq_false (by omega)) ?_
    exact aq.pure (.p _ (.int _ _))
theorem fr (m:Nat->Bool) (g:GV) {b c:Nat} (h:Wf g b c):au Tryz.prog 40 [cG m g] (.p (.int .i64 0)) []:=by
 obtain⟨k,n,r,A,B,G,H⟩:=g
 rcases nC h.k1 h.k7 with e|e|e|e|e|e|e<;>(have e:k=_:=e;subst e)
 ·exact vz m n r A B G H h
 ·exact uN m n r A B G H h
 ·exact vn m n r A B G H h
 ·exact vO m n r A B G H h
 ·exact uu m n r A B G H h
 ·exact ui m n r A B G H h
 ·exact uw m n r A B G H h
theorem gv:aJ 1= .agg [.bool false,bC 1,bC 1]:=rfl
theorem jD:au Tryz.prog 129 [] (.p (aJ 0)) []:=by
 refine aa (wr:=a9) a6 mixed Tryz.func129 (by kernel_rfl) rfl (by kernel_rfl) (af rfl) (by simp) ?_
 refine aq.pure ?_
 rw[dF]
 exact f8 ⟨rfl,rfl,rfl⟩ (.p _ (.bool _)) (.p _ (.sl _ _ (fun e he=>by simp at he))) (iu rfl)
theorem xk:au Tryz.prog 132 [] (.p (aJ 1)) []:=by
 refine aa (wr:=a9) a6 mixed Tryz.func132 (by kernel_rfl) rfl (by kernel_rfl) (af rfl) (by simp) ?_
 refine aq.pure ?_
 rw[gv]
 exact f8 ⟨rfl,rfl,rfl⟩ (.p _ (.bool _)) (iu rfl) (iu rfl)
theorem xC (m:Nat->Bool) (g:GV) {b c:Nat} (h:Wf g b c) (hk:g.k=6\/g.k=7) (i j:Nat) (hi:i<g.n) (hj:j<g.n):
  au Tryz.prog 133 [cG m g,.int .i64 i,.int .i64 j] (.p (aJ (pN g i j))) []:=by
 have h8:=h.n6
 have h2:=h.r2
 have h4:=h.c4
 have h5:=h.bc
 have hlh:=h.lh hk
 have zP:=h.prod hk hi hj
 have zS:=ik zP
 have i0:i*g.r<=16:=Nat.mul_le_mul (show i<=8 by omega) h2
 have j0:j*g.r<=16:=Nat.mul_le_mul (show j<=8 by omega) h2
 have ic:((i*g.r:Nat):Int)=(i:Int)*(g.r:Int):=Int.natCast_mul i g.r
 have jc:((j*g.r:Nat):Int)=(j:Int)*(g.r:Int):=Int.natCast_mul j g.r
 refine aa (wr:=a9) a6 mixed Tryz.func133 (by kernel_rfl) rfl (by kernel_rfl) (af rfl) (by simp) ?_
 refine ab.pure (jD) ?_
 refine aM.mk Nat (fun t=>([(1,.p (.int .i64 i)),(2,.p (.int .i64 j)),(3,.aF 0 0),(6,.aF 1 0),(7,.aF 2 0),(11,.p (.int .i64 g.r)),(12,.p (.int .i64 t))],[.box 26 (nN m g),.box 38 ub,.box 38 (lW (sm t fun t=>g.G (i*g.r+t)*g.H (j*g.r+t)))]))
  (fun t=>t<=g.r) (fun t=>g.r-t) 0 [0,1,2] (Nat.zero_le _) ⟨rfl,by simp,rfl,rfl,rfl,⟨rfl,rfl,rfl,rfl,rfl,rfl,rfl,trivial⟩,⟨rfl,rfl,rfl,trivial⟩⟩ ?_
 intro t ht
 have ht:t<=g.r:=ht
 by_cases htr:t<g.r
 ·refine ag.yes (decide_eq_true (by omega)) ?_
  have l1:=r6 hi htr
  have l2:=r6 hj htr
  have lt:t*(2*b+1)<=2*(2*b+1):=Nat.mul_le_mul_right _ (by omega)
  refine aO.cM (by kernel_rfl) ?_
  repeat refine aj.mk _ _ (And.intro rfl rfl) rfl ?_
  refine aj.mk _ _ (ae.ao ((i*g.r:Nat):Int) (by omega) (by omega) (And.intro rfl rfl)) rfl ?_
  repeat refine aj.mk _ _ (And.intro rfl rfl) rfl ?_
  refine aj.mk _ _ (ae.ao ((i*g.r+t:Nat):Int) (by omega) (by omega) (And.intro rfl rfl)) rfl ?_
  refine aj.mk _ _ (aG.rf (i*g.r+t) rfl (by omega) (And.intro rfl rfl)) rfl ?_
  repeat refine aj.mk _ _ (And.intro rfl rfl) rfl ?_
  refine aj.mk _ _ (ae.ao ((j*g.r:Nat):Int) (by omega) (by omega) (And.intro rfl rfl)) rfl ?_
  repeat refine aj.mk _ _ (And.intro rfl rfl) rfl ?_
  refine aj.mk _ _ (ae.ao ((j*g.r+t:Nat):Int) (by omega) (by omega) (And.intro rfl rfl)) rfl ?_
  refine aj.mk _ _ (aG.rf (j*g.r+t) rfl (by omega) (And.intro rfl rfl)) rfl ?_
  repeat refine aj.mk _ _ (And.intro rfl rfl) rfl ?_
  refine aj.mk _ _ (ab.pure (b9 _ _ (h.bG _ (by omega)).sz (h.bH _ (by omega)).sz (by omega)) (And.intro rfl rfl)) rfl ?_
  refine aj.mk _ _ (ab.pure (dZ _ _ (zS t ht).sz (zP t htr).sz (by omega)) (And.intro rfl rfl)) rfl ?_
  repeat refine aj.mk _ _ (And.intro rfl rfl) rfl ?_
  refine br.mk (by kernel_rfl) ?_
  refine ae.ao ((t+1:Nat):Int) (by omega) (by omega) ?_
  exact⟨t+1,[0,1,2],htr,by show g.r-(t+1)<g.r-t;omega,⟨rfl,by simp,rfl,rfl,rfl,⟨rfl,rfl,rfl,rfl,rfl,rfl,rfl,trivial⟩,⟨rfl,rfl,rfl,trivial⟩⟩⟩
 ·refine ag.no (decide_eq_false (by omega)) ?_
  obtain rfl:t=g.r:=by omega
  exact aq.pure (.p _ (aS _ _ _))
theorem tL (m:Nat->Bool) (g:GV) {b c:Nat} (h:Wf g b c) (a:Rat) {d:Nat} (ha:Bz a d) (hd:d<=1000) (hk:g.k=5\/g.k=7) (i j:Nat) (hi:i<g.n) (hj:j<g.n):
  au Tryz.prog 131 [cG m g,aJ a,.int .i64 i,.int .i64 j] (.p (aJ (a/(g.A i-g.B j)))) []:=by
 have h4:=h.c4
 have h5:=h.bc
 have hl:=h.Cx (by omega)
 have hl2:=h.GI hk
 have hdf:=h.G4 (i:=i) (j:=j) (by omega) (by omega)
 refine aa (wr:=a9) a6 mixed Tryz.func131 (by kernel_rfl) rfl (by kernel_rfl) (af rfl) (by simp) ?_
 refine aO.cM (by kernel_rfl) ?_
 repeat refine aj.mk _ _ (And.intro rfl rfl) rfl ?_
 refine aj.mk _ _ (aG.rf i rfl (by omega) (And.intro rfl rfl)) rfl ?_
 repeat refine aj.mk _ _ (And.intro rfl rfl) rfl ?_
 refine aj.mk _ _ (aG.rf j rfl (by omega) (And.intro rfl rfl)) rfl ?_
 repeat refine aj.mk _ _ (And.intro rfl rfl) rfl ?_
 refine aj.mk _ _ (ab.pure (cn _ _ (h.bA i (by omega)).sz (h.bB j (by omega)).sz (by omega)) (And.intro rfl rfl)) rfl ?_
 refine aj.mk _ _ (ab.bg (fY a _ hdf.2 ha.sz hdf.1.sz (by omega)) (fun _=>rfl) (And.intro rfl rfl)) rfl ?_
 repeat refine aj.mk _ _ (And.intro rfl rfl) rfl ?_
 refine br.mk (by kernel_rfl) ?_
 exact aq.pure (.p _ (aS _ _ _))
theorem yh (a:Rat) {b:Nat} (ha:Bz a b) (hb:b<=100) (j:Nat) (hj:j<=8):au Tryz.prog 130 [aJ a,.int .i64 j] (.p (aJ (a^j))) []:=by
 refine aa (wr:=a9) a6 mixed Tryz.func130 (by kernel_rfl) rfl (by kernel_rfl) (af rfl) (by simp) ?_
 refine ab.pure (xk) ?_
 refine aM.mk (Nat×Rat) (fun(t,q)=>([(2,.aF 0 0),(4,.aF 1 0),(5,.aF 2 0),(7,.p (.int .i64 j)),(8,.p (.int .i64 t))],[.box 38 (lW a),.box 38 ub,.box 38 (lW q)]))
  (fun(t,q)=>t<=j/\q=a^t) (fun x=>j-x.1) (0,1) [0,1,2] ⟨Nat.zero_le _,(Rat.pow_zero _).symm⟩ ⟨rfl,by simp,rfl,rfl,rfl,⟨rfl,rfl,rfl,rfl,rfl,trivial⟩,⟨rfl,rfl,rfl,trivial⟩⟩ ?_
 intro⟨t,q⟩ ⟨ht,hq⟩
 by_cases htj:t<j
 ·refine ag.yes (decide_eq_true (by omega)) ?_
  have zq:Bz q (b*t+1):=by rw[hq];exact uL ha t
  have hbt:b*t<=b*8:=Nat.mul_le_mul_left _ (by omega)
  refine ab.pure (b9 _ _ zq.sz ha.sz (by omega)) ?_
  refine ae.ao ((t+1:Nat):Int) (by omega) (by omega) ?_
  exact⟨(t+1,q*a),[0,1,2],⟨htj,by rw[hq,Rat.pow_succ]⟩,by show j-(t+1)<j-t;omega,⟨rfl,by simp,rfl,rfl,rfl,⟨rfl,rfl,rfl,rfl,rfl,trivial⟩,⟨rfl,rfl,rfl,trivial⟩⟩⟩
 ·refine ag.no (decide_eq_false (by omega)) ?_
  obtain rfl:t=j:=by omega
  rw[<-hq]
  exact aq.pure (.p _ (aS _ _ _))
theorem gy {q:Rat} {k:Nat} (h:Bz q k) (hk:k<=1000000):au Tryz.prog 63 [aJ q,aJ 0] (.p (aJ q)) []:=by
 have:=dZ q 0 h.sz bS.sz (by omega)
 rw[Rat.add_zero]at this;exact this
theorem qE (m:Nat->Bool) (g:GV) {b c:Nat} (h:Wf g b c) (i j:Nat) (hi:i<g.n) (hj:j<g.n):
  au Tryz.prog 58 [cG m g,.int .i64 i,.int .i64 j] (.p (aJ (aW g i j))) []:=by
 have h8:=h.n6
 have h2:=h.r2
 have h4:=h.c4
 have h5:=h.bc
 rcases nC h.k1 h.k7 with e|e|e|e|e|e|e
 ·have hl:=h.DE (.inl e)
  have hE:aW g i j=g.A (i+g.n-1-j):=by unfold aW;rw[if_pos e]
  rw[hE]
  refine aa (wr:=a9) a6 mixed Tryz.func58 (by kernel_rfl) rfl (by kernel_rfl) (af rfl) (by simp) ?_
  refine ag.yes (decide_eq_true (by omega)) ?_
  refine aO.cM (by kernel_rfl) ?_
  repeat refine aj.mk _ _ (And.intro rfl rfl) rfl ?_
  refine aj.mk _ _ (ae.ao ((i:Int)-j) rfl (by omega) (And.intro rfl rfl)) rfl ?_
  repeat refine aj.mk _ _ (And.intro rfl rfl) rfl ?_
  refine aj.mk _ _ (ae.ao ((i+g.n-j:Nat):Int) (by omega) (by omega) (And.intro rfl rfl)) rfl ?_
  refine aj.mk _ _ (ae.ao ((i+g.n-1-j:Nat):Int) (by omega) (by omega) (And.intro rfl rfl)) rfl ?_
  refine aj.mk _ _ (aG.rf (i+g.n-1-j) rfl (by omega) (And.intro rfl rfl)) rfl ?_
  repeat refine aj.mk _ _ (And.intro rfl rfl) rfl ?_
  refine aj.mk _ _ (ab.pure (jD) (And.intro rfl rfl)) rfl ?_
  refine aj.mk _ _ (ab.pure (gy (h.bA (i+g.n-1-j) (by omega)) (by omega)) (And.intro rfl rfl)) rfl ?_
  repeat refine aj.mk _ _ (And.intro rfl rfl) rfl ?_
  refine br.mk (by kernel_rfl) ?_
  exact aq.pure (.p _ (aS _ _ _))
 ·have hl:=h.DE (.inr e)
  have hE:aW g i j=g.A (i+j):=by unfold aW;rw[if_neg (by omega),if_pos e]
  rw[hE]
  refine aa (wr:=a9) a6 mixed Tryz.func58 (by kernel_rfl) rfl (by kernel_rfl) (af rfl) (by simp) ?_
  refine ag.no (decide_eq_false (by omega)) ?_
  refine ag.yes (decide_eq_true (by omega)) ?_
  refine aO.cM (by kernel_rfl) ?_
  repeat refine aj.mk _ _ (And.intro rfl rfl) rfl ?_
  refine aj.mk _ _ (ae.ao ((i+j:Nat):Int) (by omega) (by omega) (And.intro rfl rfl)) rfl ?_
  refine aj.mk _ _ (aG.rf (i+j) rfl (by omega) (And.intro rfl rfl)) rfl ?_
  repeat refine aj.mk _ _ (And.intro rfl rfl) rfl ?_
  refine aj.mk _ _ (ab.pure (jD) (And.intro rfl rfl)) rfl ?_
  refine aj.mk _ _ (ab.pure (gy (h.bA (i+j) (by omega)) (by omega)) (And.intro rfl rfl)) rfl ?_
  repeat refine aj.mk _ _ (And.intro rfl rfl) rfl ?_
  refine br.mk (by kernel_rfl) ?_
  exact aq.pure (.p _ (aS _ _ _))
 ·have hl:=h.Cx (by omega)
  have hE:aW g i j=g.A ((i+g.n-j)%g.n):=by unfold aW;rw[if_neg (by omega),if_neg (by omega),if_pos e]
  have hm:(i+g.n-j)%g.n<g.n:=Nat.mod_lt _ (by omega)
  rw[hE]
  refine aa (wr:=a9) a6 mixed Tryz.func58 (by kernel_rfl) rfl (by kernel_rfl) (af rfl) (by simp) ?_
  refine ag.no (decide_eq_false (by omega)) ?_
  refine ag.no (decide_eq_false (by omega)) ?_
  refine ag.yes (decide_eq_true (by omega)) ?_
  refine aO.cM (by kernel_rfl) ?_
  repeat refine aj.mk _ _ (And.intro rfl rfl) rfl ?_
  refine aj.mk _ _ (ae.ao ((i:Int)-j) rfl (by omega) (And.intro rfl rfl)) rfl ?_
  repeat refine aj.mk _ _ (And.intro rfl rfl) rfl ?_
  refine aj.mk _ _ (ae.ao ((i+g.n-j:Nat):Int) (by omega) (by omega) (And.intro rfl rfl)) rfl ?_
  repeat refine aj.mk _ _ (And.intro rfl rfl) rfl ?_
  refine aj.mk _ _ (te (b:=g.n) (by omega) rfl (And.intro rfl rfl)) rfl ?_
  refine aj.mk _ _ (aG.rf ((i+g.n-j)%g.n) rfl (by omega) (And.intro rfl rfl)) rfl ?_
  repeat refine aj.mk _ _ (And.intro rfl rfl) rfl ?_
  refine aj.mk _ _ (ab.pure (jD) (And.intro rfl rfl)) rfl ?_
  refine aj.mk _ _ (ab.pure (gy (h.bA ((i+g.n-j)%g.n) (by omega)) (by omega)) (And.intro rfl rfl)) rfl ?_
  repeat refine aj.mk _ _ (And.intro rfl rfl) rfl ?_
  refine br.mk (by kernel_rfl) ?_
  exact aq.pure (.p _ (aS _ _ _))
 ·have hl:=h.Cx (by omega)
  have hE:aW g i j=g.A i^j:=by unfold aW;rw[if_neg (by omega),if_neg (by omega),if_neg (by omega),if_pos e]
  rw[hE]
  refine aa (wr:=a9) a6 mixed Tryz.func58 (by kernel_rfl) rfl (by kernel_rfl) (af rfl) (by simp) ?_
  refine ag.no (decide_eq_false (by omega)) ?_
  refine ag.no (decide_eq_false (by omega)) ?_
  refine ag.no (decide_eq_false (by omega)) ?_
  refine ag.yes (decide_eq_true (by omega)) ?_
  refine aG.rf i rfl (by omega) ?_
  refine ab.pure (yh _ (h.bA i (by omega)) (by omega) j (by omega)) ?_
  exact aq.pure (.p _ (aS _ _ _))
 ·have hE:aW g i j=1/(g.A i-g.B j):=by unfold aW;rw[if_neg (by omega),if_neg (by omega),if_neg (by omega),if_neg (by omega),if_pos e]
  rw[hE]
  refine aa (wr:=a9) a6 mixed Tryz.func58 (by kernel_rfl) rfl (by kernel_rfl) (af rfl) (by simp) ?_
  refine ag.no (decide_eq_false (by omega)) ?_
  refine ag.no (decide_eq_false (by omega)) ?_
  refine ag.no (decide_eq_false (by omega)) ?_
  refine ag.no (decide_eq_false (by omega)) ?_
  refine ag.yes (decide_eq_true (by omega)) ?_
  refine aO.cM (by kernel_rfl) ?_
  repeat refine aj.mk _ _ (And.intro rfl rfl) rfl ?_
  refine aj.mk _ _ (ab.pure (xk) (And.intro rfl rfl)) rfl ?_
  repeat refine aj.mk _ _ (And.intro rfl rfl) rfl ?_
  refine aj.mk _ _ (ab.pure (tL m g h 1 cR (by omega) (.inl e) i j hi hj) (And.intro rfl rfl)) rfl ?_
  repeat refine aj.mk _ _ (And.intro rfl rfl) rfl ?_
  refine br.mk (by kernel_rfl) ?_
  exact aq.pure (.p _ (aS _ _ _))
 ·have hE:aW g i j=sm (min i j+1) fun m=>pN g (i-m) (j-m):=by unfold aW;rw[if_neg (by omega),if_neg (by omega),if_neg (by omega),if_neg (by omega),if_neg (by omega),if_pos e]
  rw[hE]
  have zS:=h.FX (.inl e) hi hj
  refine aa (wr:=a9) a6 mixed Tryz.func58 (by kernel_rfl) rfl (by kernel_rfl) (af rfl) (by simp) ?_
  refine ag.no (decide_eq_false (by omega)) ?_
  refine ag.no (decide_eq_false (by omega)) ?_
  refine ag.no (decide_eq_false (by omega)) ?_
  refine ag.no (decide_eq_false (by omega)) ?_
  refine ag.no (decide_eq_false (by omega)) ?_
  refine ag.no (decide_eq_false (by omega)) ?_
  refine ab.pure (jD) ?_
  refine aM.mk Nat (fun t=>([(1,.p (.int .i64 i)),(2,.p (.int .i64 j)),(3,.aF 0 0),(6,.aF 1 0),(7,.aF 2 0),(8,.p (.int .i64 t))],[.box 26 (nN m g),.box 38 ub,.box 38 (lW (sm t fun m=>pN g (i-m) (j-m)))]))
   (fun t=>t<=min i j+1) (fun t=>min i j+1-t) 0 [0,1,2] (Nat.zero_le _) ⟨rfl,by simp,rfl,rfl,rfl,⟨rfl,rfl,rfl,rfl,rfl,rfl,trivial⟩,⟨rfl,rfl,rfl,trivial⟩⟩ ?_
  intro t ht
  have ht:t<=min i j+1:=ht
  refine SZ.mk ((min i j:Nat):Int) (by show(if(j:Int)<(i:Int)then(j:Int)else(i:Int))=_;split<;>omega) ?_
  by_cases htj:t<min i j+1
  ·refine ag.yes (decide_eq_true (by omega)) ?_
   have lt:t*(2*(2*b+1)+1+1)<=6*(2*(2*b+1)+1+1):=Nat.mul_le_mul_right _ (by omega)
   refine aO.cM (by kernel_rfl) ?_
   repeat refine aj.mk _ _ (And.intro rfl rfl) rfl ?_
   refine aj.mk _ _ (ae.ao ((i-t:Nat):Int) (by omega) (by omega) (And.intro rfl rfl)) rfl ?_
   repeat refine aj.mk _ _ (And.intro rfl rfl) rfl ?_
   refine aj.mk _ _ (ae.ao ((j-t:Nat):Int) (by omega) (by omega) (And.intro rfl rfl)) rfl ?_
   refine aj.mk _ _ (ab.pure (xC m g h (.inl e) (i-t) (j-t) (by omega) (by omega)) (And.intro rfl rfl)) rfl ?_
   refine aj.mk _ _ (ab.pure (dZ _ _ (zS t ht).sz (h.CQ (.inl e) (i:=i-t) (j:=j-t) (by omega) (by omega)).sz (by omega)) (And.intro rfl rfl)) rfl ?_
   repeat refine aj.mk _ _ (And.intro rfl rfl) rfl ?_
   refine br.mk (by kernel_rfl) ?_
   refine ae.ao ((t+1:Nat):Int) (by omega) (by omega) ?_
   exact⟨t+1,[0,1,2],htj,by show min i j+1-(t+1)<min i j+1-t;omega,⟨rfl,by simp,rfl,rfl,rfl,⟨rfl,rfl,rfl,rfl,rfl,rfl,trivial⟩,⟨rfl,rfl,rfl,trivial⟩⟩⟩
  ·refine ag.no (decide_eq_false (by omega)) ?_
   obtain rfl:t=min i j+1:=by omega
   exact aq.pure (.p _ (aS _ _ _))
 ·have hE:aW g i j=pN g i j/(g.A i-g.B j):=by unfold aW;rw[if_neg (by omega),if_neg (by omega),if_neg (by omega),if_neg (by omega),if_neg (by omega),if_neg (by omega)]
  rw[hE]
  refine aa (wr:=a9) a6 mixed Tryz.func58 (by kernel_rfl) rfl (by kernel_rfl) (af rfl) (by simp) ?_
  refine ag.no (decide_eq_false (by omega)) ?_
  refine ag.no (decide_eq_false (by omega)) ?_
  refine ag.no (decide_eq_false (by omega)) ?_
  refine ag.no (decide_eq_false (by omega)) ?_
  refine ag.no (decide_eq_false (by omega)) ?_
  refine ag.yes (decide_eq_true (by omega)) ?_
  refine aO.cM (by kernel_rfl) ?_
  repeat refine aj.mk _ _ (And.intro rfl rfl) rfl ?_
  refine aj.mk _ _ (ab.pure (xC m g h (.inr e) i j hi hj) (And.intro rfl rfl)) rfl ?_
  repeat refine aj.mk _ _ (And.intro rfl rfl) rfl ?_
  refine aj.mk _ _ (ab.pure (tL m g h (pN g i j) (h.CQ (.inr e) hi hj) (by omega) (.inr e) i j hi hj) (And.intro rfl rfl)) rfl ?_
  repeat refine aj.mk _ _ (And.intro rfl rfl) rfl ?_
  refine br.mk (by kernel_rfl) ?_
  exact aq.pure (.p _ (aS _ _ _))
abbrev half (p c n k:Nat):List AV:=fl n fun i=>if i<k then .vec (.r p i) 3 0 c else .emp
abbrev mq (p c n k q:Nat):List AV:=fl n fun i=>if i<k then .vec (.r p i) 3 0 c else if i=k then .vec (.t q) 3 0 c else .emp
theorem iE {p c n:Nat}:half p c n n=cZ p c n id:=aX fun i hi=>if_pos hi
theorem ou {p c n k q:Nat}:(half p c n k).set k (.vec (.t q) 3 0 c)=mq p c n k q:=by
 rw[eX]
 refine aX fun i _=>?_
 unfold bz
 by_cases e:i=k
 ·rw[if_pos e,if_neg (by omega),if_pos e]
 ·rw[if_neg e]
  show(if i<k then AV.vec (.r p i) 3 0 c else .emp)=_
  by_cases e2:i<k
  ·rw[if_pos e2,if_pos e2]
  ·rw[if_neg e2,if_neg e2,if_neg e]
theorem iv {p c n k q:Nat} (h:k<n):(mq p c n k q)[k]?=some (.vec (.t q) 3 0 c):=by
 rw[cU h,if_neg (Nat.lt_irrefl k),if_pos rfl]
theorem iA {hs:List Nat} {P:Hp} {p c n k q:Nat} (p' q':Nat) (hp:hs.getD p 0=p') (hp':p'<1000) (hq:hs.getD q 0=q') (hq':q'<1000):AV.cz (cO hs P) (mq p c n k q)=mq p' c n k q':=by
 rw[eu]
 refine aX fun i hi=>?_
 have eb:Nat.blt p' 1000=true:=b8.2 hp'
 have ec:Nat.blt q' 1000=true:=b8.2 hq'
 by_cases e:i<k
 ·rw[if_pos e,if_pos e];simp only[AV.cE,cO,hp,eb,cond_true]
 ·rw[if_neg e,if_neg e]
  by_cases e2:i=k
  ·rw[if_pos e2,if_pos e2];simp only[AV.cE,cO,hq,ec,cond_true];rw[show pM q'=q' from Nat.mod_eq_of_lt hq']
  ·rw[if_neg e2,if_neg e2];simp only[AV.cE]
theorem fM {hs:List Nat} {P:Hp} {p p' q c n k:Nat} (hp:hs.getD p 0=p'+1000*(q+1)) (hp':p'<1000) (hl:aN P p=k+1):AV.cz (cO hs P) (half p c n (k+1))=mq p' c n k q:=by
 rw[eu]
 have eb:Nat.blt (hs.getD p 0) 1000=false:=by
  cases hb:Nat.blt (hs.getD p 0) 1000 with
  |false=>rfl
  |true=>have:=b8.1 hb;omega
 have e1:hs.getD p 0%1000=p':=by omega
 have e2:hs.getD p 0/1000-1=q:=by omega
 refine aX fun i hi=>?_
 by_cases h1:i<k
 ·have e4:Nat.blt (i+1) (k+1)=true:=b8.2 (by omega)
  rw[if_pos (by omega),if_pos h1]
  simp only[AV.cE,cO,eb,hl,e4,cond_false,cond_true,e1]
 ·by_cases h2:i=k
  ·have e4:Nat.blt (i+1) (k+1)=false:=by
    cases hb:Nat.blt (i+1) (k+1)with
    |false=>rfl
    |true=>have:=b8.1 hb;omega
   rw[if_pos (by omega),if_neg h1,if_pos h2]
   simp only[AV.cE,cO,eb,hl,e4,cond_false,e2]
  ·rw[if_neg (by omega),if_neg h1,if_neg h2];simp only[AV.cE]
theorem ez {P:Hp} {p c n k:Nat} (h:∀i,i<k->i<aN P p):∀x∈half p c n k,∀h,x.aU h->look P h≠ .free:=by
 intro x hx g hg
 obtain⟨i,hi,rfl⟩:=dq hx
 by_cases e:i<k
 ·rw[if_pos e]at hg
  simp only[AV.aU]at hg
  subst hg
  exact iH (h i e)
 ·rw[if_neg e]at hg;exact hg.elim
theorem jM {P:Hp} {p c n k q:Nat} (h:∀i,i<k->i<aN P p) (hq:look P (.t q)≠ .free):∀x∈mq p c n k q,∀h,x.aU h->look P h≠ .free:=by
 intro x hx g hg
 obtain⟨i,hi,rfl⟩:=dq hx
 by_cases e:i<k
 ·rw[if_pos e]at hg
  simp only[AV.aU]at hg
  subst hg
  exact iH (h i e)
 ·rw[if_neg e]at hg
  by_cases e2:i=k
  ·rw[if_pos e2]at hg
   simp only[AV.aU]at hg
   subst hg;exact hq
  ·rw[if_neg e2]at hg;exact hg.elim
theorem iF {ρ:Hd->Hd} {p c n:Nat}:AV.cz ρ (half p c n 0)=List.replicate n .emp:=by
 rw[eu,bE]
 refine aX fun i _=>?_
 rw[if_neg (Nat.not_lt_zero i)];simp only[AV.cE]
theorem du {n j:Nat} {f:Nat->Rat} (h:j<n):(fl n fun k=>if k<j then aJ (f k)else cu).set (j+0) (aJ (f j))=fl n fun k=>if k<j+1 then aJ (f k)else cu:=by
 rw[eX]
 refine aX fun k hk=>?_
 simp only[bz,Nat.add_zero]
 by_cases e:k=j
 ·rw[if_pos e,if_pos (by omega),e]
 ·rw[if_neg e]
  by_cases e2:k<j
  ·rw[if_pos e2,if_pos (by omega)]
  ·rw[if_neg e2,if_neg (by omega)]
theorem fN {n:Nat} {f:Nat->Rat}:bd (ar n f)=fl n fun k=>if k<n then aJ (f k)else cu:=by
 rw[bd,v5,qS];exact aX fun k hk=>(if_pos hk).symm
theorem eH (m:Nat->Bool) (g:GV) {b c:Nat} (h:Wf g b c):au Tryz.prog 22 [cG m g] (.p (cm false false g.n g.n (aW g))) []:=by
 have h6:=h.n6
 have n1:=h.n1
 refine aa (wr:=a9) a6 mixed Tryz.func22 (by kernel_rfl) rfl (by kernel_rfl) (af rfl) (by simp) ?_
 refine ab.pure (fr m g h) ?_
 refine ag.no (rfl) ?_
 refine SZ.mk (g.n:Int) rfl ?_
 refine bT.mk (by simp) ?_
 refine bV.mk g.n rfl (by simp;omega) (by omega) ?_
 refine FG.rows ?_
 refine SZ.mk (g.n:Int) rfl ?_
 refine aM.Cf Nat (fun i=>([(1,.aF 0 0),(3,.vec 1 1 0 g.n),(13,.p (.int .i64 g.n)),(14,.p (.int .i64 i))],[.box 26 (nN m g),.rows 24 (half 2 g.n g.n i),.bt 38 3 (cY i g.n (aW g))]))
  (fun i=>i<=g.n) (fun i=>g.n-i) 0 [0,1,2] _ _ (.bt 38 3 (.done _ _)) (Nat.zero_le _) ⟨rfl,by simp,rfl,rfl,rfl,⟨rfl,rfl,rfl,rfl,trivial⟩,⟨rfl,congrArg _ iF,rfl,ez fun i hi=>absurd hi (Nat.not_lt_zero _),trivial⟩⟩ ?_
 intro i hi
 have hi:i<=g.n:=hi
 by_cases hin:i<g.n
 ·refine ag.yes (decide_eq_true (by omega)) ?_
  refine SZ.mk (g.n:Int) rfl ?_
  refine bT.mk (by simp) ?_
  refine bV.rat g.n rfl (by omega) ?_
  refine aI.mk i rfl hin ?_
  refine bT.mk (by simp;omega) ?_
  refine pT.mk (mq 2 g.n g.n i 3) ou ?_
  refine aI.mk i rfl hin ?_
  refine cq.mk i _ rfl (iv hin) ?_
  refine SZ.mk (g.n:Int) rfl ?_
  refine aM.mk (Nat×(Nat->Rat)) (fun(j,F)=>([(1,.aF 0 0),(3,.vec 1 1 0 g.n),(4,.p (.int .i64 i)),(13,.p (.int .i64 g.n)),(14,.p (.int .i64 i)),(27,.p (.int .i64 g.n)),(28,.p (.int .i64 j))],[.box 26 (nN m g),.rows 24 (mq 2 g.n g.n i 3),.bt 38 3 (cY i g.n (aW g)),.vec 38 3 (fl g.n fun k=>if k<j then aJ (aW g i k)else cu)]))
   (fun(j,F)=>j<=g.n) (fun x=>g.n-x.1) (0,aW g i) [0,1,2,3] (Nat.zero_le _) ⟨rfl,by simp,rfl,rfl,rfl,⟨rfl,rfl,rfl,rfl,rfl,rfl,rfl,trivial⟩,⟨rfl,congrArg _ (iA 2 3 rfl (by decide) rfl (by decide)),rfl,congrArg _ ((aX fun k hk=>if_neg (by omega)).trans (bE g.n cu).symm),jM (fun i hi=>by simpa[aN]using hi) (fun e=>by cases e),trivial⟩⟩ ?_
  intro⟨j,F⟩ hj
  have hj:j<=g.n:=hj
  by_cases hjn:j<g.n
  ·refine ag.yes (decide_eq_true (by omega)) ?_
   refine aO.cM (by kernel_rfl) ?_
   repeat refine aj.mk _ _ (And.intro rfl rfl) rfl ?_
   refine aj.mk _ _ (aI.mk i rfl hin (And.intro rfl rfl)) rfl ?_
   refine aj.mk _ _ (cq.mk i _ rfl (iv hin) (And.intro rfl rfl)) rfl ?_
   repeat refine aj.mk _ _ (And.intro rfl rfl) rfl ?_
   refine aj.mk _ _ (ab.pure (qE m g h i j hin hjn) (And.intro rfl rfl)) rfl ?_
   refine aj.mk _ _ (aI.mk j rfl hjn (And.intro rfl rfl)) rfl ?_
   refine aj.mk _ _ (bT.mk (by simp;omega)<|cH.mk _ (du hjn) (And.intro rfl rfl)) rfl ?_
   repeat refine aj.mk _ _ (And.intro rfl rfl) rfl ?_
   refine br.mk (by kernel_rfl) ?_
   refine ae.ao ((j+1:Nat):Int) (by omega) (by omega) ?_
   exact⟨(j+1,F),[0,1,2,3],hjn,by show g.n-(j+1)<g.n-j;omega,⟨rfl,by simp,rfl,rfl,rfl,⟨rfl,rfl,rfl,rfl,rfl,rfl,rfl,trivial⟩,⟨rfl,congrArg _ (iA 2 3 rfl (by decide) rfl (by decide)),rfl,rfl,jM (fun i hi=>by simpa[aN]using hi) (fun e=>by cases e),trivial⟩⟩⟩
  ·refine ag.no (decide_eq_false (by omega)) ?_
   obtain rfl:j=g.n:=by omega
   refine ae.ao ((i+1:Nat):Int) (by omega) (by omega) ?_
   exact⟨i+1,[0,1,4002],hin,by show g.n-(i+1)<g.n-i;omega,⟨rfl,by simp,rfl,rfl,rfl,⟨rfl,rfl,rfl,rfl,trivial⟩,⟨rfl,congrArg _ (fM rfl (by decide) (by simp[aN])),⟨_,_,_,_,rfl,rfl,congrArg _ (dO.trans (congrArg (fun r=>cY i g.n (aW g)++[some r]) fN))⟩,ez fun i hi=>by simpa[aN]using hi,trivial⟩⟩⟩
 ·refine ag.no (decide_eq_false (by omega)) ?_
  obtain rfl:i=g.n:=by omega
  exact aq.pure (x6 (H:=[_,_,_]) (h:=1) (p:=2) (congrArg (aC.rows _) iE) rfl fun i hi=>hi)
theorem lD:au Tryz.prog 244 [] (.p (aJ 0)) []:=by
 refine aa (wr:=a9) a6 mixed Tryz.func244 (by kernel_rfl) rfl (by kernel_rfl) (af rfl) (by simp) ?_
 refine aq.pure ?_
 rw[dF]
 exact f8 ⟨rfl,rfl,rfl⟩ (.p _ (.bool _)) (.p _ (.sl _ _ (fun e he=>by simp at he))) (iu rfl)
theorem Cv:au Tryz.prog 259 [] (.p (aJ 1)) []:=by
 refine aa (wr:=a9) a6 mixed Tryz.func259 (by kernel_rfl) rfl (by kernel_rfl) (af rfl) (by simp) ?_
 refine aq.pure ?_
 rw[gv]
 exact f8 ⟨rfl,rfl,rfl⟩ (.p _ (.bool _)) (iu rfl) (iu rfl)
theorem ye (i k:Nat):au Tryz.prog 258 [cg i k] (.p (.bool (decide (i=k)))) []:=by
 refine aa (wr:=a9) a6 mixed Tryz.func258 (by kernel_rfl) rfl (by kernel_rfl) (af rfl) (by simp) ?_
 refine aI.mk 0 rfl (by decide) ?_
 refine aI.mk 0 rfl (by decide) ?_
 refine ag.sym ?_
 have:(((i:Int)==(i:Int))&&(((k:Int)==(i:Int))&&true))=decide (i=k):=by
  by_cases e:i=k
  ·subst e;simp
  ·rw[decide_eq_false e,beq_eq_false_iff_ne.2 (show(k:Int)≠i by omega)];simp
 rw[this]
 exact aq.pure (.p _ (.bool _))
def EP (A:Nat->Nat->Rat) (i j:Nat):Rat:=gs A j i j/gs A j j j
abbrev Ep (A:Nat->Nat->Rat) (k d:Nat):PV×PV:=(cg (k+1+d) k,aJ (EP A (k+1+d) k))
def kT (A:Nat->Nat->Rat) (n:Nat):Nat->List (PV×PV)
 |0=>[]
 |k+1=>kT A n k++fl (n-1-k) (Ep A k)
theorem mu {A:Nat->Nat->Rat} {n:Nat}:∀k,k<=n->∀e∈kT A n k,∃i j,e=(cg i j,aJ (EP A i j))/\j<k/\j<i/\i<n:=by
 intro k
 induction k with
 |zero=>intro _ e he;simp[kT]at he
 |succ k ih=>
  intro hk e he
  rcases List.mem_append.1 he with he|he
  ·obtain⟨i,j,h1,h2,h3,h4⟩:=ih (by omega) e he
   exact⟨i,j,h1,by omega,h3,h4⟩
  ·obtain⟨d,hd,rfl⟩:=dq he
   exact⟨k+1+d,k,rfl,by omega,by omega,by omega⟩
theorem Fp {A:Nat->Nat->Rat} {n i j:Nat} (hji:j<i) (hin:i<n):∀k,k<=n->j<k->∃a:Nat,(kT A n k)[a]?=some (cg i j,aJ (EP A i j))/\∀(b:Nat) e',b≠a->(kT A n k)[b]?=some e'->PV.f9 (cg i j) e'.1=false:=by
 intro k
 induction k with
 |zero=>intro _ h;exact absurd h (Nat.not_lt_zero _)
 |succ k ih=>
  intro hk hj
  simp only[kT]
  by_cases e:j=k
  ·subst e
   refine⟨(kT A n j).length+(i-(j+1)),?_,fun b e' hb he=>?_⟩
   ·rw[List.getElem?_append_right (by omega),show(kT A n j).length+(i-(j+1))-(kT A n j).length=i-(j+1) by omega,cU (by omega)]
    simp only[Ep]
    rw[show j+1+(i-(j+1))=i by omega]
   ·by_cases hl:b<(kT A n j).length
    ·rw[List.getElem?_append_left hl]at he
     obtain⟨i',j',rfl,h2,_,_⟩:=mu j (by omega) e' (List.mem_of_getElem? he)
     rw[cF];exact decide_eq_false fun h=>by omega
    ·rw[List.getElem?_append_right (by omega)]at he
     obtain⟨hd,rfl⟩:=bX.1 he
     rw[cF];exact decide_eq_false fun h=>by omega
  ·obtain⟨a,h1,h2⟩:=ih (by omega) (by omega)
   have hl:=(List.getElem?_eq_some_iff.1 h1).1
   refine⟨a,by rw[List.getElem?_append_left hl];exact h1,fun b e' hb he=>?_⟩
   by_cases hl:b<(kT A n k).length
   ·rw[List.getElem?_append_left hl]at he;exact h2 b e' hb he
   ·rw[List.getElem?_append_right (by omega)]at he
    obtain⟨hd,rfl⟩:=bX.1 he
    rw[cF];exact decide_eq_false fun h=>by omega
theorem a5.tk {b:PV->Bool} {A:Nat->Nat->Rat} {n k d:Nat} {K:Prop} (hk:k<=n) (hb:∀i k:Nat,b (cg i k)=true) (hK:K):a5 b (kT A n k++fl d (Ep A k)) K:=
 .mk (fun e he=>by
  rcases List.mem_append.1 he with he|he
  ·obtain⟨i,j,rfl,_⟩:=mu k hk e he;exact hb _ _
  ·obtain⟨d,hd,rfl⟩:=dq he;exact hb _ _) hK
theorem dc.tk {A:Nat->Nat->Rat} {n k d:Nat} {v:PV} {K:List (PV×PV)->Prop} (hk:k<=n) (hv:v=aJ (EP A (k+1+d) k)) (hK:K (kT A n k++fl (d+1) (Ep A k))):dc (kT A n k++fl d (Ep A k)) (cg (k+1+d) k) v K:=by
 subst hv
 refine .new _ (fun e he=>?_) (by rw[List.append_assoc,lC]) hK
 rcases List.mem_append.1 he with he|he
 ·obtain⟨i,j,rfl,h2,_,_⟩:=mu k hk e he
  rw[cF];exact decide_eq_false fun h=>by omega
 ·obtain⟨d',hd,rfl⟩:=dq he
  rw[cF];exact decide_eq_false fun h=>by omega
theorem wW {A:Nat->Nat->Rat} {n k:Nat} (hk:k<=n):∀e∈kT A n k,bZ e.1/\bZ e.2:=fun e he=>by
 obtain⟨i,j,rfl,_⟩:=mu k hk e he
 exact⟨mh _ _,aS _ _ _⟩
theorem v7 {n:Nat} {f g:Nat->Nat->Rat} (h:∀i k,i<n->k<n->f i k=g i k):dK n f (n*n)=dK n g (n*n):=aX fun t ht=>by
 have n0:0<n:=by rcases Nat.eq_zero_or_pos n with h|h;rw[h]at ht;simp at ht;exact h
 rw[h _ _ (Nat.div_lt_of_lt_mul ht) (Nat.mod_lt _ n0)]
abbrev Aa (n:Nat) (l t:Nat):List AV:=[.p (.int .i64 (n:Int)),.map (.t l),.map (.t t)]
abbrev Aj (n:Nat) (left took:List (PV×PV)):List aC:=[.box 248 (Aa n 1 2),.map left,.map took]
theorem zY (m m':Bool) (n:Nat) (A:Nat->Nat->Rat) (hn:n<=1000):au Tryz.prog 238 [cm m m' n n A] (.aF 0 0) (Aj n (dK n A (n*n)) []):=by
 refine aa (wr:=a9) a6 mixed Tryz.func238 (by kernel_rfl) rfl (by kernel_rfl) (af rfl) (by simp) ?_
 refine SZ.mk (n:Int) (by simp) ?_
 refine SZ.mk (n:Int) (by simp) ?_
 refine aM.mk Nat (fun i=>([(3,.aF 2 0),(14,.p (cm m m' n n A)),(15,.p (.int .i64 n)),(16,.p (.int .i64 i))],[.map (dK n A (i*n)),.map [],.box 248 (Aa n 0 1)]))
  (fun i=>i<=n) (fun i=>n-i) 0 [0,1,2] (Nat.zero_le _) ⟨rfl,by simp,rfl,rfl,rfl,⟨rfl,rfl,rfl,rfl,trivial⟩,⟨by rw[Nat.zero_mul];rfl,rfl,rfl,trivial⟩⟩ ?_
 intro i hi
 have hi:i<=n:=hi
 by_cases hin:i<n
 ·refine ag.yes (decide_eq_true (by omega)) ?_
  refine aG.mf i rfl hin ?_
  refine SZ.mk (n:Int) (by simp[ar]) ?_
  refine aM.mk Nat (fun k=>([(3,.aF 2 0),(4,.p (.int .i64 i)),(14,.p (cm m m' n n A)),(15,.p (.int .i64 n)),(16,.p (.int .i64 i)),(21,.p (ah m' (ar n (A i)))),(22,.p (.int .i64 n)),(23,.p (.int .i64 k))],[.map (dK n A (i*n+k)),.map [],.box 248 (Aa n 0 1)]))
   (fun k=>k<=n) (fun k=>n-k) 0 [0,1,2] (Nat.zero_le _) ⟨rfl,by simp,rfl,rfl,rfl,⟨rfl,rfl,rfl,rfl,rfl,rfl,rfl,rfl,trivial⟩,⟨rfl,rfl,rfl,trivial⟩⟩ ?_
  intro k hk
  have hk:k<=n:=hk
  by_cases hkn:k<n
  ·refine ag.yes (decide_eq_true (by omega)) ?_
   refine aG.rf k rfl hkn ?_
   refine aO.cM (by kernel_rfl) ?_
   repeat refine aj.mk _ _ (And.intro rfl rfl) rfl ?_
   refine aj.mk _ _ (a5.kB (fun _ _=>rfl)<|dc.kB hkn rfl (And.intro rfl rfl)) rfl ?_
   refine br.mk (by kernel_rfl) ?_
   refine ae.ao ((k+1:Nat):Int) (by omega) (by omega) ?_
   exact⟨k+1,[0,1,2],hkn,by show n-(k+1)<n-k;omega,⟨rfl,by simp,rfl,rfl,rfl,⟨rfl,rfl,rfl,rfl,rfl,rfl,rfl,rfl,trivial⟩,⟨rfl,rfl,rfl,trivial⟩⟩⟩
  ·refine ag.no (decide_eq_false (by omega)) ?_
   obtain rfl:k=n:=by omega
   refine ae.ao ((i+1:Nat):Int) (by omega) (by omega) ?_
   exact⟨i+1,[0,1,2],hin,by show k-(i+1)<k-i;omega,⟨rfl,by simp,rfl,rfl,rfl,⟨rfl,rfl,rfl,rfl,trivial⟩,⟨congrArg (fun q=>aC.map (dK k A q)) (Nat.succ_mul i k),rfl,rfl,trivial⟩⟩⟩
 ·refine ag.no (decide_eq_false (by omega)) ?_
  obtain rfl:i=n:=by omega
  refine aq.mk [2,0,1] rfl (by decide) rfl (Nat.zero_le _) (fun h hl=>by rw[b6]at hl;exact hl.elim) (fun h hl=>absurd (b6 h) hl) (fun a h B e1 e2=>?_) (.aF rfl)
  match a,e1,e2 with
  |0,e1,e2=>
   cases e1;cases e2
   refine .box (cs:=Aa i 0 1) (fun d hd=>by simp only[Aa,List.mem_cons,List.not_mem_nil,or_false]at hd;rcases hd with rfl|rfl|rfl<;>rfl) rfl fun b c d e1 e2=>?_
   match b,e1,e2 with
   |0,e1,e2=>cases e1;cases e2;exact .p _ (.int _ _)
   |1,e1,e2=>cases e1;cases e2;exact .map rfl
   |2,e1,e2=>cases e1;cases e2;exact .map rfl
  |1,e1,e2=>cases e1;cases e2;exact .map iz
  |2,e1,e2=>cases e1;cases e2;exact .map (fun e he=>by simp at he)
theorem En {A:Nat->Nat->Rat} {n b:Nat} (hA:∀i j,i<n->j<n->Bz (A i j) b):∀k,k<=n->∀i j,i<n->j<n->Bz (gs A k i j) (bb b k):=by
 intro k
 induction k with
 |zero=>intro _ i j hi hj;exact hA i j hi hj
 |succ k ih=>
  intro hk i j hi hj
  have ih:=ih (by omega)
  by_cases c:k<i/\k<=j
  ·rw[D9 c.1 c.2]
   exact((ih i j hi hj).sub (((ih i k hi (by omega)).div (ih k k (by omega) (by omega))).mul (ih k j (by omega) hj))).mono (by simp only[bb];omega)
  ·rw[qC (by omega)];exact(ih i j hi hj).mono (by simp only[bb];omega)
theorem nD {b j k:Nat} (h:j<=k):bb b j<=bb b k:=FL (fun k=>CA k) h
def Fs (A:Nat->Nat->Rat) (n D:Nat):Prop:=∀k,k<=n->∀i j,i<n->j<n->Bz (gs A k i j) D
theorem BQ {q:Rat} (h:q=0):aL q.num.natAbs=0:=by rw[h];exact aR.2 rfl
theorem zF {q:Rat} (h:q≠0):aL q.num.natAbs≠0:=fun e=>h (Rat.num_eq_zero.1 (by have:=aR.1 e;omega))
theorem Bc (A:Nat->Nat->Rat) (n k:Nat) (hk:k<n) (hn:n<=1000) (hp:xL A k=0):
  cw Tryz.prog 239 [.aF 0 0,.p (.int .i64 k)] (Aj n (dK n (gs A k) (n*n)) (kT A n k)) (.p (.bool false)) (Aj n (dK n (gs A k) (n*n)) (kT A n k)):=by
 refine aa (wr:=a9) a6 mixed Tryz.func239 (by kernel_rfl) rfl (by kernel_rfl) (af rfl) (by simp) ?_
 refine a5.kB (fun _ _=>rfl)<|cd.kB hk hk ?_
 refine SZ.mk (aL (gs A k k k).num.natAbs:Int) (by simp) ?_
 refine ag.yes (kV (by rw[BQ (show gs A k k k=0 from hp)];rfl)) ?_
 refine aq.ml rfl
  (fun B hB k=>by simp only[Aj,List.mem_cons,List.not_mem_nil,or_false]at hB;rcases hB with rfl|rfl|rfl<;>rfl) (fun i hi=>by
   match i,hi with
   |0,_=>exact trivial
   |1,_=>exact trivial
   |2,_=>exact trivial)
  (fun a B e1=>by
   match a,e1 with
   |0,e1=>
    cases e1
    refine .box (cs:=Aa n 1 2) (fun d hd=>by simp only[Aa,List.mem_cons,List.not_mem_nil,or_false]at hd;rcases hd with rfl|rfl|rfl<;>rfl) rfl fun b c d e1 e2=>?_
    match b,e1,e2 with
    |0,e1,e2=>cases e1;cases e2;exact .p _ (.int _ _)
    |1,e1,e2=>cases e1;cases e2;exact .map rfl
    |2,e1,e2=>cases e1;cases e2;exact .map rfl
   |1,e1=>cases e1;exact .map iz
   |2,e1=>cases e1;exact .map (wW (by omega))) (.tf _)
theorem w6 (A:Nat->Nat->Rat) (n k:Nat) {D:Nat} (hk:k<n) (hn:n<=1000) (hp:xL A k≠0) (hB:Fs A n D) (hD:4*D<=1048576):
  cw Tryz.prog 239 [.aF 0 0,.p (.int .i64 k)] (Aj n (dK n (gs A k) (n*n)) (kT A n k)) (.p (.bool true)) (Aj n (dK n (gs A (k+1)) (n*n)) (kT A n (k+1))):=by
 have nz:=zF hp
 refine aa (wr:=a9) a6 mixed Tryz.func239 (by kernel_rfl) rfl (by kernel_rfl) (af rfl) (by simp) ?_
 refine a5.kB (fun _ _=>rfl)<|cd.kB hk hk ?_
 refine SZ.mk (aL (gs A k k k).num.natAbs:Int) (by simp) ?_
 refine ag.no (kL (by have:aL (gs A k k k).num.natAbs≠0:=nz;omega)) ?_
 refine ae.ao ((k+1+0:Nat):Int) (by omega) (by omega) ?_
 refine aM.mk (Nat×(Nat->Nat->Rat)) (fun(d,F)=>([(0,.aF 0 0),(1,.p (.int .i64 k)),(5,.aF 3 0),(6,.p (.int .i64 ((k+1+d:Nat):Int)))],[.box 248 (Aa n 1 2),.map (dK n F (n*n)),.map (kT A n k++fl d (Ep A k)),.box 38 (lW (gs A k k k))]))
  (fun(d,F)=>k+1+d<=n/\∀a b,a<n->b<n->F a b=if a<k+1+d then gs A (k+1) a b else gs A k a b) (fun x=>n-x.1) (0,gs A k) [0,1,2,3]
  ⟨by omega,fun a b _ _=>by
   split
   ·exact(qC (.inl (by omega))).symm
   ·rfl⟩ ⟨rfl,by simp,rfl,rfl,rfl,⟨rfl,rfl,rfl,rfl,trivial⟩,⟨rfl,rfl,congrArg aC.map (List.append_nil _),rfl,trivial⟩⟩ ?_
 intro⟨d,F⟩ ⟨hd,hF⟩
 by_cases hin:k+1+d<n
 ·refine ag.yes (decide_eq_true (by omega)) ?_
  obtain⟨i,hi⟩:∃i,i=k+1+d:=⟨_,rfl⟩
  have hFi:∀b,b<n->F (k+1+d) b=gs A k (k+1+d) b:=fun b hb=>by rw[hF _ b hin hb,if_neg (Nat.lt_irrefl _)]
  have hFk:∀b,b<n->F k b=gs A k k b:=fun b hb=>by rw[hF k b hk hb,if_pos (by omega)];exact qC (.inl (Nat.le_refl _))
  have zi:∀b,b<n->Bz (F (k+1+d) b) D:=fun b hb=>by rw[hFi b hb];exact hB k (by omega) _ b hin hb
  have zk:∀b,b<n->Bz (F k b) D:=fun b hb=>by rw[hFk b hb];exact hB k (by omega) _ b hk hb
  have zp:Bz (gs A k k k) D:=hB k (by omega) k k hk hk
  obtain⟨Q,hQ⟩:∃Q,Q=F (k+1+d) k/gs A k k k:=⟨_,rfl⟩
  have zQ:Bz Q (D+D):=by rw[hQ];exact(zi k hk).div zp
  have hq:=fY (F (k+1+d) k) (gs A k k k) hp (zi k hk).sz zp.sz (by omega)
  rw[<-hQ]at hq
  have hQv:Q=EP A (k+1+d) k:=by rw[hQ,hFi k hk];rfl
  refine aO.cM (by kernel_rfl) ?_
  repeat refine aj.mk _ _ (And.intro rfl rfl) rfl ?_
  refine aj.mk _ _ (a5.kB (fun _ _=>rfl)<|cd.kB hin hk (And.intro rfl rfl)) rfl ?_
  repeat refine aj.mk _ _ (And.intro rfl rfl) rfl ?_
  refine aj.mk _ _ (ab.bg (hq) (fun _=>rfl) (And.intro rfl rfl)) rfl ?_
  repeat refine aj.mk _ _ (And.intro rfl rfl) rfl ?_
  refine br.mk (by kernel_rfl) ?_
  refine aO.cM (by kernel_rfl) ?_
  repeat refine aj.mk _ _ (And.intro rfl rfl) rfl ?_
  refine aj.mk _ _ (a5.tk (by omega) (fun _ _=>rfl)<|dc.tk (by omega) (congrArg aJ hQv) (And.intro rfl rfl)) rfl ?_
  refine br.mk (by kernel_rfl) ?_
  refine aM.mk (Nat×(Nat->Nat->Rat)) (fun(j,G)=>([(0,.aF 0 0),(1,.p (.int .i64 k)),(5,.aF 3 0),(6,.p (.int .i64 ((k+1+d:Nat):Int))),(7,.aF 4 0),(9,.p (.int .i64 j))],[.box 248 (Aa n 1 2),.map (dK n G (n*n)),.map (kT A n k++fl (d+1) (Ep A k)),.box 38 (lW (gs A k k k)),.box 38 (lW Q)]))
   (fun(j,G)=>k<=j/\j<=n/\∀a b,a<n->b<n->G a b=if a=k+1+d/\k<=b/\b<j then F (k+1+d) b-Q*F k b else F a b) (fun x=>n-x.1) (k,F) [0,1,2,3,4]
   ⟨Nat.le_refl _,by omega,fun a b _ _=>by rw[if_neg (by omega)]⟩ ⟨rfl,by simp,rfl,rfl,rfl,⟨rfl,rfl,rfl,rfl,rfl,rfl,trivial⟩,⟨rfl,rfl,rfl,rfl,rfl,trivial⟩⟩ ?_
  intro⟨j,G⟩ ⟨hkj,hj,hG⟩
  by_cases hjn:j<n
  ·refine ag.yes (decide_eq_true (by omega)) ?_
   have gi:G (k+1+d) j=F (k+1+d) j:=by rw[hG _ j hin hjn,if_neg (by omega)]
   have gk:G k j=F k j:=by rw[hG k j hk hjn,if_neg (by omega)]
   have z1:Bz (G (k+1+d) j) D:=by rw[gi];exact zi j hjn
   have z2:Bz (G k j) D:=by rw[gk];exact zk j hjn
   refine aO.cM (by kernel_rfl) ?_
   repeat refine aj.mk _ _ (And.intro rfl rfl) rfl ?_
   refine aj.mk _ _ (a5.kB (fun _ _=>rfl)<|cd.kB hin hjn (And.intro rfl rfl)) rfl ?_
   repeat refine aj.mk _ _ (And.intro rfl rfl) rfl ?_
   refine aj.mk _ _ (a5.kB (fun _ _=>rfl)<|cd.kB hk hjn (And.intro rfl rfl)) rfl ?_
   repeat refine aj.mk _ _ (And.intro rfl rfl) rfl ?_
   refine aj.mk _ _ (ab.pure (b9 _ _ zQ.sz z2.sz (by omega)) (And.intro rfl rfl)) rfl ?_
   refine aj.mk _ _ (ab.pure (cn _ _ z1.sz (zQ.mul z2).sz (by omega)) (And.intro rfl rfl)) rfl ?_
   refine aj.mk _ _ (a5.kB (fun _ _=>rfl)<|dc.EK hin hjn (And.intro rfl rfl)) rfl ?_
   refine br.mk (by kernel_rfl) ?_
   refine ae.ao ((j+1:Nat):Int) (by omega) (by omega) ?_
   refine⟨(j+1,_),[0,1,2,3,4],⟨by omega,hjn,fun a b ha hb=>?_⟩,by show n-(j+1)<n-j;omega,⟨rfl,by simp,rfl,rfl,rfl,⟨rfl,rfl,rfl,rfl,rfl,rfl,trivial⟩,⟨rfl,rfl,rfl,rfl,rfl,trivial⟩⟩⟩
   by_cases e:a=k+1+d/\b=j
   ·rw[if_pos e,if_pos ⟨e.1,by omega,by omega⟩,gi,gk,e.2]
   ·rw[if_neg e,hG a b ha hb]
    by_cases c:a=k+1+d/\k<=b/\b<j
    ·rw[if_pos c,if_pos ⟨c.1,c.2.1,by omega⟩]
    ·rw[if_neg c,if_neg (by omega)]
  ·refine ag.no (decide_eq_false (by omega)) ?_
   obtain rfl:j=n:=by omega
   refine ae.ao ((k+1+(d+1):Nat):Int) (by omega) (by omega) ?_
   refine⟨(d+1,G),[0,1,2,3],⟨by omega,fun a b ha hb=>?_⟩,by show j-(d+1)<j-d;omega,⟨rfl,by simp,rfl,rfl,rfl,⟨rfl,rfl,rfl,rfl,trivial⟩,⟨rfl,rfl,rfl,rfl,trivial⟩⟩⟩
   rw[hG a b ha hb]
   by_cases c:a=k+1+d/\k<=b/\b<j
   ·rw[if_pos c,if_pos (by omega),c.1,D9 (by omega) c.2.1,hQ,hFi b hb,hFk b hb,hFi k hk]
   ·rw[if_neg c,hF a b ha hb]
    by_cases c2:a=k+1+d
    ·rw[if_neg (by omega),if_pos (by omega),qC (.inr (by omega))]
    ·by_cases c3:a<k+1+d
     ·rw[if_pos c3,if_pos (by omega)]
     ·rw[if_neg c3,if_neg (by omega)]
 ·refine ag.no (decide_eq_false (by omega)) ?_
  have e1:dK n F (n*n)=dK n (gs A (k+1)) (n*n):=v7 fun a b ha hb=>by rw[hF a b ha hb,if_pos (by omega)]
  have e2:kT A n k++fl d (Ep A k)=kT A n (k+1):=by simp only[kT];rw[show d=n-1-k by omega]
  rw[<-e1,<-e2]
  refine aq.ml rfl
   (fun B hB k=>by simp only[Aj,List.mem_cons,List.not_mem_nil,or_false]at hB;rcases hB with rfl|rfl|rfl<;>rfl) (fun i hi=>by
    match i,hi with
    |0,_=>exact trivial
    |1,_=>exact trivial
    |2,_=>exact trivial)
   (fun a B e1=>by
    match a,e1 with
    |0,e1=>
     cases e1
     refine .box (cs:=Aa n 1 2) (fun d hd=>by simp only[Aa,List.mem_cons,List.not_mem_nil,or_false]at hd;rcases hd with rfl|rfl|rfl<;>rfl) rfl fun b c d e1 e2=>?_
     match b,e1,e2 with
     |0,e1,e2=>cases e1;cases e2;exact .p _ (.int _ _)
     |1,e1,e2=>cases e1;cases e2;exact .map rfl
     |2,e1,e2=>cases e1;cases e2;exact .map rfl
    |1,e1=>cases e1;exact .map iz
    |2,e1=>cases e1;exact .map (by rw[e2];exact wW (by omega))) (.tf _)
section

theorem Co {c:Rat} (h:c≠0):0<c.abs:=by
 have h1:=Rat.abs_nonneg (x:=c)
 have h2:c.abs≠0:=fun e=>h (Rat.abs_eq_zero_iff.1 e)
 grind
def gQ (B:Nat->Nat->Rat) (k:Nat):Nat->Nat
 |0=>k
 |d+1=>if(B (gQ B k d) k).abs<(B (k+1+d) k).abs then k+1+d else gQ B k d
def lz (B:Nat->Nat->Rat) (n k:Nat):Nat:=gQ B k (n-1-k)
theorem qB {B:Nat->Nat->Rat} {k:Nat}:∀d,k<=gQ B k d/\gQ B k d<=k+d/\∀i,k<=i->i<=k+d->(B i k).abs<=(B (gQ B k d) k).abs:=by
 intro d
 induction d with
 |zero=>
  simp only[gQ]
  refine⟨Nat.le_refl _,by omega,fun i h1 h2=>?_⟩
  obtain rfl:i=k:=by omega
  exact Rat.le_refl
 |succ d ih=>
  obtain⟨h1,h2,h3⟩:=ih
  simp only[gQ]
  by_cases c:(B (gQ B k d) k).abs<(B (k+1+d) k).abs
  ·rw[if_pos c]
   refine⟨by omega,by omega,fun i q1 q2=>?_⟩
   by_cases e:i=k+1+d
   ·rw[e];exact Rat.le_refl
   ·have:=h3 i q1 (by omega);grind
  ·rw[if_neg c]
   refine⟨h1,by omega,fun i q1 q2=>?_⟩
   by_cases e:i=k+1+d
   ·rw[e];grind
   ·exact h3 i q1 (by omega)
theorem dQ {B:Nat->Nat->Rat} {n k:Nat} (h:k<n):k<=lz B n k/\lz B n k<n/\∀i,k<=i->i<n->(B i k).abs<=(B (lz B n k) k).abs:=by
 obtain⟨h1,h2,h3⟩:=qB (B:=B) (k:=k) (n-1-k)
 exact⟨h1,by unfold lz;omega,fun i q1 q2=>h3 i q1 (by omega)⟩
def ld (B:Nat->Nat->Rat) (k:Nat):Nat->Nat->Rat:=fun i j=>if k<i then B i j-B i k/B k k*B k j else B i j
def nG (s:Nat->Nat) (p k:Nat):Nat->Nat:=fun i=>s (if i=p then k else if i=k then p else i)
def pB (M P:Nat->Nat->Rat) (k:Nat):Nat->Nat->Rat:=fun i j=>if j=k then(if k<i then P i k/P k k else if i=k then 1 else M i j)else M i j
structure GM where
 B:Nat->Nat->Rat
 s:Nat->Nat
 M:Nat->Nat->Rat
def Hf (n k:Nat) (S:GM):GM:=
 ⟨ld (dU S.B (lz S.B n k) k) k,nG S.s (lz S.B n k) k,pB (dU S.M (lz S.B n k) k) (dU S.B (lz S.B n k) k) k⟩
def gk (n:Nat) (A:Nat->Nat->Rat) (k:Nat):GM:=iter (Hf n) k ⟨A,id,fun _ _=>0⟩
def kS (n:Nat) (A:Nat->Nat->Rat) (k:Nat):Nat->Nat->Rat:=dU (gk n A k).B (lz (gk n A k).B n k) k
def kN (n:Nat) (A:Nat->Nat->Rat) (k:Nat):Rat:=kS n A k k k
theorem fK {n:Nat} {A:Nat->Nat->Rat} {k:Nat}:gk n A (k+1)=⟨ld (kS n A k) k,nG (gk n A k).s (lz (gk n A k).B n k) k,pB (dU (gk n A k).M (lz (gk n A k).B n k) k) (kS n A k) k⟩:=rfl
theorem iT {n:Nat} {A:Nat->Nat->Rat} {k:Nat}:kN n A k=(gk n A k).B (lz (gk n A k).B n k) k:=by unfold kN kS;rw[rU]
theorem dH {p k n i:Nat} (hp:p<n) (hk:k<n) (hi:i<n):(if i=p then k else if i=k then p else i)<n:=by
 split
 ·exact hk
 ·split
  ·exact hp
  ·exact hi
theorem CU {p k i:Nat} (hp:k<=p) (hi:k<=i):k<=(if i=p then k else if i=k then p else i):=by
 split
 ·exact Nat.le_refl _
 ·split
  ·exact hp
  ·exact hi
theorem w9 {p k i:Nat} (hp:k<=p) (hi:i<k):(if i=p then k else if i=k then p else i)=i:=by
 rw[if_neg (by omega),if_neg (by omega)]
theorem rD {p k i:Nat}:(if(if i=p then k else if i=k then p else i)=p then k else if(if i=p then k else if i=k then p else i)=k then p else(if i=p then k else if i=k then p else i))=i:=by
 by_cases e1:i=p
 ·rw[if_pos e1]
  by_cases e2:k=p
  ·rw[if_pos e2];omega
  ·rw[if_neg e2,if_pos rfl];omega
 ·rw[if_neg e1]
  by_cases e2:i=k
  ·rw[if_pos e2,if_pos rfl];omega
  ·rw[if_neg e2,if_neg e1,if_neg e2]
theorem pa {A:Nat->Nat->Rat} {p k i:Nat} (hp:k<=p) (hi:i<k):dU A p k i=A i:=by unfold dU;rw[w9 hp hi]
theorem eE {n:Nat} {A:Nat->Nat->Rat}:∀k,k<=n->(∀i,i<n->(gk n A k).s i<n)/\(∀i j,i<n->j<n->(gk n A k).s i=(gk n A k).s j->i=j)/\∀r,r<n->∃i,i<n/\(gk n A k).s i=r:=by
 intro k
 induction k with
 |zero=>intro _;exact⟨fun i hi=>hi,fun i j _ _ e=>e,fun r hr=>⟨r,hr,rfl⟩⟩
 |succ k ih=>
  intro hk
  obtain⟨h1,h2,h3⟩:=ih (by omega)
  obtain⟨p1,p2,_⟩:=dQ (B:=(gk n A k).B) (n:=n) (k:=k) (by omega)
  rw[fK]
  refine⟨fun i hi=>h1 _ (dH p2 (by omega) hi),fun i j hi hj e=>?_,fun r hr=>?_⟩
  ·have:=h2 _ _ (dH p2 (by omega) hi) (dH p2 (by omega) hj) e
   rw[<-rD (p:=lz (gk n A k).B n k) (k:=k) (i:=i),this,rD]
  ·obtain⟨i,hi,e⟩:=h3 r hr
   exact⟨_,dH p2 (show k<n by omega) hi,by show(gk n A k).s _=r;rw[rD];exact e⟩
theorem Gm {n:Nat} {A:Nat->Nat->Rat} {k i j:Nat} (h:k<i):(gk n A (k+1)).B i j=kS n A k i j-kS n A k i k/kS n A k k k*kS n A k k j:=by rw[fK];exact if_pos h
theorem wq {n:Nat} {A:Nat->Nat->Rat} {k i j:Nat} (h:i<=k):(gk n A (k+1)).B i j=kS n A k i j:=by rw[fK];exact if_neg (by omega)
theorem DR {n:Nat} {A:Nat->Nat->Rat} {k i:Nat} (hk:k<n) (h:i<k):kS n A k i=(gk n A k).B i:=pa (dQ hk).1 h
theorem E9 {n:Nat} {A:Nat->Nat->Rat} {i j:Nat}:∀d,i+1+d<=n->(gk n A (i+1+d)).B i j=kS n A i i j:=by
 intro d
 induction d with
 |zero=>intro _;exact wq (Nat.le_refl _)
 |succ d ih=>
  intro h
  rw[<-ih (by omega)]
  show(gk n A (i+1+d+1)).B i j=_
  rw[wq (by omega),DR (by omega) (by omega)]
theorem DW {n:Nat} {A:Nat->Nat->Rat} {i j k:Nat} (h:i<k) (hk:k<=n):(gk n A k).B i j=kS n A i i j:=by
 obtain⟨d,rfl⟩:∃d,k=i+1+d:=⟨k-(i+1),by omega⟩
 exact E9 d hk
def gL (n:Nat) (A:Nat->Nat->Rat):Nat->Nat->Rat:=(gk n A n).M
def gU (n:Nat) (A:Nat->Nat->Rat):Nat->Nat->Rat:=(gk n A n).B
def gO (n:Nat) (A:Nat->Nat->Rat):Nat->Nat:=(gk n A n).s
theorem DU {n:Nat} {A:Nat->Nat->Rat} {i:Nat} (hi:i<n):gU n A i i=kN n A i:=DW hi (Nat.le_refl _)
theorem wS {n:Nat} {A:Nat->Nat->Rat}:∀k,k<=n->∀i j,i<n->(k<=j->(gk n A k).M i j=0)/\(i<j->(gk n A k).M i j=0)/\(i=j->j<k->(gk n A k).M i j=1):=by
 intro k
 induction k with
 |zero=>intro _ i j _;exact⟨fun _=>rfl,fun _=>rfl,fun _ h=>absurd h (Nat.not_lt_zero _)⟩
 |succ k ih=>
  intro hk i j hi
  have ih:=ih (by omega)
  obtain⟨p1,p2,_⟩:=dQ (B:=(gk n A k).B) (n:=n) (k:=k) (by omega)
  rw[fK]
  have sw:k<=j->dU (gk n A k).M (lz (gk n A k).B n k) k i j=0:=fun h=>(ih _ j (dH p2 (by omega) hi)).1 h
  show(_->pB _ _ k i j=0)/\(_->pB _ _ k i j=0)/\(_->_->pB _ _ k i j=1)
  unfold pB
  refine⟨fun h=>?_,fun h=>?_,fun h1 h2=>?_⟩
  ·rw[if_neg (by omega)];exact sw (by omega)
  ·by_cases e:j=k
   ·rw[if_pos e,if_neg (by omega),if_neg (by omega)];exact sw (by omega)
   ·rw[if_neg e]
    by_cases c:k<=j
    ·exact sw c
    ·rw[pa p1 (by omega)];exact(ih i j hi).2.1 h
  ·by_cases e:j=k
   ·rw[if_pos e,if_neg (by omega),if_pos (by omega)]
   ·rw[if_neg e,pa p1 (by omega)];exact(ih i j hi).2.2 h1 (by omega)
theorem DF {n:Nat} {A:Nat->Nat->Rat} {i:Nat} (hi:i<n):gL n A i i=1:=(wS n (Nat.le_refl _) i i hi).2.2 rfl hi
theorem Gd {n:Nat} {A:Nat->Nat->Rat} {i j:Nat} (hi:i<n) (h:i<j):gL n A i j=0:=(wS n (Nat.le_refl _) i j hi).2.1 h
end
section

theorem Ch {s:Nat->Nat} {k:Nat}:nG s k k=s:=by
 funext i
 unfold nG
 by_cases e:i=k
 ·rw[if_pos e,e]
 ·rw[if_neg e,if_neg e]
end
section

def uG (f:Nat->Rat):Nat->Rat->Rat
 |0,g=>g
 |c+1,g=>if uG f c g<(f c).abs then(f c).abs else uG f c g
def q7 (B:Nat->Nat->Rat) (n k:Nat):Nat->Rat->Rat
 |0,g=>g
 |d+1,g=>uG (B (k+d)) n (q7 B n k d g)
theorem EC {f:Nat->Rat} {g:Rat}:∀c,g<=uG f c g/\∀j,j<c->(f j).abs<=uG f c g:=by
 intro c
 induction c with
 |zero=>exact⟨Rat.le_refl,fun j h=>absurd h (Nat.not_lt_zero _)⟩
 |succ c ih=>
  obtain⟨h1,h2⟩:=ih
  simp only[uG]
  by_cases e:uG f c g<(f c).abs
  ·rw[if_pos e]
   refine⟨by grind,fun j hj=>?_⟩
   by_cases ej:j=c
   ·rw[ej];exact Rat.le_refl
   ·have:=h2 j (by omega);grind
  ·rw[if_neg e]
   refine⟨h1,fun j hj=>?_⟩
   by_cases ej:j=c
   ·rw[ej];grind
   ·exact h2 j (by omega)
theorem Fj {B:Nat->Nat->Rat} {n k:Nat} {g:Rat}:∀d,g<=q7 B n k d g/\∀i j,k<=i->i<k+d->j<n->(B i j).abs<=q7 B n k d g:=by
 intro d
 induction d with
 |zero=>exact⟨Rat.le_refl,fun i j h1 h2=>by omega⟩
 |succ d ih=>
  obtain⟨h1,h2⟩:=ih
  obtain⟨q1,q2⟩:=EC (f:=B (k+d)) (g:=q7 B n k d g) n
  simp only[q7]
  refine⟨by grind,fun i j e1 e2 e3=>?_⟩
  by_cases e:i=k+d
  ·rw[e];exact q2 j e3
  ·have:=h2 i j e1 (by omega) e3;grind
def fu (n:Nat) (A:Nat->Nat->Rat):Nat->Rat
 |0=>q7 A n 0 n 0
 |k+1=>q7 (gk n A k).B n k (n-k) (fu n A k)
theorem wE {n:Nat} {A:Nat->Nat->Rat} (hn:0<n) (hp:kN n A 0≠0):0<fu n A 0:=by
 obtain⟨p1,p2,_⟩:=dQ (B:=(gk n A 0).B) (n:=n) (k:=0) hn
 have h:=(Fj (B:=A) (n:=n) (k:=0) (g:=0) n).2 (lz (gk n A 0).B n 0) 0 (Nat.zero_le _) (by omega) hn
 rw[iT]at hp
 have:=Co hp
 show 0<q7 A n 0 n 0
 have e:(gk n A 0).B (lz (gk n A 0).B n 0) 0=A (lz (gk n A 0).B n 0) 0:=rfl
 rw[e]at this
 grind
end
theorem i6 (q:Rat) {k:Nat} (h:Bz q k) (hk:k<=1099511627776):au Tryz.prog 121 [aJ q] (.p (aJ q.abs)) []:=by
 have:=vt q (h.nn hk) (h.nd hk)
 rwa[GP]at this
theorem lu {p q:Rat}:(0<pV p q)↔q<p:=by
 unfold pV
 split
 ·rename_i h;constructor
  ·intro h;omega
  ·intro h2;grind
 ·rename_i h
  split
  ·rename_i e;constructor
   ·intro h;omega
   ·intro h2;grind
  ·rename_i e
   constructor
   ·intro _;grind
   ·intro _;omega
theorem fP:au Tryz.prog 200 [] (.p (aJ 0)) []:=by
 refine aa (wr:=a9) a6 mixed Tryz.func200 (by kernel_rfl) rfl (by kernel_rfl) (af rfl) (by simp) ?_
 refine aq.pure ?_
 rw[dF]
 exact f8 ⟨rfl,rfl,rfl⟩ (.p _ (.bool _)) (.p _ (.sl _ _ (fun e he=>by simp at he))) (iu rfl)
theorem Dp:au Tryz.prog 222 [] (.p (aJ 1)) []:=by
 refine aa (wr:=a9) a6 mixed Tryz.func222 (by kernel_rfl) rfl (by kernel_rfl) (af rfl) (by simp) ?_
 refine aq.pure ?_
 rw[gv]
 exact f8 ⟨rfl,rfl,rfl⟩ (.p _ (.bool _)) (iu rfl) (iu rfl)
abbrev cW (n:Nat) (s:Nat->Nat):List PV:=fl n fun i=>.int .i64 ((s i:Nat):Int)
abbrev z7 (n:Nat) (q:Rat):List AV:=[.vec (.t 1) 1 0 n,.vec (.t 3) 1 0 n,.map (.t 4),.p (.bool (decide (q.num<0))),.p (bC q.num.natAbs),.p (bC q.den)]
abbrev ju (n:Nat) (G:Nat->Nat->Rat) (s:Nat->Nat) (es:List (PV×PV)) (q:Rat):List aC:=[.box 213 (z7 n q),.rows 24 (cZ 2 n n s),.bt 38 3 (cY n n G),.vec 3 1 (cW n s),.map es]
theorem mH {n:Nat} {s:Nat->Nat}:∀e∈cW n s,∀c∈e.cells,bZ c:=fun e he c hc=>by
 obtain⟨i,_,rfl⟩:=dq he
 simp only[PV.cells,List.mem_singleton]at hc
 subst hc;exact .int _ _
theorem xS {n i k:Nat} {s:Nat->Nat}:(cW n s).set i (.int .i64 ((k:Nat):Int))=cW n (bz s i k):=by
 rw[eX];exact aX fun j _=>by unfold bz;split<;>rfl
theorem g8 {n:Nat} {s s':Nat->Nat} (h:∀i,i<n->s i=s' i):cW n s=cW n s':=aX fun i hi=>by rw[h i hi]
theorem p9 {n w:Nat} {G G':Nat->Nat->Rat} (h:∀r j,r<n->j<w->G r j=G' r j):cY n w G=cY n w G':=aX fun r hr=>by rw[d5 fun j hj=>h r j hr hj]
theorem aq.gw {n:Nat} {G G':Nat->Nat->Rat} {s s':Nat->Nat} {es es':List (PV×PV)} {q q':Rat} {H:Hp} {av r:AV} (hH:H.take 5=ju n G' s' es' q') (hes:∀e∈es',bZ e.1/\bZ e.2) (hv:Conv [0,1,2,3,4] H av r):
  aq (ju n G s es q) av H r (ju n G' s' es' q'):=by
 have get:∀i,i<5->H.getD i .free=(ju n G' s' es' q').getD i .free:=fun i hi=>by
  rw[<-hH];simp[List.getD,List.getElem?_take_of_lt hi]
 have g0:H.getD 0 .free= .box 213 (z7 n q'):=get 0 (by decide)
 have g1:H.getD 1 .free= .rows 24 (cZ 2 n n s'):=get 1 (by decide)
 have g2:H.getD 2 .free= .bt 38 3 (cY n n G'):=get 2 (by decide)
 have g3:H.getD 3 .free= .vec 3 1 (cW n s'):=get 3 (by decide)
 have g4:H.getD 4 .free= .map es':=get 4 (by decide)
 have key:∀h:Hd,look (ju n G s es q) h≠ .free->(look H h).live\/(h= .t 2/\look H h≠ .free):=fun h hh=>by
  have hk:=cD hh
  have hk:h.key<5:=hk
  cases h with
  |t i=>
   simp only[look]
   have hk:i<5:=hk
   match i,hk with
   |0,_=>rw[g0];exact .inl trivial
   |1,_=>rw[g1];exact .inl trivial
   |2,_=>rw[g2];exact .inr ⟨rfl,fun e=>by cases e⟩
   |3,_=>rw[g3];exact .inl trivial
   |4,_=>rw[g4];exact .inl trivial
  |r i k=>
   have hk:i<5:=hk
   match i,hk with
   |0,_=>exact absurd rfl hh
   |1,_=>exact absurd rfl hh
   |3,_=>exact absurd rfl hh
   |4,_=>exact absurd rfl hh
   |2,_=>
    have hkn:k<n:=by
     apply Classical.byContradiction
     intro hkn
     refine hh ?_
     show(aC.bt 38 3 (cY n n G)).row k= .free
     simp only[aC.row]
     rw[List.getElem?_eq_none (by simp;omega)]
    left
    simp only[look]
    rw[g2]
    simp only[aC.row]
    rw[cU hkn];trivial
 refine .mk [0,1,2,3,4] rfl (by decide) rfl (Nat.le_refl _) (fun h hh=>?_) (fun h hh=>?_) (fun i h B e1 e2=>?_) hv
 ·rcases key h (aC.bQ hh)with h1|⟨rfl,_⟩
  ·exact h1
  ·exact hh.elim
 ·rcases key h hh with h1|⟨_,h1⟩
  ·exact aC.bQ h1
  ·exact h1
 ·match i,e1,e2 with
  |0,e1,e2=>
   cases e1;cases e2;rw[g0]
   refine .box (fun d hd=>by simp only[z7,List.mem_cons,List.not_mem_nil,or_false]at hd;rcases hd with rfl|rfl|rfl|rfl|rfl|rfl<;>rfl) rfl fun b c d e1 e2=>?_
   match b,e1,e2 with
   |0,e1,e2=>cases e1;cases e2;exact .vec rfl
   |1,e1,e2=>cases e1;cases e2;exact .vec rfl
   |2,e1,e2=>cases e1;cases e2;exact .map rfl
   |3,e1,e2=>cases e1;cases e2;exact .p _ (.bool _)
   |4,e1,e2=>cases e1;cases e2;exact .p _ (.sl _ _ (aP _))
   |5,e1,e2=>cases e1;cases e2;exact .p _ (.sl _ _ (aP _))
  |1,e1,e2=>
   cases e1;cases e2;rw[g1]
   refine .rows (fun d hd=>by obtain⟨i,_,rfl⟩:=dq hd;rfl) rfl fun b c d e1 e2=>?_
   obtain⟨hb,rfl⟩:=bX.1 e1
   obtain⟨_,rfl⟩:=bX.1 e2
   exact .Ba rfl
  |2,e1,e2=>
   cases e1;cases e2;rw[g2]
   exact .bt fun k es hk=>by
    obtain⟨_,h⟩:=bX.1 hk
    cases h;exact aB _
  |3,e1,e2=>cases e1;cases e2;rw[g3];exact .vec mH
  |4,e1,e2=>cases e1;cases e2;rw[g4];exact .map hes
theorem ru {ρ:Hd->Hd} {p c n:Nat} {s:Nat->Nat} (h:∀k,ρ (.r p k)= .r p k):AV.cz ρ (cZ p c n s)=cZ p c n s:=by
 rw[eu];exact aX fun i _=>by simp only[AV.cE,h]
theorem ab.gw {P:Program} {f:FuncId} {L:Hd->aC} {base n k:Nat} {K:AV->List (Hd×aC)->Prop} {G G':Nat->Nat->Rat} {s s':Nat->Nat} {es es':List (PV×PV)} {q q':Rat} {r:AV}
  (hc:cw P f [.aF 0 0,.p (.int .i64 (k:Int))] (ju n G s es q) r (ju n G' s' es' q')) (hr:∀ρ,r.cE ρ=r) (hb:5<=base)
  (e0:L (.t 0)= .box 213 (z7 n q)/\∀k,L (.r 0 k)= .free) (e1:L (.t 1)= .rows 24 (cZ 2 n n s)/\∀k,L (.r 1 k)= .free) (e2:L (.t 2)= .dead/\∀k,L (.r 2 k)=(aC.bt 38 3 (cY n n G)).row k)
  (e3:L (.t 3)= .vec 3 1 (cW n s)/\∀k,L (.r 3 k)= .free) (e4:L (.t 4)= .map es/\∀k,L (.r 4 k)= .free)
  (hk:K r [(.t 0,.box 213 (z7 n q')),(.t 1,.rows 24 (cZ 2 n n s')),(.t 2,.bt 38 3 (cY n n G')),(.t 3,.vec 3 1 (cW n s')),(.t 4,.map es')]) {raw:List AV}:
  ab P true f raw [.aF 0 0,.p (.int .i64 (k:Int))] L base K:=by
 have hρ:∀k,bn [0,1,2,3,4] base (.r 2 k)= .r 2 k:=fun k=>rfl
 refine .mk [0,1,2,3,4] [.aF 0 0,.p (.int .i64 (k:Int))] r (ju n G s es q) (ju n G' s' es' q') (fun e=>by cases e) (by decide) (fun h hh=>by simp only[List.mem_cons,List.not_mem_nil,or_false]at hh;omega) rfl rfl (fun i h B g1 g2=>?_)
  (fun B hB=>by simp only[ju,List.mem_cons,List.not_mem_nil,or_false]at hB;rcases hB with rfl|rfl|rfl|rfl|rfl<;>exact⟨fun e=>by(cases e),fun e=>by(cases e)⟩)
  (fun B hB k hk=>?_) (Nat.le_refl _) (fun B hB=>by simp only[ju,List.mem_cons,List.not_mem_nil,or_false]at hB;rcases hB with rfl|rfl|rfl|rfl|rfl<;>exact fun e=>by(cases e))
  (fun a ha k hk=>by
   simp only[List.mem_cons,List.not_mem_nil,or_false]at ha
   rcases ha with rfl|rfl
   ·simp only[AV.aU]at hk;subst hk;decide
   ·simp only[AV.aU]at hk) hc ?_
 ·match i,g1,g2 with
  |0,g1,g2=>cases g1;cases g2;exact e0
  |1,g1,g2=>
   cases g1;cases g2
   refine⟨?_,e1.2⟩
   show _=aC.rows _ (AV.cz _ _)
   rw[ru hρ];exact e1.1
  |2,g1,g2=>cases g1;cases g2;exact e2
  |3,g1,g2=>cases g1;cases g2;exact e3
  |4,g1,g2=>cases g1;cases g2;exact e4
 ·simp only[ju,List.mem_cons,List.not_mem_nil,or_false]at hB
  rcases hB with rfl|rfl|rfl|rfl|rfl
  ·simp only[aC.aU,z7,AV.bo,AV.aU,or_false,false_or]at hk
   rcases hk with rfl|rfl|rfl<;>decide
  ·simp only[aC.aU,AV.cp]at hk
   obtain⟨c,hc,hk⟩:=hk
   obtain⟨i,_,rfl⟩:=dq hc
   simp only[AV.aU]at hk
   subst hk;exact(by decide:2<5)
  ·exact hk.elim
  ·exact hk.elim
  ·exact hk.elim
 ·rw[hr]
  show K r [_,(_,aC.rows _ (AV.cz _ _)),_,_,_]
  rw[ru hρ]
  exact hk
theorem uJ {n w r:Nat} {G:Nat->Nat->Rat} (h:r<n):r<(cY n w G).length:=by simpa using h
theorem B4 {f:Nat->Rat} {g:Rat} {D:Nat} (hg:Bz g D):∀c,(∀j,j<c->Bz (f j) D)->Bz (uG f c g) D:=by
 intro c
 induction c with
 |zero=>exact fun _=>hg
 |succ c ih=>
  intro h
  simp only[uG]
  split
  ·exact(h c (by omega)).abs
  ·exact ih fun j hj=>h j (by omega)
theorem vS {B:Nat->Nat->Rat} {n k:Nat} {g:Rat} {D:Nat} (hg:Bz g D):∀d,(∀i j,k<=i->i<k+d->j<n->Bz (B i j) D)->Bz (q7 B n k d g) D:=by
 intro d
 induction d with
 |zero=>exact fun _=>hg
 |succ d ih=>
  intro h
  simp only[q7]
  exact B4 (ih fun i j h1 h2 h3=>h i j h1 (by omega) h3) n fun j hj=>h (k+d) j (by omega) (by omega) hj
theorem ep (n k:Nat) (G B:Nat->Nat->Rat) (s:Nat->Nat) (es:List (PV×PV)) (q:Rat) {D:Nat} (hk:k<=n) (hn:n<=1000) (hs:∀i,i<n->s i<n) (hG:∀i j,i<n->j<n->G (s i) j=B i j)
  (hB:∀i j,i<n->j<n->Bz (B i j) D) (hq:Bz q D) (hD:D+D<=1000000) (hes:∀e∈es,bZ e.1/\bZ e.2):
  cw Tryz.prog 201 [.aF 0 0,.p (.int .i64 (k:Int))] (ju n G s es q) (.bq []) (ju n G s es (q7 B n k (n-k) q)):=by
 refine aa (wr:=a9) a6 mixed Tryz.func201 (by kernel_rfl) rfl (by kernel_rfl) (af rfl) (by simp) ?_
 refine fp.mk k n rfl rfl hk (Nat.le_refl _) ?_
 refine SZ.mk ((n-k:Nat):Int) rfl ?_
 refine aM.mk Nat (fun d=>([(0,.aF 0 0),(13,.vec 1 1 (0+k) (n-k)),(14,.p (.int .i64 ((n-k:Nat):Int))),(15,.p (.int .i64 (d:Nat)))],ju n G s es (q7 B n k d q)))
  (fun d=>d<=n-k) (fun d=>n-k-d) 0 [0,1,2,3,4] (Nat.zero_le _) ⟨rfl,by simp,rfl,rfl,rfl,⟨rfl,rfl,rfl,rfl,trivial⟩,⟨rfl,congrArg _ (aZ 2 rfl (by decide)),rfl,rfl,rfl,aV fun q hq=>by simpa[aN]using hs q hq,by simp,trivial⟩⟩ ?_
 intro d hd
 have hd:d<=n-k:=hd
 by_cases hdn:d<n-k
 ·refine ag.yes (decide_eq_true (by omega)) ?_
  refine aI.mk d rfl hdn ?_
  refine cq.cZ (k+d) (by omega) (by omega) ?_
  refine SZ.mk (n:Int) rfl ?_
  have zr:Bz (q7 B n k d q) D:=vS hq d fun i j h1 h2 h3=>hB i j (by omega) h3
  refine aM.mk Nat (fun c=>([(0,.aF 0 0),(13,.vec 1 1 (0+k) (n-k)),(14,.p (.int .i64 ((n-k:Nat):Int))),(15,.p (.int .i64 (d:Nat))),(19,.vec (.r 2 (s (k+d))) 3 0 n),(20,.p (.int .i64 n)),(21,.p (.int .i64 (c:Nat)))],ju n G s es (uG (B (k+d)) c (q7 B n k d q))))
   (fun c=>c<=n) (fun c=>n-c) 0 [0,1,2,3,4] (Nat.zero_le _) ⟨rfl,by simp,rfl,rfl,rfl,⟨rfl,rfl,rfl,rfl,rfl,rfl,rfl,trivial⟩,⟨rfl,congrArg _ (aZ 2 rfl (by decide)),rfl,rfl,rfl,uJ (hs _ (show k+d<n by omega)),aV fun q hq=>by simpa[aN]using hs q hq,by simp,trivial⟩⟩ ?_
  intro c hc
  have hc:c<=n:=hc
  by_cases hcn:c<n
  ·refine ag.yes (decide_eq_true (by omega)) ?_
   have zc:=hB (k+d) c (by omega) hcn
   have zm:Bz (uG (B (k+d)) c (q7 B n k d q)) D:=B4 zr c fun j hj=>hB (k+d) j (by omega) (by omega)
   refine aI.mk c rfl hcn ?_
   refine fX.cY (hs _ (by omega)) ?_
   refine aG.rv (c+0) (B (k+d) c) rfl (by omega) (hG _ _ (by omega) hcn) ?_
   by_cases hgt:uG (B (k+d)) c (q7 B n k d q)<(B (k+d) c).abs
   ·have e:uG (B (k+d)) (c+1) (q7 B n k d q)=(B (k+d) c).abs:=if_pos hgt
    refine aO.mk (by kernel_rfl) ?_
    repeat refine aj.mk _ _ (And.intro rfl rfl) rfl ?_
    refine aj.mk _ _ (ab.pure (i6 (B (k+d) c) zc (by omega)) (And.intro rfl rfl)) rfl ?_
    repeat refine aj.mk _ _ (And.intro rfl rfl) rfl ?_
    refine aj.mk _ _ (ab.pure (eN _ _ zc.abs.sz zm.sz (by omega)) (And.intro rfl rfl)) rfl ?_
    refine aj.mk _ _ (ag.yes (decide_eq_true (lu.2 hgt)) (And.intro rfl rfl)) rfl ?_
    refine ab.pure (i6 (B (k+d) c) zc (by omega)) ?_
    refine ae.ao ((c+1:Nat):Int) (by omega) (by omega) ?_
    exact⟨c+1,[0,1,2,3,4],hcn,by show n-(c+1)<n-c;omega,⟨rfl,by simp,rfl,rfl,rfl,⟨rfl,rfl,rfl,rfl,rfl,rfl,rfl,trivial⟩,⟨by rw[e];rfl,congrArg _ (aZ 2 rfl (by decide)),rfl,rfl,rfl,uJ (hs _ (show k+d<n by omega)),aV fun q hq=>by simpa[aN]using hs q hq,by simp,trivial⟩⟩⟩
   ·have e:uG (B (k+d)) (c+1) (q7 B n k d q)=uG (B (k+d)) c (q7 B n k d q):=if_neg hgt
    refine aO.mk (by kernel_rfl) ?_
    repeat refine aj.mk _ _ (And.intro rfl rfl) rfl ?_
    refine aj.mk _ _ (ab.pure (i6 (B (k+d) c) zc (by omega)) (And.intro rfl rfl)) rfl ?_
    repeat refine aj.mk _ _ (And.intro rfl rfl) rfl ?_
    refine aj.mk _ _ (ab.pure (eN _ _ zc.abs.sz zm.sz (by omega)) (And.intro rfl rfl)) rfl ?_
    refine aj.mk _ _ (ag.no (decide_eq_false (mt lu.1 hgt)) (And.intro rfl rfl)) rfl ?_
    refine ae.ao ((c+1:Nat):Int) (by omega) (by omega) ?_
    exact⟨c+1,[0,1,2,3,4],hcn,by show n-(c+1)<n-c;omega,⟨rfl,by simp,rfl,rfl,rfl,⟨rfl,rfl,rfl,rfl,rfl,rfl,rfl,trivial⟩,⟨by rw[e];rfl,congrArg _ (aZ 2 rfl (by decide)),rfl,rfl,rfl,uJ (hs _ (show k+d<n by omega)),aV fun q hq=>by simpa[aN]using hs q hq,by simp,trivial⟩⟩⟩
  ·refine ag.no (decide_eq_false (by omega)) ?_
   obtain rfl:c=n:=by omega
   refine ae.ao ((d+1:Nat):Int) (by omega) (by omega) ?_
   exact⟨d+1,[0,1,2,3,4],hdn,by show c-k-(d+1)<c-k-d;omega,⟨rfl,by simp,rfl,rfl,rfl,⟨rfl,rfl,rfl,rfl,trivial⟩,⟨rfl,congrArg _ (aZ 2 rfl (by decide)),rfl,rfl,rfl,aV fun q hq=>by simpa[aN]using hs q hq,by simp,trivial⟩⟩⟩
 ·refine ag.no (decide_eq_false (by omega)) ?_
  obtain rfl:d=n-k:=by omega
  exact aq.gw rfl hes (.bq rfl fun i c d e=>by simp at e)
theorem iU {s:Nat->Nat} {p k:Nat}:bz (bz s k (s p)) p (s k)=nG s p k:=by
 funext i
 unfold bz nG
 by_cases e:i=p
 ·rw[if_pos e,if_pos e]
 ·rw[if_neg e,if_neg e]
  by_cases e2:i=k
  ·rw[if_pos e2,if_pos e2]
  ·rw[if_neg e2,if_neg e2]
theorem vB {s:Nat->Nat} {n p k:Nat} (hs:∀i,i<n->s i<n) (hp:p<n) (hk:k<n):∀i,i<n->nG s p k i<n:=fun i hi=>hs _ (dH hp hk hi)
theorem aG.perm {n:Nat} {s:Nat->Nat} {i:Int} {K:Nat->PV->Prop} (j:Nat) (hi:i=j) (hj:j<n) (hk:K j (.int .i64 ((s j:Nat):Int))):aG (cW n s) i K:=.mk j _ hi (cU hj) hk
theorem bT.perm {n i:Nat} {s:Nat->Nat} {K:Prop} (h:i<n) (hk:K):bT i (cW n s).length K:=.mk (by simpa using h) hk
theorem cH.perm {n i k:Nat} {s:Nat->Nat} {K:List PV->Prop} (hk:K (cW n (bz s i k))):cH ((cW n s).set i (.int .i64 ((k:Nat):Int))) K:=.mk _ xS hk
theorem iK (n k:Nat) (G B:Nat->Nat->Rat) (s:Nat->Nat) (es:List (PV×PV)) (q:Rat) (b:Bool) {D:Nat} (hk:k<n) (hn:n<=1000) (hs:∀i,i<n->s i<n) (hG:∀i j,i<n->j<n->G (s i) j=B i j)
  (hB:∀i j,i<n->j<n->Bz (B i j) D) (hD:D+D<=1000000) (hes:∀e∈es,bZ e.1/\bZ e.2) (hb:b=decide (B (lz B n k) k≠0)):
  cw Tryz.prog 202 [.aF 0 0,.p (.int .i64 (k:Int))] (ju n G s es q) (.p (.bool b)) (ju n G (nG s (lz B n k) k) es q):=by
 obtain⟨p1,p2,_⟩:=dQ (B:=B) hk
 refine aa (wr:=a9) a6 mixed Tryz.func202 (by kernel_rfl) rfl (by kernel_rfl) (af rfl) (by simp) ?_
 refine ae.ao ((k+1+0:Nat):Int) (by omega) (by omega) ?_
 refine aM.mk Nat (fun d=>([(0,.aF 0 0),(1,.p (.int .i64 k)),(5,.p (.int .i64 (gQ B k d:Nat))),(6,.p (.int .i64 ((k+1+d:Nat):Int)))],ju n G s es q))
  (fun d=>k+1+d<=n) (fun d=>n-d) 0 [0,1,2,3,4] (by show k+1+0<=n;omega) ⟨rfl,by simp,rfl,rfl,rfl,⟨rfl,rfl,rfl,rfl,trivial⟩,⟨rfl,congrArg _ (aZ 2 rfl (by decide)),rfl,rfl,rfl,aV fun q hq=>by simpa[aN]using hs q hq,by simp,trivial⟩⟩ ?_
 intro d hd
 have hd:k+1+d<=n:=hd
 obtain⟨a1,a2,_⟩:=qB (B:=B) (k:=k) d
 refine SZ.mk (n:Int) rfl ?_
 by_cases hdn:k+1+d<n
 ·refine ag.yes (decide_eq_true (by omega)) ?_
  have z1:=hB (k+1+d) k hdn hk
  have z2:=hB (gQ B k d) k (by omega) hk
  by_cases hgt:(B (gQ B k d) k).abs<(B (k+1+d) k).abs
  ·have e:gQ B k (d+1)=k+1+d:=if_pos hgt
   refine aO.mk (by kernel_rfl) ?_
   repeat refine aj.mk _ _ (And.intro rfl rfl) rfl ?_
   refine aj.mk _ _ (aI.mk (k+1+d) rfl hdn (And.intro rfl rfl)) rfl ?_
   refine aj.mk _ _ (cq.cZ (k+1+d+0) rfl (by omega) (And.intro rfl rfl)) rfl ?_
   repeat refine aj.mk _ _ (And.intro rfl rfl) rfl ?_
   refine aj.mk _ _ (aI.mk k rfl hk (And.intro rfl rfl)) rfl ?_
   refine aj.mk _ _ (fX.cY (hs _ (by omega))<|aG.rv (k+0) (B (k+1+d) k) rfl (by omega) (hG _ _ (by omega) hk) (And.intro rfl rfl)) rfl ?_
   refine aj.mk _ _ (ab.pure (i6 _ z1 (by omega)) (And.intro rfl rfl)) rfl ?_
   repeat refine aj.mk _ _ (And.intro rfl rfl) rfl ?_
   refine aj.mk _ _ (aI.mk (gQ B k d) rfl (by omega) (And.intro rfl rfl)) rfl ?_
   refine aj.mk _ _ (cq.cZ (gQ B k d+0) rfl (by omega) (And.intro rfl rfl)) rfl ?_
   repeat refine aj.mk _ _ (And.intro rfl rfl) rfl ?_
   refine aj.mk _ _ (aI.mk k rfl hk (And.intro rfl rfl)) rfl ?_
   refine aj.mk _ _ (fX.cY (hs _ (by omega))<|aG.rv (k+0) (B (gQ B k d) k) rfl (by omega) (hG _ _ (by omega) hk) (And.intro rfl rfl)) rfl ?_
   refine aj.mk _ _ (ab.pure (i6 _ z2 (by omega)) (And.intro rfl rfl)) rfl ?_
   refine aj.mk _ _ (ab.pure (eN _ _ z1.abs.sz z2.abs.sz (by omega)) (And.intro rfl rfl)) rfl ?_
   refine aj.mk _ _ (ag.yes (decide_eq_true (lu.2 hgt)) (And.intro rfl rfl)) rfl ?_
   refine ae.ao ((k+1+(d+1):Nat):Int) (by omega) (by omega) ?_
   exact⟨d+1,[0,1,2,3,4],by show k+1+(d+1)<=n;omega,by show n-(d+1)<n-d;omega,⟨rfl,by simp,rfl,rfl,rfl,⟨rfl,rfl,congrArg (fun x:Nat=>AV.p (.int .i64 (x:Int))) e,rfl,trivial⟩,⟨rfl,congrArg _ (aZ 2 rfl (by decide)),rfl,rfl,rfl,aV fun q hq=>by simpa[aN]using hs q hq,by simp,trivial⟩⟩⟩
  ·have e:gQ B k (d+1)=gQ B k d:=if_neg hgt
   refine aO.mk (by kernel_rfl) ?_
   repeat refine aj.mk _ _ (And.intro rfl rfl) rfl ?_
   refine aj.mk _ _ (aI.mk (k+1+d) rfl hdn (And.intro rfl rfl)) rfl ?_
   refine aj.mk _ _ (cq.cZ (k+1+d+0) rfl (by omega) (And.intro rfl rfl)) rfl ?_
   repeat refine aj.mk _ _ (And.intro rfl rfl) rfl ?_
   refine aj.mk _ _ (aI.mk k rfl hk (And.intro rfl rfl)) rfl ?_
   refine aj.mk _ _ (fX.cY (hs _ (by omega))<|aG.rv (k+0) (B (k+1+d) k) rfl (by omega) (hG _ _ (by omega) hk) (And.intro rfl rfl)) rfl ?_
   refine aj.mk _ _ (ab.pure (i6 _ z1 (by omega)) (And.intro rfl rfl)) rfl ?_
   repeat refine aj.mk _ _ (And.intro rfl rfl) rfl ?_
   refine aj.mk _ _ (aI.mk (gQ B k d) rfl (by omega) (And.intro rfl rfl)) rfl ?_
   refine aj.mk _ _ (cq.cZ (gQ B k d+0) rfl (by omega) (And.intro rfl rfl)) rfl ?_
   repeat refine aj.mk _ _ (And.intro rfl rfl) rfl ?_
   refine aj.mk _ _ (aI.mk k rfl hk (And.intro rfl rfl)) rfl ?_
   refine aj.mk _ _ (fX.cY (hs _ (by omega))<|aG.rv (k+0) (B (gQ B k d) k) rfl (by omega) (hG _ _ (by omega) hk) (And.intro rfl rfl)) rfl ?_
   refine aj.mk _ _ (ab.pure (i6 _ z2 (by omega)) (And.intro rfl rfl)) rfl ?_
   refine aj.mk _ _ (ab.pure (eN _ _ z1.abs.sz z2.abs.sz (by omega)) (And.intro rfl rfl)) rfl ?_
   refine aj.mk _ _ (ag.no (decide_eq_false (mt lu.1 hgt)) (And.intro rfl rfl)) rfl ?_
   refine ae.ao ((k+1+(d+1):Nat):Int) (by omega) (by omega) ?_
   exact⟨d+1,[0,1,2,3,4],by show k+1+(d+1)<=n;omega,by show n-(d+1)<n-d;omega,⟨rfl,by simp,rfl,rfl,rfl,⟨rfl,rfl,congrArg (fun x:Nat=>AV.p (.int .i64 (x:Int))) e,rfl,trivial⟩,⟨rfl,congrArg _ (aZ 2 rfl (by decide)),rfl,rfl,rfl,aV fun q hq=>by simpa[aN]using hs q hq,by simp,trivial⟩⟩⟩
 ·refine ag.no (decide_eq_false (by omega)) ?_
  have e:gQ B k d=lz B n k:=by unfold lz;rw[show n-1-k=d by omega]
  rw[e]
  generalize hp:lz B n k=p at p1 p2 hb⊢
  have hs':=vB hs p2 hk
  refine aO.cM (by kernel_rfl) ?_
  repeat refine aj.mk _ _ (And.intro rfl rfl) rfl ?_
  refine aj.mk _ _ (aI.mk p rfl p2 (And.intro rfl rfl)) rfl ?_
  refine aj.mk _ _ (cq.cZ (p+0) rfl p2 (And.intro rfl rfl)) rfl ?_
  repeat refine aj.mk _ _ (And.intro rfl rfl) rfl ?_
  refine aj.mk _ _ (aI.mk k rfl hk (And.intro rfl rfl)) rfl ?_
  refine aj.mk _ _ (cq.cZ (k+0) rfl hk (And.intro rfl rfl)) rfl ?_
  refine aj.mk _ _ (aI.mk k rfl hk (And.intro rfl rfl)) rfl ?_
  refine aj.mk _ _ (bT.cZ hk<|pT.cZ (And.intro rfl rfl)) rfl ?_
  refine aj.mk _ _ (aI.mk p rfl p2 (And.intro rfl rfl)) rfl ?_
  refine aj.mk _ _ (bT.cZ p2<|pT.cZ (And.intro rfl rfl)) rfl ?_
  refine br.mk (by kernel_rfl) ?_
  refine aO.cM (by kernel_rfl) ?_
  repeat refine aj.mk _ _ (And.intro rfl rfl) rfl ?_
  refine aj.mk _ _ (aI.mk p rfl p2 (And.intro rfl rfl)) rfl ?_
  refine aj.mk _ _ (aG.perm p rfl p2 (And.intro rfl rfl)) rfl ?_
  repeat refine aj.mk _ _ (And.intro rfl rfl) rfl ?_
  refine aj.mk _ _ (aI.mk k rfl hk (And.intro rfl rfl)) rfl ?_
  refine aj.mk _ _ (aG.perm k rfl hk (And.intro rfl rfl)) rfl ?_
  refine aj.mk _ _ (aI.mk k rfl hk (And.intro rfl rfl)) rfl ?_
  refine aj.mk _ _ (bT.perm hk<|cH.perm (And.intro rfl rfl)) rfl ?_
  refine aj.mk _ _ (aI.mk p rfl p2 (And.intro rfl rfl)) rfl ?_
  refine aj.mk _ _ (bT.perm p2<|cH.perm (And.intro rfl rfl)) rfl ?_
  refine br.mk (by kernel_rfl) ?_
  refine aI.mk k rfl hk ?_
  refine cq.cZ (k+0) rfl hk ?_
  refine aI.mk k rfl hk ?_
  have eg:G (bz (bz s k (s p)) p (s k) k) k=B p k:=by
   rw[iU]
   show G (s (if k=p then k else if k=k then p else k)) k=_
   by_cases c:k=p
   ·rw[if_pos c,hG k k hk hk,c]
   ·rw[if_neg c,if_pos rfl,hG p k p2 hk]
  have el:bz (bz s k (s p)) p (s k) k<n:=by rw[iU];exact hs' k hk
  refine fX.cY el ?_
  refine aG.rv (k+0) (B p k) rfl hk eg ?_
  refine SZ.mk (aL (B p k).num.natAbs:Int) (by simp) ?_
  by_cases hz:B p k=0
  ·refine ag.no (decide_eq_false (by rw[BQ hz];decide)) ?_
   have hb:b=false:=by rw[hb];exact decide_eq_false (fun h=>h hz)
   subst hb
   rw[<-iU]
   exact aq.gw rfl hes (.tf _)
  ·refine ag.yes (decide_eq_true (by have:=zF hz;omega)) ?_
   have hb:b=true:=by rw[hb];exact decide_eq_true hz
   subst hb
   rw[<-iU]
   exact aq.gw rfl hes (.tf _)
abbrev BG (s:Nat->Nat) (P:Nat->Nat->Rat) (k d:Nat):PV×PV:=(cg (s (k+1+d)) k,aJ (P (k+1+d) k/P k k))
def r5 (es:List (PV×PV)) (k:Nat):Prop:=∀e∈es,∃r j v,e=(cg r j,aJ v)/\j<k
theorem r5.gP {es:List (PV×PV)} {k:Nat} (h:r5 es k):∀e∈es,bZ e.1/\bZ e.2:=fun e he=>by
 obtain⟨r,j,v,rfl,_⟩:=h e he
 exact⟨mh _ _,aS _ _ _⟩
theorem r5.app {es:List (PV×PV)} {k d:Nat} {s:Nat->Nat} {P:Nat->Nat->Rat} (h:r5 es k):r5 (es++fl d (BG s P k)) (k+1):=fun e he=>by
 rcases List.mem_append.1 he with he|he
 ·obtain⟨r,j,v,e,hj⟩:=h e he
  exact⟨r,j,v,e,by omega⟩
 ·obtain⟨d,_,rfl⟩:=dq he
  exact⟨_,_,_,rfl,by omega⟩
theorem a5.kb {b:PV->Bool} {es:List (PV×PV)} {k:Nat} {K:Prop} (h:r5 es k) (hb:∀i k:Nat,b (cg i k)=true) (hK:K):a5 b es K:=
 .mk (fun e he=>by obtain⟨r,j,v,rfl,_⟩:=h e he;exact hb _ _) hK
theorem dc.kb {es:List (PV×PV)} {n k d i:Nat} {s:Nat->Nat} {P:Nat->Nat->Rat} {v:PV} {K:List (PV×PV)->Prop} (h:r5 es k) (inj:∀i j,i<n->j<n->s i=s j->i=j) (hi:i=k+1+d) (hd:i<n) (hv:v=aJ (P i k/P k k))
  (hK:K (es++fl (d+1) (BG s P k))):dc (es++fl d (BG s P k)) (cg (s i) k) v K:=by
 subst hv;subst hi
 refine .new _ (fun e he=>?_) (by rw[List.append_assoc,lC]) hK
 rcases List.mem_append.1 he with he|he
 ·obtain⟨r,j,v,rfl,hj⟩:=h e he
  rw[cF];exact decide_eq_false fun h=>by omega
 ·obtain⟨d',hd',rfl⟩:=dq he
  rw[cF];exact decide_eq_false fun⟨h,_⟩=>by have:=inj _ _ hd (by omega) h;omega
set_option maxHeartbeats 1000000 in
theorem jQ (n k:Nat) (G P:Nat->Nat->Rat) (s si:Nat->Nat) (es:List (PV×PV)) (q:Rat) {D:Nat} (hk:k<n) (hn:n<=1000) (hs:∀i,i<n->s i<n) (inj:∀i j,i<n->j<n->s i=s j->i=j)
  (hsi:∀r,r<n->si r<n/\s (si r)=r) (hG:∀i j,i<n->j<n->G (s i) j=P i j) (hP:∀i j,i<n->j<n->Bz (P i j) D) (hD:4*D+1<=1000000) (hp:P k k≠0) (hes:r5 es k):
  cw Tryz.prog 203 [.aF 0 0,.p (.int .i64 (k:Int))] (ju n G s es q) (.bq []) (ju n (fun r j=>ld P k (si r) j) s (es++fl (n-1-k) (BG s P k)) q):=by
 refine aa (wr:=a9) a6 mixed Tryz.func203 (by kernel_rfl) rfl (by kernel_rfl) (af rfl) (by simp) ?_
 refine ae.ao ((k+1:Nat):Int) (by omega) (by omega) ?_
 refine aM.mk (Nat×Nat×(Nat->Nat->Rat)) (fun(i,d,G)=>([(0,.aF 0 0),(1,.p (.int .i64 k)),(4,.p (.int .i64 (i:Nat)))],ju n G s (es++fl d (BG s P k)) q))
  (fun(i,d,G)=>i=k+1+d/\i<=n/\∀t c,t<n->c<n->G (s t) c=if t<i then ld P k t c else P t c) (fun x=>n-x.1) (k+1,0,G) [0,1,2,3,4]
  ⟨rfl,by omega,fun t c ht hc=>by
   rw[hG t c ht hc]
   split
   ·unfold ld;rw[if_neg (by omega)]
   ·rfl⟩ ⟨rfl,by simp,rfl,rfl,rfl,⟨rfl,rfl,rfl,trivial⟩,⟨rfl,congrArg _ (aZ 2 rfl (by decide)),rfl,rfl,congrArg aC.map (List.append_nil _),aV fun q hq=>by simpa[aN]using hs q hq,by simp,trivial⟩⟩ ?_
 intro⟨i,d,G1⟩ ⟨hi,hd,hG1⟩
 refine SZ.mk (n:Int) rfl ?_
 by_cases hin:i<n
 ·refine ag.yes (decide_eq_true (by omega)) ?_
  have gi:∀c,c<n->G1 (s i) c=P i c:=fun c hc=>by rw[hG1 i c (by omega) hc,if_neg (by omega)]
  have gk:∀c,c<n->G1 (s k) c=P k c:=fun c hc=>by rw[hG1 k c hk hc,if_pos (by omega)];unfold ld;rw[if_neg (Nat.lt_irrefl k)]
  have z1:=hP i k hin hk
  have z2:=hP k k hk hk
  have zq:=z1.div z2
  have hq:=fY (P i k) (P k k) hp z1.sz z2.sz (by omega)
  obtain⟨Q,hQ⟩:∃Q,Q=P i k/P k k:=⟨_,rfl⟩
  rw[<-hQ]at zq hq
  refine aO.cM (by kernel_rfl) ?_
  repeat refine aj.mk _ _ (And.intro rfl rfl) rfl ?_
  refine aj.mk _ _ (aI.mk i rfl hin (And.intro rfl rfl)) rfl ?_
  refine aj.mk _ _ (cq.cZ (i+0) rfl hin (And.intro rfl rfl)) rfl ?_
  repeat refine aj.mk _ _ (And.intro rfl rfl) rfl ?_
  refine aj.mk _ _ (aI.mk k rfl hk (And.intro rfl rfl)) rfl ?_
  refine aj.mk _ _ (fX.cY (hs _ hin)<|aG.rv (k+0) (P i k) rfl hk (gi k hk) (And.intro rfl rfl)) rfl ?_
  repeat refine aj.mk _ _ (And.intro rfl rfl) rfl ?_
  refine aj.mk _ _ (aI.mk k rfl hk (And.intro rfl rfl)) rfl ?_
  refine aj.mk _ _ (cq.cZ (k+0) rfl hk (And.intro rfl rfl)) rfl ?_
  repeat refine aj.mk _ _ (And.intro rfl rfl) rfl ?_
  refine aj.mk _ _ (aI.mk k rfl hk (And.intro rfl rfl)) rfl ?_
  refine aj.mk _ _ (fX.cY (hs _ hk)<|aG.rv (k+0) (P k k) rfl hk (gk k hk) (And.intro rfl rfl)) rfl ?_
  refine aj.mk _ _ (ab.bg (hq) (fun _=>rfl) (And.intro rfl rfl)) rfl ?_
  repeat refine aj.mk _ _ (And.intro rfl rfl) rfl ?_
  refine br.mk (by kernel_rfl) ?_
  refine aO.cM (by kernel_rfl) ?_
  repeat refine aj.mk _ _ (And.intro rfl rfl) rfl ?_
  refine aj.mk _ _ (aI.mk i rfl hin (And.intro rfl rfl)) rfl ?_
  refine aj.mk _ _ (aG.perm (i+0) rfl hin (And.intro rfl rfl)) rfl ?_
  repeat refine aj.mk _ _ (And.intro rfl rfl) rfl ?_
  refine aj.mk _ _ (a5.kb hes.app (fun _ _=>rfl)<|dc.kb (P:=P) hes inj hi hin (congrArg aJ hQ) (And.intro rfl rfl)) rfl ?_
  refine br.mk (by kernel_rfl) ?_
  refine aI.mk i rfl hin ?_
  refine cq.cZ (i+0) rfl hin ?_
  refine SZ.mk (n:Int) rfl ?_
  refine aM.mk (Nat×(Nat->Nat->Rat)) (fun(c,G)=>([(0,.aF 0 0),(1,.p (.int .i64 k)),(4,.p (.int .i64 (i:Nat))),(5,.aF 5 0),(64,.p (.int .i64 n)),(65,.p (.int .i64 (c:Nat)))],ju n G s (es++fl (d+1) (BG s P k)) q++[.box 38 (lW Q)]))
   (fun(c,G)=>c<=n/\∀t x,t<n->x<n->G (s t) x=if t=i then(if x<c then ld P k i x else P i x)else G1 (s t) x) (fun x=>n-x.1) (0,G1) [0,1,2,3,4,5]
   ⟨Nat.zero_le _,fun t x ht hx=>by
    by_cases e:t=i
    ·rw[if_pos e,if_neg (Nat.not_lt_zero _),e];exact gi x hx
    ·rw[if_neg e]⟩ ⟨rfl,by simp,rfl,rfl,rfl,⟨rfl,rfl,rfl,rfl,rfl,rfl,trivial⟩,⟨rfl,congrArg _ (aZ 2 rfl (by decide)),rfl,rfl,rfl,rfl,aV fun q hq=>by simpa[aN]using hs q hq,by simp,trivial⟩⟩ ?_
  intro⟨c,G2⟩ ⟨hc,hG2⟩
  by_cases hcn:c<n
  ·refine ag.yes (decide_eq_true (by omega)) ?_
   have di:G2 (s i) c=P i c:=by rw[hG2 i c hin hcn,if_pos rfl,if_neg (Nat.lt_irrefl c)]
   have dk:G2 (s k) c=P k c:=by rw[hG2 k c hk hcn,if_neg (by omega)];exact gk c hcn
   have z3:=hP i c hin hcn
   have z4:=hP k c hk hcn
   refine aO.cM (by kernel_rfl) ?_
   repeat refine aj.mk _ _ (And.intro rfl rfl) rfl ?_
   refine aj.mk _ _ (aI.mk i rfl hin (And.intro rfl rfl)) rfl ?_
   refine aj.mk _ _ (cq.cZ (i+0) rfl hin (And.intro rfl rfl)) rfl ?_
   repeat refine aj.mk _ _ (And.intro rfl rfl) rfl ?_
   refine aj.mk _ _ (aI.mk i rfl hin (And.intro rfl rfl)) rfl ?_
   refine aj.mk _ _ (cq.cZ (i+0) rfl hin (And.intro rfl rfl)) rfl ?_
   repeat refine aj.mk _ _ (And.intro rfl rfl) rfl ?_
   refine aj.mk _ _ (aI.mk c rfl hcn (And.intro rfl rfl)) rfl ?_
   refine aj.mk _ _ (fX.cY (hs _ hin)<|aG.rv (c+0) (P i c) rfl hcn di (And.intro rfl rfl)) rfl ?_
   repeat refine aj.mk _ _ (And.intro rfl rfl) rfl ?_
   refine aj.mk _ _ (aI.mk k rfl hk (And.intro rfl rfl)) rfl ?_
   refine aj.mk _ _ (cq.cZ (k+0) rfl hk (And.intro rfl rfl)) rfl ?_
   repeat refine aj.mk _ _ (And.intro rfl rfl) rfl ?_
   refine aj.mk _ _ (aI.mk c rfl hcn (And.intro rfl rfl)) rfl ?_
   refine aj.mk _ _ (fX.cY (hs _ hk)<|aG.rv (c+0) (P k c) rfl hcn dk (And.intro rfl rfl)) rfl ?_
   refine aj.mk _ _ (ab.pure (b9 Q (P k c) zq.sz z4.sz (by omega)) (And.intro rfl rfl)) rfl ?_
   refine aj.mk _ _ (ab.pure (cn (P i c) (Q*P k c) z3.sz (zq.mul z4).sz (by omega)) (And.intro rfl rfl)) rfl ?_
   refine aj.mk _ _ (aI.mk c rfl hcn (And.intro rfl rfl)) rfl ?_
   refine aj.mk _ _ (fX.cY (hs _ hin)<|bT.rf (show c+0<n by omega)<|cH.rf (And.intro rfl rfl)) rfl ?_
   refine qq.cY (hs _ hin) ?_
   refine br.mk (by kernel_rfl) ?_
   refine ae.ao ((c+1:Nat):Int) (by omega) (by omega) ?_
   refine⟨(c+1,_),[0,1,2,3,4,5],⟨hcn,?_⟩,by show n-(c+1)<n-c;omega,⟨rfl,by simp,rfl,rfl,rfl,⟨rfl,rfl,rfl,rfl,rfl,rfl,trivial⟩,⟨rfl,congrArg _ (aZ 2 rfl (by decide)),rfl,rfl,rfl,rfl,aV fun q hq=>by simpa[aN]using hs q hq,by simp,trivial⟩⟩⟩
   exact p6 inj hin hcn hG2 (by rw[hQ];exact(if_pos (by omega)).symm)
  ·refine ag.no (decide_eq_false (by omega)) ?_
   obtain rfl:c=n:=by omega
   refine ae.ao ((i+1:Nat):Int) (by omega) (by omega) ?_
   refine⟨(i+1,d+1,G2),[0,1,2,3,4],⟨by omega,hin,fun t x ht hx=>?_⟩,by show c-(i+1)<c-i;omega,⟨rfl,by simp,rfl,rfl,rfl,⟨rfl,rfl,rfl,trivial⟩,⟨rfl,congrArg _ (aZ 2 rfl (by decide)),rfl,rfl,rfl,aV fun q hq=>by simpa[aN]using hs q hq,by simp,trivial⟩⟩⟩
   rw[hG2 t x ht hx]
   by_cases e:t=i
   ·rw[if_pos e,if_pos hx,if_pos (by omega),e]
   ·rw[if_neg e,hG1 t x ht hx]
    by_cases e2:t<i
    ·rw[if_pos e2,if_pos (by omega)]
    ·rw[if_neg e2,if_neg (by omega)]
 ·refine ag.no (decide_eq_false (by omega)) ?_
  obtain rfl:d=n-1-k:=by omega
  have e:cY n n G1=cY n n fun r j=>ld P k (si r) j:=p9 fun r j hr hj=>by
   obtain⟨h1,h2⟩:=hsi r hr
   have:=hG1 (si r) j h1 hj
   rw[h2,if_pos (by omega)]at this
   exact this
  exact aq.gw (congrArg (fun x=>[aC.box 213 (z7 n q),.rows 24 (cZ 2 n n s),.bt 38 3 x,.vec 3 1 (cW n s),.map (es++fl (n-1-k) (BG s P k))]) e) hes.app.gP (.bq rfl fun i c d e=>by simp at e)
theorem y6 (i j:Nat):au Tryz.prog 223 [cg i j] (.p (.bool (decide (j<i)))) []:=by
 by_cases c:j<i
 ·rw[decide_eq_true c]
  refine aa (wr:=a9) a6 mixed Tryz.func223 (by kernel_rfl) rfl (by kernel_rfl) (af rfl) (by simp) ?_
  refine SZ.mk (i:Int) (by show(if(j:Int)>i then(j:Int)else i)=i;split<;>omega) ?_
  have h1:((i:Int)==(i:Int))=true:=kV rfl
  have h2:((j:Int)==(i:Int))=false:=kL (by omega)
  refine ag.yes (by rw[h1,h2];rfl) ?_
  refine ag.yes (decide_eq_true (by omega)) ?_
  exact aq.pure (.tf _)
 ·rw[decide_eq_false c]
  refine aa (wr:=a9) a6 mixed Tryz.func223 (by kernel_rfl) rfl (by kernel_rfl) (af rfl) (by simp) ?_
  refine SZ.mk (j:Int) (by show(if(j:Int)>i then(j:Int)else i)=j;split<;>omega) ?_
  have h1:((i:Int)==(i:Int))=true:=kV rfl
  have h2:((j:Int)==(j:Int))=true:=kV rfl
  refine ag.no (by rw[h1,h2];rfl) ?_
  exact aq.pure (.tf _)
def iS (n:Nat) (A:Nat->Nat->Rat):Nat->List (PV×PV)
 |0=>[]
 |k+1=>iS n A k++fl (n-1-k) (BG (gk n A (k+1)).s (kS n A k) k)
theorem cX {n:Nat} {A:Nat->Nat->Rat}:∀k,r5 (iS n A k) k:=by
 intro k
 induction k with
 |zero=>intro e he;simp[iS]at he
 |succ k ih=>exact ih.app
theorem Du {n:Nat} {A:Nat->Nat->Rat}:∀k,k<=n->∀i j,i<n->j<i->j<k->∃a:Nat,(iS n A k)[a]?=some (cg ((gk n A k).s i) j,aJ ((gk n A k).M i j))/\
  ∀(b:Nat) e',b≠a->(iS n A k)[b]?=some e'->PV.f9 (cg ((gk n A k).s i) j) e'.1=false:=by
 intro k
 induction k with
 |zero=>intro _ i j _ _ h;exact absurd h (Nat.not_lt_zero _)
 |succ k ih=>
  intro hk i j hi hji hjk
  obtain⟨p1,p2,_⟩:=dQ (B:=(gk n A k).B) (n:=n) (k:=k) (by omega)
  obtain⟨_,inj,_⟩:=eE (n:=n) (A:=A) (k+1) hk
  have news:∀(b:Nat) e',(fl (n-1-k) (BG (gk n A (k+1)).s (kS n A k) k))[b]?=some e'->∃d,d=b/\k+1+d<n/\e'=BG (gk n A (k+1)).s (kS n A k) k d:=fun b e' he=>by
   obtain⟨hb,rfl⟩:=bX.1 he
   exact⟨b,rfl,by omega,rfl⟩
  simp only[iS]
  by_cases e:j=k
  ·subst e
   have eM:(gk n A (j+1)).M i j=kS n A j i j/kS n A j j j:=by rw[fK];show pB _ _ j i j=_;unfold pB;rw[if_pos rfl,if_pos hji]
   refine⟨(iS n A j).length+(i-(j+1)),?_,fun b e' hb he=>?_⟩
   ·rw[List.getElem?_append_right (by omega),show(iS n A j).length+(i-(j+1))-(iS n A j).length=i-(j+1) by omega,cU (by omega),eM]
    simp only[BG]
    rw[show j+1+(i-(j+1))=i by omega]
   ·by_cases hl:b<(iS n A j).length
    ·rw[List.getElem?_append_left hl]at he
     obtain⟨r,j',v,rfl,hj'⟩:=cX j e' (List.mem_of_getElem? he)
     rw[cF];exact decide_eq_false fun h=>by omega
    ·rw[List.getElem?_append_right (by omega)]at he
     obtain⟨d,hd,hdn,rfl⟩:=news _ _ he
     rw[cF]
     exact decide_eq_false fun⟨h,_⟩=>by have:=inj _ _ hi hdn h;omega
  ·have hi':=dH p2 (show k<n by omega) hi
   have hji':j<(if i=lz (gk n A k).B n k then k else if i=k then lz (gk n A k).B n k else i):=by
    by_cases c:i<k
    ·rw[w9 p1 c];exact hji
    ·have:=CU p1 (show k<=i by omega);omega
   obtain⟨a,h1,h2⟩:=ih (by omega) _ j hi' hji' (by omega)
   have eS:(gk n A (k+1)).s i=(gk n A k).s (if i=lz (gk n A k).B n k then k else if i=k then lz (gk n A k).B n k else i):=by rw[fK];rfl
   have eM:(gk n A (k+1)).M i j=(gk n A k).M (if i=lz (gk n A k).B n k then k else if i=k then lz (gk n A k).B n k else i) j:=by rw[fK];exact if_neg e
   have hl:=(List.getElem?_eq_some_iff.1 h1).1
   refine⟨a,by rw[List.getElem?_append_left hl,eS,eM];exact h1,fun b e' hb he=>?_⟩
   by_cases hl:b<(iS n A k).length
   ·rw[List.getElem?_append_left hl]at he;rw[eS];exact h2 b e' hb he
   ·rw[List.getElem?_append_right (by omega)]at he
    obtain⟨d,hd,hdn,rfl⟩:=news _ _ he
    rw[cF];exact decide_eq_false fun h=>by omega
abbrev Gf (n:Nat) (rows:List PV) (s:Nat->Nat) (es:List (PV×PV)) (q:Rat):PV:=.eT true (.agg [.sl true 1 rows,.sl true 1 (cW n s),.mp true es,.bool (decide (q.num<0)),bC q.num.natAbs,bC q.den])
theorem j7 (n:Nat) (A:Nat->Nat->Rat) (rows:List PV) (q:Rat) {D:Nat} (i j:Nat) (hi:i<n) (hj:j<n) (hz:Bz (gL n A i j) D) (hD:D<=1000000):
  au Tryz.prog 205 [Gf n rows (gO n A) (iS n A n) q,cg i j] (.p (aJ (gL n A i j))) []:=by
 by_cases e:i=j
 ·subst e
  rw[DF hi]
  refine aa (wr:=a9) a6 mixed Tryz.func205 (by kernel_rfl) rfl (by kernel_rfl) (af rfl) (by simp) ?_
  refine ag.yes (kV rfl) ?_
  refine ab.pure (Dp) ?_
  exact aq.pure (.p _ (aS _ _ _))
 ·have hb:=y6 i j
  by_cases c:j<i
  ·rw[decide_eq_true c]at hb
   obtain⟨a,h1,h2⟩:=Du (A:=A) n (Nat.le_refl _) i j hi c hj
   refine aa (wr:=a9) a6 mixed Tryz.func205 (by kernel_rfl) rfl (by kernel_rfl) (af rfl) (by simp) ?_
   refine ag.no (kL (by omega)) ?_
   refine ab.pure (hb) ?_
   refine a8.mk (fun _=>?_) (fun h=>by cases h)
   refine aO.cM (by kernel_rfl) ?_
   repeat refine aj.mk _ _ (And.intro rfl rfl) rfl ?_
   refine aj.mk _ _ (aG.perm i rfl hi (And.intro rfl rfl)) rfl ?_
   repeat refine aj.mk _ _ (And.intro rfl rfl) rfl ?_
   refine aj.mk _ _ (a5.kb (cX n) (fun _ _=>rfl)<|cd.yes a _ h1 (by rw[cF];exact decide_eq_true ⟨rfl,rfl⟩) h2 (And.intro rfl rfl)) rfl ?_
   refine aj.mk _ _ (ab.pure (fP) (And.intro rfl rfl)) rfl ?_
   refine aj.mk _ _ (ab.pure (gy hz hD) (And.intro rfl rfl)) rfl ?_
   repeat refine aj.mk _ _ (And.intro rfl rfl) rfl ?_
   refine br.mk (by kernel_rfl) ?_
   exact aq.pure (.p _ (aS _ _ _))
  ·rw[decide_eq_false c]at hb
   rw[Gd hi (by omega)]
   refine aa (wr:=a9) a6 mixed Tryz.func205 (by kernel_rfl) rfl (by kernel_rfl) (af rfl) (by simp) ?_
   refine ag.no (kL (by omega)) ?_
   refine ab.pure (hb) ?_
   refine a8.mk (fun h=>by cases h) (fun _=>?_)
   refine ab.pure (fP) ?_
   exact aq.pure (.p _ (aS _ _ _))
abbrev pL (p c n k q c':Nat):List AV:=fl n fun i=>if i<k then .vec (.r p i) 3 0 c else if i=k then .vec (.t q) 3 0 c' else .emp
theorem sf {p c n k:Nat} (h:k<n):(half p c n k)[k]?=some .emp:=by rw[cU h,if_neg (Nat.lt_irrefl k)]
theorem yL {p c n k q c':Nat}:(half p c n k).set k (.vec (.t q) 3 0 c')=pL p c n k q c':=by
 rw[eX]
 refine aX fun i _=>?_
 unfold bz
 by_cases e:i=k
 ·rw[if_pos e,if_neg (by omega),if_pos e]
 ·rw[if_neg e]
  show(if i<k then AV.vec (.r p i) 3 0 c else .emp)=_
  by_cases e2:i<k
  ·rw[if_pos e2,if_pos e2]
  ·rw[if_neg e2,if_neg e2,if_neg e]
theorem z5 {p c n k q c':Nat} (h:k<n):(pL p c n k q c')[k]?=some (.vec (.t q) 3 0 c'):=by rw[cU h,if_neg (Nat.lt_irrefl k),if_pos rfl]
theorem BH {p c n k q c' q2 c2:Nat}:(pL p c n k q c').set k (.vec (.t q2) 3 0 c2)=pL p c n k q2 c2:=by
 rw[eX]
 refine aX fun i _=>?_
 unfold bz
 by_cases e:i=k
 ·rw[if_pos e,if_neg (by omega),if_pos e]
 ·rw[if_neg e]
  show(if i<k then AV.vec (.r p i) 3 0 c else if i=k then AV.vec (.t q) 3 0 c' else .emp)=_
  by_cases e2:i<k
  ·rw[if_pos e2,if_pos e2]
  ·rw[if_neg e2,if_neg e2,if_neg e,if_neg e]
theorem s6 {hs:List Nat} {P:Hp} {p c n k q c':Nat} (p' q':Nat) (hp:hs.getD p 0=p') (hp':p'<1000) (hq:hs.getD q 0=q') (hq':q'<1000):AV.cz (cO hs P) (pL p c n k q c')=pL p' c n k q' c':=by
 rw[eu]
 refine aX fun i hi=>?_
 have eb:Nat.blt p' 1000=true:=b8.2 hp'
 have ec:Nat.blt q' 1000=true:=b8.2 hq'
 by_cases e:i<k
 ·rw[if_pos e,if_pos e];simp only[AV.cE,cO,hp,eb,cond_true]
 ·rw[if_neg e,if_neg e]
  by_cases e2:i=k
  ·rw[if_pos e2,if_pos e2];simp only[AV.cE,cO,hq,ec,cond_true];rw[show pM q'=q' from Nat.mod_eq_of_lt hq']
  ·rw[if_neg e2,if_neg e2];simp only[AV.cE]
theorem sS {hs:List Nat} {P:Hp} {p c n k:Nat} (p':Nat) (hp:hs.getD p 0=p') (hp':p'<1000):AV.cz (cO hs P) (half p c n k)=half p' c n k:=by
 rw[eu]
 refine aX fun i hi=>?_
 have eb:Nat.blt p' 1000=true:=b8.2 hp'
 by_cases e:i<k
 ·rw[if_pos e,if_pos e];simp only[AV.cE,cO,hp,eb,cond_true]
 ·rw[if_neg e,if_neg e];simp only[AV.cE]
theorem wA {P:Hp} {p c n k q c':Nat} (h:∀i,i<k->i<aN P p) (hq:look P (.t q)≠ .free):∀x∈pL p c n k q c',∀h,x.aU h->look P h≠ .free:=by
 intro x hx g hg
 obtain⟨i,hi,rfl⟩:=dq hx
 by_cases e:i<k
 ·rw[if_pos e]at hg
  simp only[AV.aU]at hg
  subst hg
  exact iH (h i e)
 ·rw[if_neg e]at hg
  by_cases e2:i=k
  ·rw[if_pos e2]at hg
   simp only[AV.aU]at hg
   subst hg;exact hq
  ·rw[if_neg e2]at hg;exact hg.elim
theorem wj (m m':Bool) (n:Nat) (A:Nat->Nat->Rat) {D:Nat} (n1:1<=n) (hn:n<=1000) (hA:∀i j,i<n->j<n->Bz (A i j) D) (hD:D<=1000000):
  au Tryz.prog 204 [cm m m' n n A] (.p (cm false false n n A)) []:=by
 refine aa (wr:=a9) a6 mixed Tryz.func204 (by kernel_rfl) rfl (by kernel_rfl) (af rfl) (by simp) ?_
 refine SZ.mk (n:Int) (by simp) ?_
 refine SZ.mk (n:Int) rfl ?_
 refine bT.mk (by simp) ?_
 refine bV.mk n rfl (by simp;omega) (by omega) ?_
 refine FG.rows ?_
 refine SZ.mk (n:Int) (by simp) ?_
 refine aM.Cf Nat (fun i=>([(0,.p (cm m m' n n A)),(3,.vec 0 1 0 n),(11,.p (.int .i64 n)),(12,.p (.int .i64 (i:Nat)))],[.rows 24 (half 1 n n i),.bt 38 3 (cY i n A)]))
  (fun i=>i<=n) (fun i=>n-i) 0 [0,1] _ _ (.bt 38 3 (.done _ _)) (Nat.zero_le _) ⟨rfl,by simp,rfl,rfl,rfl,⟨rfl,rfl,rfl,rfl,trivial⟩,⟨congrArg _ iF,rfl,ez fun i hi=>absurd hi (Nat.not_lt_zero _),trivial⟩⟩ ?_
 intro i hi
 have hi:i<=n:=hi
 by_cases hin:i<n
 ·refine ag.yes (decide_eq_true (by omega)) ?_
  refine aG.mf i rfl hin ?_
  refine SZ.mk (n:Int) (by simp[ar]) ?_
  refine aM.mk Nat (fun j=>match j with
    |0=>([(0,.p (cm m m' n n A)),(3,.vec 0 1 0 n),(4,.p (.int .i64 (i:Nat))),(11,.p (.int .i64 n)),(12,.p (.int .i64 (i:Nat))),(18,.p (ah m' (ar n (A i)))),(19,.p (.int .i64 n)),(20,.p (.int .i64 0))],[.rows 24 (half 1 n n i),.bt 38 3 (cY i n A)])
    |j+1=>([(0,.p (cm m m' n n A)),(3,.vec 0 1 0 n),(4,.p (.int .i64 (i:Nat))),(11,.p (.int .i64 n)),(12,.p (.int .i64 (i:Nat))),(18,.p (ah m' (ar n (A i)))),(19,.p (.int .i64 n)),(20,.p (.int .i64 ((j+1:Nat):Int)))],[.rows 24 (pL 1 n n i 2 (j+1)),.bt 38 3 (cY i n A),.vec 38 3 (bd (ar (j+1) (A i)))]))
   (fun j=>j<=n) (fun j=>n-j) 0 [0,1] (Nat.zero_le _) ⟨rfl,by simp,rfl,rfl,rfl,⟨rfl,rfl,rfl,rfl,rfl,rfl,rfl,rfl,trivial⟩,⟨congrArg _ (sS 1 rfl (by decide)),rfl,ez fun i hi=>by simpa[aN]using hi,trivial⟩⟩ ?_
  intro j hj
  match j,hj with
  |0,hj=>
   refine ag.yes (decide_eq_true (by omega)) ?_
   refine aG.rf 0 rfl (by omega) ?_
   refine aO.cM (by kernel_rfl) ?_
   repeat refine aj.mk _ _ (And.intro rfl rfl) rfl ?_
   refine aj.mk _ _ (aI.mk i rfl hin (And.intro rfl rfl)) rfl ?_
   refine aj.mk _ _ (cq.mk (i+0) _ rfl (sf hin) (And.intro rfl rfl)) rfl ?_
   repeat refine aj.mk _ _ (And.intro rfl rfl) rfl ?_
   refine aj.mk _ _ (ab.pure (fP) (And.intro rfl rfl)) rfl ?_
   refine aj.mk _ _ (ab.pure (gy (hA i 0 hin (by omega)) hD) (And.intro rfl rfl)) rfl ?_
   repeat refine aj.mk _ _ (And.intro rfl rfl) rfl ?_
   refine aj.mk _ _ (bp.all rfl<|ck.mk (by simp) (by simp) (And.intro rfl rfl)) rfl ?_
   repeat refine aj.mk _ _ (And.intro rfl rfl) rfl ?_
   refine aj.mk _ _ (aI.mk i rfl hin (And.intro rfl rfl)) rfl ?_
   refine aj.mk _ _ (bT.mk (by simp;omega)<|pT.mk (pL 1 n n i 4 1) yL (And.intro rfl rfl)) rfl ?_
   repeat refine aj.mk _ _ (And.intro rfl rfl) rfl ?_
   refine br.mk (by kernel_rfl) ?_
   refine ae.ao ((0+1:Nat):Int) (by omega) (by omega) ?_
   exact⟨1,[0,1,4],n1,by show n-1<n-0;omega,⟨rfl,by simp,rfl,rfl,rfl,⟨rfl,rfl,rfl,rfl,rfl,rfl,rfl,rfl,trivial⟩,⟨congrArg _ (s6 1 4 rfl (by decide) rfl (by decide)),rfl,rfl,wA (fun i hi=>by simpa[aN]using hi) (fun e=>by cases e),trivial⟩⟩⟩
  |j+1,hj=>
   have hj:j+1<=n:=hj
   by_cases hjn:j+1<n
   ·refine ag.yes (decide_eq_true (by omega)) ?_
    refine aG.rf (j+1) rfl hjn ?_
    refine aO.cM (by kernel_rfl) ?_
    repeat refine aj.mk _ _ (And.intro rfl rfl) rfl ?_
    refine aj.mk _ _ (aI.mk i rfl hin (And.intro rfl rfl)) rfl ?_
    refine aj.mk _ _ (cq.mk (i+0) _ rfl (z5 hin) (And.intro rfl rfl)) rfl ?_
    repeat refine aj.mk _ _ (And.intro rfl rfl) rfl ?_
    refine aj.mk _ _ (ab.pure (fP) (And.intro rfl rfl)) rfl ?_
    refine aj.mk _ _ (ab.pure (gy (hA i (j+1) hin hjn) hD) (And.intro rfl rfl)) rfl ?_
    repeat refine aj.mk _ _ (And.intro rfl rfl) rfl ?_
    refine aj.mk _ _ (ga.mk (by simp[ar])<|bp.all rfl<|ck.mk (by simp[ar];omega) (by simp[ar];omega)<|cH.mk (bd (ar (j+1+1) (A i))) (j4 _ _ _ (rfl))<|mQ.mk (j+1+1) (by simp[ar]) (And.intro rfl rfl)) rfl ?_
    repeat refine aj.mk _ _ (And.intro rfl rfl) rfl ?_
    refine aj.mk _ _ (aI.mk i rfl hin (And.intro rfl rfl)) rfl ?_
    refine aj.mk _ _ (bT.mk (by simp;omega)<|pT.mk (pL 1 n n i 5 (j+1+1)) BH (And.intro rfl rfl)) rfl ?_
    repeat refine aj.mk _ _ (And.intro rfl rfl) rfl ?_
    refine br.mk (by kernel_rfl) ?_
    refine ae.ao ((j+1+1:Nat):Int) (by omega) (by omega) ?_
    exact⟨j+1+1,[0,1,5],hjn,by show n-(j+1+1)<n-(j+1);omega,⟨rfl,by simp,rfl,rfl,rfl,⟨rfl,rfl,rfl,rfl,rfl,rfl,rfl,rfl,trivial⟩,⟨congrArg _ (s6 1 5 rfl (by decide) rfl (by decide)),rfl,rfl,wA (fun i hi=>by simpa[aN]using hi) (fun e=>by cases e),trivial⟩⟩⟩
   ·refine ag.no (decide_eq_false (by omega)) ?_
    obtain rfl:n=j+1:=by omega
    refine ae.ao ((i+1:Nat):Int) (by omega) (by omega) ?_
    exact⟨i+1,[0,3001],hin,by show j+1-(i+1)<j+1-i;omega,⟨rfl,by simp,rfl,rfl,rfl,⟨rfl,rfl,rfl,rfl,trivial⟩,⟨congrArg _ (fM rfl (by decide) (by simp[aN])),⟨_,_,_,_,rfl,rfl,congrArg _ dO⟩,ez fun i hi=>by simpa[aN]using hi,trivial⟩⟩⟩
 ·refine ag.no (decide_eq_false (by omega)) ?_
  obtain rfl:i=n:=by omega
  exact aq.pure (x6 (H:=[_,_]) (h:=0) (p:=1) (congrArg (aC.rows _) iE) rfl fun i hi=>hi)
def jg (p' p:PV):Prop:=∀w FB v,PR w FB p' v->PR w FB p v
theorem jg.refl (p:PV):jg p p:=fun _ _ _ h=>h
theorem jg.nil (m:Bool) (W:Nat):jg (.raw (.slice none 0 0)) (.sl m W []):=fun w FB v h=>by cases h;exact .nil _ _ _
theorem jg.agg {cs' cs:List PV} (hl:cs'.length=cs.length) (ho:∀c∈cs,c.one=true) (h:∀(i:Nat) c' c,cs'[i]?=some c'->cs[i]?=some c->jg c' c):jg (.agg cs') (.agg cs):=fun w FB v hv=>by
 cases hv with
 |agg _ vs hone hl' h'=>
  refine .agg cs vs ho (by rw[hl',hl]) fun i c v e1 e2=>?_
  have hi:i<cs'.length:=by rw[hl];exact(List.getElem?_eq_some_iff.1 e1).1
  exact h i cs'[i] c (List.getElem?_eq_getElem hi) e1 _ _ _ (h' i _ v (List.getElem?_eq_getElem hi) e2)
theorem cw.r4 {P:Program} {f:FuncId} {pvs pvs':List PV} {r:AV} {nb:List aC} (hc:au P f pvs r nb) (hl:pvs'.length=pvs.length) (h:∀(i:Nat) p' p,pvs'[i]?=some p'->pvs[i]?=some p->jg p' p):au P f pvs' r nb:=
 ⟨hc.fn,fun w F bM β vs ha=>hc.run w F bM β vs {ha with
  len:=by rw[ha.len,List.length_map,List.length_map,hl]
  rel:=fun i a v e1 e2=>by
   rw[List.getElem?_map]at e1
   cases e:pvs[i]? with
   |none=>rw[e]at e1;cases e1
   |some p=>
    rw[e]at e1;cases e1
    have hi:i<pvs'.length:=by rw[hl];exact(List.getElem?_eq_some_iff.1 e).1
    have e':pvs'[i]?=some pvs'[i]:=List.getElem?_eq_getElem hi
    have:=ha.rel i (.p pvs'[i]) v (by rw[List.getElem?_map,e'];rfl) e2
    exact .p (h i _ p e' e _ _ _ this.xe)
  ma:=fun a ha k hk=>by obtain⟨v,_,rfl⟩:=List.mem_map.1 ha;simp only[AV.aU]at hk}⟩
theorem Av:au Tryz.prog 237 [] (.p (aJ 0)) []:=by
 refine aa (wr:=a9) a6 mixed Tryz.func237 (by kernel_rfl) rfl (by kernel_rfl) (af rfl) (by simp) ?_
 refine aq.pure ?_
 rw[dF]
 exact f8 ⟨rfl,rfl,rfl⟩ (.p _ (.bool _)) (.p _ (.sl _ _ (fun e he=>by simp at he))) (iu rfl)
theorem CR:au Tryz.prog 267 [] (.p (aJ 1)) []:=by
 refine aa (wr:=a9) a6 mixed Tryz.func267 (by kernel_rfl) rfl (by kernel_rfl) (af rfl) (by simp) ?_
 refine aq.pure ?_
 rw[gv]
 exact f8 ⟨rfl,rfl,rfl⟩ (.p _ (.bool _)) (iu rfl) (iu rfl)
theorem lP (p q:Rat) (hq0:q≠0) {j k:Nat} (hp:Bz p j) (hq:Bz q k) (h:j+k<=137438953472):au Tryz.prog 266 [aJ p,aJ q] (.p (aJ (p/q))) []:=by
 refine aa (wr:=a9) a6 mixed Tryz.func266 (by kernel_rfl) rfl (by kernel_rfl) (af rfl) (by simp) ?_
 refine ab.bg (fY p q hq0 hp.sz hq.sz h) (fun _=>rfl) ?_
 exact aq.pure (.p _ (aS _ _ _))
theorem Ca (i k:Nat):au Tryz.prog 269 [cg i k] (.p (.bool (decide (i=k)))) []:=by
 refine aa (wr:=a9) a6 mixed Tryz.func269 (by kernel_rfl) rfl (by kernel_rfl) (af rfl) (by simp) ?_
 refine ag.sym ?_
 have:(((i:Int)==(k:Int))&&(((k:Int)==(i:Int))&&true))=decide (i=k):=by
  by_cases e:i=k
  ·subst e;simp
  ·rw[decide_eq_false e,beq_eq_false_iff_ne.2 (show(i:Int)≠k by omega)];rfl
 rw[this]
 exact aq.pure (.p _ (.bool _))
abbrev rB (n:Nat) (f:Nat->Nat->Rat):PV:=.mp false (dK n f (n*n))
theorem uW (m m':Bool) (n:Nat) (x y:Nat->Rat) {b c:Nat} (hx:∀i,i<n->Bz (x i) b) (hy:∀i,i<n->Bz (y i) c) (hb:b+c<=1048576) (hn:n<=1000):
  au Tryz.prog 264 [ah m (ar n x),ah m' (ar n y)] (.p (rB n fun i k=>x i-y k)) []:=by
 refine aa (wr:=a9) a6 mixed Tryz.func264 (by kernel_rfl) rfl (by kernel_rfl) (af rfl) (by simp) ?_
 refine SZ.mk (n:Int) (by simp[ar]) ?_
 refine aM.mk Nat (fun i=>([(1,.p (ah m' (ar n y))),(5,.map 0),(11,.p (ah m (ar n x))),(12,.p (.int .i64 n)),(13,.p (.int .i64 i))],[.map (dK n (fun i k=>x i-y k) (i*n))]))
  (fun i=>i<=n) (fun i=>n-i) 0 [0] (Nat.zero_le _) ⟨rfl,by simp,rfl,rfl,rfl,⟨rfl,rfl,rfl,rfl,rfl,trivial⟩,⟨by rw[Nat.zero_mul];rfl,trivial⟩⟩ ?_
 intro i hi
 have hi:i<=n:=hi
 by_cases hin:i<n
 ·refine ag.yes (decide_eq_true (by omega)) ?_
  refine aG.rf i rfl hin ?_
  refine SZ.mk (n:Int) (by simp[ar]) ?_
  refine aM.mk Nat (fun k=>([(1,.p (ah m' (ar n y))),(5,.map 0),(6,.p (.int .i64 i)),(7,.aF 1 0),(11,.p (ah m (ar n x))),(12,.p (.int .i64 n)),(13,.p (.int .i64 i)),(18,.p (ah m' (ar n y))),(19,.p (.int .i64 n)),(20,.p (.int .i64 k))],[.map (dK n (fun i k=>x i-y k) (i*n+k)),.box 38 (lW (x i))]))
   (fun k=>k<=n) (fun k=>n-k) 0 [0,1] (Nat.zero_le _) ⟨rfl,by simp,rfl,rfl,rfl,⟨rfl,rfl,rfl,rfl,rfl,rfl,rfl,rfl,rfl,rfl,trivial⟩,⟨rfl,rfl,trivial⟩⟩ ?_
  intro k hk
  have hk:k<=n:=hk
  by_cases hkn:k<n
  ·refine ag.yes (decide_eq_true (by omega)) ?_
   refine aG.rf k rfl hkn ?_
   refine ab.pure (cn _ _ (hx i hin).sz (hy k hkn).sz (by omega)) ?_
   refine a5.kB (fun _ _=>rfl)<|dc.kB hkn rfl ?_
   refine ae.ao ((k+1:Nat):Int) (by omega) (by omega) ?_
   exact⟨k+1,[0,1],hkn,by show n-(k+1)<n-k;omega,⟨rfl,by simp,rfl,rfl,rfl,⟨rfl,rfl,rfl,rfl,rfl,rfl,rfl,rfl,rfl,rfl,trivial⟩,⟨rfl,rfl,trivial⟩⟩⟩
  ·refine ag.no (decide_eq_false (by omega)) ?_
   obtain rfl:k=n:=by omega
   refine ae.ao ((i+1:Nat):Int) (by omega) (by omega) ?_
   exact⟨i+1,[0],hin,by show k-(i+1)<k-i;omega,⟨rfl,by simp,rfl,rfl,rfl,⟨rfl,rfl,rfl,rfl,rfl,trivial⟩,⟨congrArg (fun q=>aC.map (dK k (fun i k=>x i-y k) q)) (Nat.succ_mul i k),trivial⟩⟩⟩
 ·refine ag.no (decide_eq_false (by omega)) ?_
  obtain rfl:i=n:=by omega
  exact aq.pure (.vG (es:=dK i (fun a k=>x a-y k) (i*i)) rfl (by simp) (List.Perm.refl _) iz)
def Eo (n:Nat) (f:Nat->Nat->Rat):Prop:=∃i k,i<n/\k<n/\i≠k/\f i k=0
theorem yo {a c a' c':Nat} {u v:PV} (h:(cg a c,u)=(cg a' c',v)):a=a'/\c=c':=by
 simp only[Prod.mk.injEq,PV.agg.injEq,List.cons.injEq,PV.int.injEq,and_true,true_and]at h
 omega
theorem xE (n:Nat) (f:Nat->Nat->Rat) {b:Nat} (hf:∀i k,i<n->k<n->Bz (f i k) b) (hb:b<=1048576) (hn:n<=1000) (r:Bool) (hr:r=true↔Eo n f):au Tryz.prog 265 [rB n f] (.p (.bool r)) []:=by
 refine aa (wr:=a9) a6 mixed Tryz.func265 (by kernel_rfl) rfl (by kernel_rfl) (af rfl) (by simp) ?_
 intro es0 hp
 have hent:∀(i:Nat) (e:PV×PV),es0[i]?=some e->∃a c,a<n/\c<n/\e=(cg a c,aJ (f a c)):=fun i e he=>by
  obtain⟨t,ht,rfl⟩:=k6 (hp.mem_iff.1 (List.mem_of_getElem? he))
  have n0:0<n:=by rcases Nat.eq_zero_or_pos n with h|h;rw[h]at ht;simp at ht;exact h
  exact⟨t/n,t%n,Nat.div_lt_of_lt_mul ht,Nat.mod_lt _ n0,rfl⟩
 have hlen:es0.length=n*n:=by rw[hp.length_eq];simp
 refine aM.mk (List Nat) (fun s=>([(6,.aF 0 0)],[.iter false es0 s]))
  (fun s=>∀j∈s,∀a c,es0[j]?=some (cg a c,aJ (f a c))->a=c\/f a c≠0) (fun s=>g9 s (n*n)) [] [0] (fun j hj=>by simp at hj) ⟨rfl,by simp,rfl,rfl,rfl,⟨rfl,trivial⟩,⟨rfl,trivial⟩⟩ ?_
 intro s hs
 refine Bq.mk (fun j e hj hjs=>?_) (fun hend=>?_)
 ·obtain⟨a,c,ha,hc,rfl⟩:=hent j e hj
  have hz:=hf a c ha hc
  have go:(a=c\/f a c≠0)->∀i∈s++[j],∀a c,es0[i]?=some (cg a c,aJ (f a c))->a=c\/f a c≠0:=fun h i hi a' c' he=>by
   rcases List.mem_append.1 hi with hi|hi
   ·exact hs i hi a' c' he
   ·rw[List.mem_singleton.1 hi,hj]at he
    obtain⟨rfl,rfl⟩:=yo (Option.some.inj he)
    exact h
  have hlt:g9 (s++[j]) (n*n)<g9 s (n*n):=yP hjs (by rw[<-hlen];exact(List.getElem?_eq_some_iff.1 hj).1)
  refine zW.mk j _ (by simp) hj ?_
  have ht:=Ca a c
  by_cases e1:a=c
  ·rw[decide_eq_true e1]at ht
   refine ab.pure (ht) ?_
   refine ag.no (rfl) ?_
   exact⟨s++[j],[0],go (.inl e1),hlt,⟨rfl,by simp,rfl,rfl,rfl,⟨rfl,trivial⟩,⟨rfl,trivial⟩⟩⟩
  ·rw[decide_eq_false e1]at ht
   refine ab.pure (ht) ?_
   refine ag.yes (rfl) ?_
   refine SZ.mk (aL (f a c).num.natAbs:Int) (by simp) ?_
   by_cases e2:f a c=0
   ·refine ag.yes (kV (by rw[e2,show(0:Rat).num.natAbs=0 from rfl,aR.2 rfl];rfl)) ?_
    obtain rfl:r=true:=hr.2 ⟨a,c,ha,hc,e1,e2⟩
    exact aq.pure (.tf _)
   ·have:aL (f a c).num.natAbs≠0:=fun h=>e2 (Rat.num_eq_zero.1 (by have:=aR.1 h;omega))
    refine ag.no (kL (by omega)) ?_
    exact⟨s++[j],[0],go (.inr e2),hlt,⟨rfl,by simp,rfl,rfl,rfl,⟨rfl,trivial⟩,⟨rfl,trivial⟩⟩⟩
 ·obtain rfl:r=false:=by
   cases r with
   |false=>rfl
   |true=>
    obtain⟨a,c,ha,hc,e1,e2⟩:=hr.1 rfl
    have hm:(cg a c,aJ (f a c))∈es0:=hp.mem_iff.2 (List.mem_of_getElem? (i:=a*n+c) (by rw[cU (Bx ha hc),nO hc,oH hc]))
    obtain⟨i,hi⟩:=List.getElem?_of_mem hm
    rcases hs i (hend i (List.getElem?_eq_some_iff.1 hi).1) a c hi with h|h
    ·exact absurd h e1
    ·exact absurd e2 h
  exact aq.pure (.tf _)
theorem tC {n:Nat} {x:Nat->Rat}:Eo n (fun i k=>x i-x k)↔¬kR x n:=by
 constructor
 ·rintro⟨i,k,hi,hk,e,h⟩ hI
  exact e (hI i k hi hk (by grind))
 ·intro h
  apply Classical.byContradiction
  intro hc
  refine h fun i k hi hk e=>?_
  apply Classical.byContradiction
  intro hne
  exact hc ⟨i,k,hi,hk,hne,by show x i-x k=0;rw[e];grind⟩
noncomputable def iq (x:Nat->Rat) (n:Nat):Bool:= @decide (¬kR x n) (Classical.propDecidable _)
theorem ja {x:Nat->Rat} {n:Nat}:iq x n=true↔¬kR x n:=by unfold iq;simp
theorem qf {x:Nat->Rat} {n:Nat} (h:¬kR x n):iq x n=true:=ja.2 h
theorem mg {x:Nat->Rat} {n:Nat} (h:kR x n):iq x n=false:=by
 cases e:iq x n with
 |false=>rfl
 |true=>exact absurd h (ja.1 e)
abbrev ks (n:Nat) (a b:Nat->Rat) (tA tB:Bool):List PV:=[.int .i64 (n:Int),rB n fun i k=>a i-a k,rB n fun i k=>b i-b k,rB n fun i k=>a i-b k,.bool tA,.bool tB]
abbrev r8 (n:Nat) (a b:Nat->Rat) (tA tB:Bool):List AV:=[.p (.int .i64 (n:Int)),.p (rB n fun i k=>a i-a k),.p (rB n fun i k=>b i-b k),.p (rB n fun i k=>a i-b k),.p (.bool tA),.p (.bool tB)]
noncomputable abbrev kP (g:GV):PV:=.agg (ks g.n g.A g.B (iq g.A g.n) (iq g.B g.n))
theorem zK {n:Nat} {f:Nat->Nat->Rat}:bZ (rB n f):=.mp _ (fun e he=>(iz e he).1) fun e he=>(iz e he).2
theorem vD {n:Nat} {a b:Nat->Rat} {tA tB:Bool}:bZ (.agg (ks n a b tA tB)):=.agg _ fun c hc=>by
 simp only[ks,List.mem_cons,List.not_mem_nil,or_false]at hc
 rcases hc with rfl|rfl|rfl|rfl|rfl|rfl<;>first|exact .int _ _|exact .bool _|exact zK
structure fy (g:GV) (b c:Nat):Prop extends Wf g b c where
 k5:g.k=5
theorem fy.la {g:GV} {b c:Nat} (h:fy g b c):g.la=g.n:=h.toWf.Cx (by have:=h.k5;omega)
theorem fy.lb {g:GV} {b c:Nat} (h:fy g b c):g.lb=g.n:=h.toWf.GI (by have:=h.k5;omega)
theorem fy.za {g:GV} {b c:Nat} (h:fy g b c) {i:Nat} (hi:i<g.n):Bz (g.A i) 100:=(h.bA i (by rw[h.la];exact hi)).mono (Nat.le_trans h.bc h.c4)
theorem fy.zb {g:GV} {b c:Nat} (h:fy g b c) {i:Nat} (hi:i<g.n):Bz (g.B i) 100:=(h.bB i (by rw[h.lb];exact hi)).mono h.c4
theorem fy.GL {g:GV} {b c:Nat} (h:fy g b c) {i k:Nat} (hi:i<g.n) (hk:k<g.n):Bz (g.A i-g.A k) 201:=(h.za hi).sub (h.za hk)
theorem fy.FO {g:GV} {b c:Nat} (h:fy g b c) {i k:Nat} (hi:i<g.n) (hk:k<g.n):Bz (g.B i-g.B k) 201:=(h.zb hi).sub (h.zb hk)
theorem fy.D6 {g:GV} {b c:Nat} (h:fy g b c) {i k:Nat} (hi:i<g.n) (hk:k<g.n):Bz (g.A i-g.B k) 201:=(h.za hi).sub (h.zb hk)
theorem fy.Hj {g:GV} {b c:Nat} (h:fy g b c) {i k:Nat} (hi:i<g.n) (hk:k<g.n):g.A i≠g.B k:=h.ne i k (by rw[h.la];exact hi) (by rw[h.lb];exact hk)
theorem sL (m:Nat->Bool) (g:GV) {b c:Nat} (h:fy g b c):au Tryz.prog 256 [cG m g] (.bq [.p (kP g),.p (.int .i64 0)]) []:=by
 have h6:=h.n6
 have hk:=h.k5
 have eA:ar g.la g.A=ar g.n g.A:=by rw[h.la]
 have eB:ar g.lb g.B=ar g.n g.B:=by rw[h.lb]
 have c1:=uW (m 0) (m 0) g.n g.A g.A (fun i hi=>h.za hi) (fun i hi=>h.za hi) (by decide) (by omega)
 have c2:=uW (m 1) (m 1) g.n g.B g.B (fun i hi=>h.zb hi) (fun i hi=>h.zb hi) (by decide) (by omega)
 have c3:=uW (m 0) (m 1) g.n g.A g.B (fun i hi=>h.za hi) (fun i hi=>h.zb hi) (by decide) (by omega)
 rw[<-eA]at c1 c3
 rw[<-eB]at c2 c3
 have s1:=xE g.n (fun i k=>g.A i-g.A k) (b:=201) (fun i k hi hk=>h.GL hi hk) (by omega) (by omega) (iq g.A g.n) (ja.trans tC.symm)
 have s2:=xE g.n (fun i k=>g.B i-g.B k) (b:=201) (fun i k hi hk=>h.FO hi hk) (by omega) (by omega) (iq g.B g.n) (ja.trans tC.symm)
 refine aa (wr:=a9) a6 mixed Tryz.func256 (by kernel_rfl) rfl (by kernel_rfl) (af rfl) (by simp) ?_
 refine ag.no (f0 (by omega)) ?_
 refine ab.pure (fr m g h.toWf) ?_
 refine ag.no (rfl) ?_
 refine aO.cM (by kernel_rfl) ?_
 repeat refine aj.mk _ _ (And.intro rfl rfl) rfl ?_
 refine aj.mk _ _ (ab.pure (c1) (And.intro rfl rfl)) rfl ?_
 repeat refine aj.mk _ _ (And.intro rfl rfl) rfl ?_
 refine aj.mk _ _ (ab.pure (c2) (And.intro rfl rfl)) rfl ?_
 repeat refine aj.mk _ _ (And.intro rfl rfl) rfl ?_
 refine aj.mk _ _ (ab.pure (c3) (And.intro rfl rfl)) rfl ?_
 repeat refine aj.mk _ _ (And.intro rfl rfl) rfl ?_
 refine br.mk (by kernel_rfl) ?_
 refine aO.cM (by kernel_rfl) ?_
 repeat refine aj.mk _ _ (And.intro rfl rfl) rfl ?_
 refine aj.mk _ _ (ab.pure (s1) (And.intro rfl rfl)) rfl ?_
 repeat refine aj.mk _ _ (And.intro rfl rfl) rfl ?_
 refine aj.mk _ _ (ab.pure (s2) (And.intro rfl rfl)) rfl ?_
 repeat refine aj.mk _ _ (And.intro rfl rfl) rfl ?_
 refine br.mk (by kernel_rfl) ?_
 exact aq.pure (.bq rfl fun i c d e1 e2=>by
  match i,e1,e2 with
  |0,e1,e2=>cases e1;cases e2;exact .p _ vD
  |1,e1,e2=>cases e1;cases e2;exact .p _ (.int _ _))
theorem rP {k n r:Nat} {ns:List Int} (k1:1<=k) (k7:k<=7) (n1:1<=n) (n6:n<=6) (r1:k=6\/k=7->1<=r) (r2:r<=2) (r0:k<=5->r=0):Wf (uf k n r (bl ns)) 5 13:=by
 have hf:∀i,-20<=bl ns i/\bl ns i<=20:=fun i=>lK _
 have hc:=bU (k:=k) (r:=r) n1 (show n<=8 by omega) (show r<=3 by omega)
 exact{
  k1:=k1,k7:=k7,n1:=n1,n6:=n6,r2:=r2,r1:=r1,r0:=r0
  bA:=fun i _=>gj ns i
  bB:=fun i hi=>rL hf (by have hi:i<aH k n:=hi;omega) (hf _) (gj ns _) _
  bG:=fun i _=>gj ns _
  bH:=fun i _=>gj ns _
  ne:=fun i j hi hj=>CH hf (hf _) (show i<aw k n from hi)
  bc:=by omega
  c4:=by omega}
theorem Ck {k:Nat} (n:Int):(k=6\/k=7->1<=tE k n)/\tE k n<=2/\(k<=5->tE k n=0):=by
 unfold tE
 refine⟨fun h=>by rw[if_pos h];omega,by split<;>omega,fun h=>if_neg (by omega)⟩
theorem oM (n most:Int) (h1:1<=most):1<=iw n most/\(iw n most:Int)<=most:=by
 have:=Int.emod_nonneg n (show most≠0 by omega)
 have:=Int.emod_lt_of_pos n (show(0:Int)<most by omega)
 unfold iw
 omega
theorem AT (kind:Int):1<=wI kind/\wI kind<=7:=by unfold wI;omega
theorem wH (kind n most:Int) (ns:List Int) (h1:1<=most) (h6:most<=6):Wf (uf (wI kind) (iw n most) (tE (wI kind) n) (bl ns)) 5 13:=by
 obtain⟨r1,r2,r0⟩:=Ck (k:=wI kind) n
 have hn:=oM n most h1
 exact rP (AT kind).1 (AT kind).2 hn.1 (by omega) r1 r2 r0
theorem EW {g:GV} {ns:List Int} {b c:Nat} (h:Wf g b c) (hk:g.k=5\/g.k=7):Wf (xf g ns) b c:=by
 unfold xf
 split
 ·rename_i ht
  have hla:g.la=g.n:=h.Cx (by omega)
  have n1:=h.n1
  have ha:∀i,i<g.n->∃j,j<g.n/\bz g.A (g.n-1) (g.A 0) i=g.A j:=fun i hi=>by
   by_cases e:i=g.n-1
   ·exact⟨0,by omega,by rw[e,aA]⟩
   ·exact⟨i,hi,aD _ _ e⟩
  exact{h with
   bA:=fun i hi=>by
    obtain⟨j,hj,e⟩:=ha i (by rw[<-hla];exact hi)
    show Bz (bz g.A (g.n-1) (g.A 0) i) b
    rw[e];exact h.bA j (by rw[hla];exact hj)
   ne:=fun i k hi hk=>by
    obtain⟨j,hj,e⟩:=ha i (by rw[<-hla];exact hi)
    show bz g.A (g.n-1) (g.A 0) i≠g.B k
    rw[e];exact h.ne j k (by rw[hla];exact hj) hk}
 ·exact h
theorem Er {g:GV} {ns:List Int}:(xf g ns).n=g.n:=by unfold xf;split<;>rfl
theorem jg.gen {m:Nat->Bool} {g:GV} {k n r:Int} {a b c d:PV} (hk:k=g.k) (hn:n=g.n) (hr:r=g.r) (ha:jg a (ah (m 0) (ar g.la g.A))) (hb:jg b (ah (m 1) (ar g.lb g.B))) (hc:jg c (ah (m 2) (ar g.lh g.G))) (hd:jg d (ah (m 3) (ar g.lh g.H))):
  jg (.agg [.int .i64 k,.int .i64 n,.int .i64 r,a,b,c,d]) (cG m g):=by
 subst hk;subst hn;subst hr
 refine jg.agg rfl (fun c hc=>?_) fun i c' c e1 e2=>?_
 ·simp only[oc,List.mem_cons,List.not_mem_nil,or_false]at hc
  rcases hc with rfl|rfl|rfl|rfl|rfl|rfl|rfl<;>rfl
 ·match i,e1,e2 with
  |0,e1,e2=>cases e1;cases e2;exact .refl _
  |1,e1,e2=>cases e1;cases e2;exact .refl _
  |2,e1,e2=>cases e1;cases e2;exact .refl _
  |3,e1,e2=>cases e1;cases e2;exact ha
  |4,e1,e2=>cases e1;cases e2;exact hb
  |5,e1,e2=>cases e1;cases e2;exact hc
  |6,e1,e2=>cases e1;cases e2;exact hd
theorem gR (m:Nat->Bool) (g:GV) {b c:Nat} (h:Wf g b c):au Tryz.prog 22 [cG m g] (.vec 0 1 0 g.n) [.rows 24 (cZ 1 g.n g.n id),.bt 38 3 (cY g.n g.n (aW g))]:=by
 have h6:=h.n6
 have n1:=h.n1
 refine aa (wr:=a9) a6 mixed Tryz.func22 (by kernel_rfl) rfl (by kernel_rfl) (af rfl) (by simp) ?_
 refine ab.pure (fr m g h) ?_
 refine ag.no (rfl) ?_
 refine SZ.mk (g.n:Int) rfl ?_
 refine bT.mk (by simp) ?_
 refine bV.mk g.n rfl (by simp;omega) (by omega) ?_
 refine FG.rows ?_
 refine SZ.mk (g.n:Int) rfl ?_
 refine aM.Cf Nat (fun i=>([(1,.aF 0 0),(3,.vec 1 1 0 g.n),(13,.p (.int .i64 g.n)),(14,.p (.int .i64 i))],[.box 26 (nN m g),.rows 24 (half 2 g.n g.n i),.bt 38 3 (cY i g.n (aW g))]))
  (fun i=>i<=g.n) (fun i=>g.n-i) 0 [0,1,2] _ _ (.bt 38 3 (.done _ _)) (Nat.zero_le _) ⟨rfl,by simp,rfl,rfl,rfl,⟨rfl,rfl,rfl,rfl,trivial⟩,⟨rfl,congrArg _ iF,rfl,ez fun i hi=>absurd hi (Nat.not_lt_zero _),trivial⟩⟩ ?_
 intro i hi
 have hi:i<=g.n:=hi
 by_cases hin:i<g.n
 ·refine ag.yes (decide_eq_true (by omega)) ?_
  refine SZ.mk (g.n:Int) rfl ?_
  refine bT.mk (by simp) ?_
  refine bV.rat g.n rfl (by omega) ?_
  refine aI.mk i rfl hin ?_
  refine bT.mk (by simp;omega) ?_
  refine pT.mk (mq 2 g.n g.n i 3) ou ?_
  refine aI.mk i rfl hin ?_
  refine cq.mk i _ rfl (iv hin) ?_
  refine SZ.mk (g.n:Int) rfl ?_
  refine aM.mk (Nat×(Nat->Rat)) (fun(j,F)=>([(1,.aF 0 0),(3,.vec 1 1 0 g.n),(4,.p (.int .i64 i)),(13,.p (.int .i64 g.n)),(14,.p (.int .i64 i)),(27,.p (.int .i64 g.n)),(28,.p (.int .i64 j))],[.box 26 (nN m g),.rows 24 (mq 2 g.n g.n i 3),.bt 38 3 (cY i g.n (aW g)),.vec 38 3 (fl g.n fun k=>if k<j then aJ (aW g i k)else cu)]))
   (fun(j,F)=>j<=g.n) (fun x=>g.n-x.1) (0,aW g i) [0,1,2,3] (Nat.zero_le _) ⟨rfl,by simp,rfl,rfl,rfl,⟨rfl,rfl,rfl,rfl,rfl,rfl,rfl,trivial⟩,⟨rfl,congrArg _ (iA 2 3 rfl (by decide) rfl (by decide)),rfl,congrArg _ ((aX fun k hk=>if_neg (by omega)).trans (bE g.n cu).symm),jM (fun i hi=>by simpa[aN]using hi) (fun e=>by cases e),trivial⟩⟩ ?_
  intro⟨j,F⟩ hj
  have hj:j<=g.n:=hj
  by_cases hjn:j<g.n
  ·refine ag.yes (decide_eq_true (by omega)) ?_
   refine aO.cM (by kernel_rfl) ?_
   repeat refine aj.mk _ _ (And.intro rfl rfl) rfl ?_
   refine aj.mk _ _ (aI.mk i rfl hin (And.intro rfl rfl)) rfl ?_
   refine aj.mk _ _ (cq.mk i _ rfl (iv hin) (And.intro rfl rfl)) rfl ?_
   repeat refine aj.mk _ _ (And.intro rfl rfl) rfl ?_
   refine aj.mk _ _ (ab.pure (qE m g h i j hin hjn) (And.intro rfl rfl)) rfl ?_
   refine aj.mk _ _ (aI.mk j rfl hjn (And.intro rfl rfl)) rfl ?_
   refine aj.mk _ _ (bT.mk (by simp;omega)<|cH.mk _ (du hjn) (And.intro rfl rfl)) rfl ?_
   repeat refine aj.mk _ _ (And.intro rfl rfl) rfl ?_
   refine br.mk (by kernel_rfl) ?_
   refine ae.ao ((j+1:Nat):Int) (by omega) (by omega) ?_
   exact⟨(j+1,F),[0,1,2,3],hjn,by show g.n-(j+1)<g.n-j;omega,⟨rfl,by simp,rfl,rfl,rfl,⟨rfl,rfl,rfl,rfl,rfl,rfl,rfl,trivial⟩,⟨rfl,congrArg _ (iA 2 3 rfl (by decide) rfl (by decide)),rfl,rfl,jM (fun i hi=>by simpa[aN]using hi) (fun e=>by cases e),trivial⟩⟩⟩
  ·refine ag.no (decide_eq_false (by omega)) ?_
   obtain rfl:j=g.n:=by omega
   refine ae.ao ((i+1:Nat):Int) (by omega) (by omega) ?_
   exact⟨i+1,[0,1,4002],hin,by show g.n-(i+1)<g.n-i;omega,⟨rfl,by simp,rfl,rfl,rfl,⟨rfl,rfl,rfl,rfl,trivial⟩,⟨rfl,congrArg _ (fM rfl (by decide) (by simp[aN])),⟨_,_,_,_,rfl,rfl,congrArg _ (dO.trans (congrArg (fun r=>cY i g.n (aW g)++[some r]) fN))⟩,ez fun i hi=>by simpa[aN]using hi,trivial⟩⟩⟩
 ·refine ag.no (decide_eq_false (by omega)) ?_
  obtain rfl:i=g.n:=by omega
  refine aq.mk [1,2] rfl (by decide) rfl (Nat.zero_le _) (fun h hl=>by rw[b6]at hl;exact hl.elim) (fun h hl=>absurd (b6 h) hl) (fun a h B e1 e2=>?_) (.vec rfl)
  match a,e1,e2 with
  |0,e1,e2=>
   cases e1;cases e2
   show g7 _ _ (aC.rows _ (half 2 g.n g.n g.n)) _
   rw[iE]
   refine .rows (fun d hd=>by obtain⟨i,_,rfl⟩:=dq hd;rfl) (by simp) fun b c d e1 e2=>?_
   obtain⟨hb,rfl⟩:=bX.1 e1
   obtain⟨_,rfl⟩:=bX.1 e2
   exact .Ba rfl
  |1,e1,e2=>
   cases e1;cases e2
   exact .bt fun k es hk=>by
    obtain⟨_,h⟩:=bX.1 hk
    cases h;exact aB _
theorem ab.GD {P:Program} {wr:Bool} {f:FuncId} {L:Hd->aC} {base n w N:Nat} {K:AV->List (Hd×aC)->Prop} {pvs:List PV} {T T':TypeId} {G:Nat->Nat->Rat} (hc:au P f pvs (.vec 0 1 0 n) [.rows T (cZ 1 w n id),.bt T' 3 (cY N w G)])
  (hk:K (.vec base 1 0 n) [(.t base,.rows T (cZ (base+1) w n id)),(.t (base+1),.bt T' 3 (cY N w G))]) {raw:List AV}:ab P wr f raw (pvs.map .p) L base K:=by
 refine ab.news hc (fun B hB=>by simp only[List.mem_cons,List.not_mem_nil,or_false]at hB;rcases hB with rfl|rfl<;>exact fun e=>by(cases e)) ?_
 have e:AV.cz (bn [] base) (cZ 1 w n id)=cZ (base+1) w n id:=by
  rw[eu];exact aX fun i _=>by simp only[AV.cE,bn,dJ];rfl
 show K (.vec (.t (base+(0-0))) 1 0 n) [(.t (base+(0-0)),.rows T (AV.cz _ _)),(.t (base+(1-0)),_)]
 rw[e];exact hk
theorem cw.Eu {P:Program} {f:FuncId} {pvs:List PV} {r r':AV} {nb:List aC} (hc:au P f pvs r' nb) (h:∀w FB β v,VR w FB β r' v->VR w FB β r v) (hm:∀k,¬r.aU k):au P f pvs r nb:=
 ⟨hc.fn,fun w F bM β vs ha=>(hc.run w F bM β vs ha).mono fun e w' ⟨v,F',β',h1,h2⟩=>⟨v,F',β',h1,{h2 with rel:=h _ _ _ _ h2.rel,mr:=fun k hk=>(hm k hk).elim}⟩⟩
theorem VR.D2 {p p':PV} {c:PV} (h:jg p' p):∀w FB β v,VR w FB β (.bq [.p p',.p c]) v->VR w FB β (.bq [.p p,.p c]) v:=fun w FB β v hv=>by
 cases hv with|bq _ vs hl hr=>
 refine .bq _ vs hl fun i d x e1 e2=>?_
 match i,e1,e2 with
 |0,e1,e2=>cases e1;exact .p (h _ _ _ (hr 0 _ _ rfl e2).xe)
 |1,e1,e2=>cases e1;exact hr 1 _ _ rfl e2
def An (n:Nat) (A:Nat->Nat->Rat) (D:Nat):Prop:=∀k,k<=n->∀i j,i<n->j<n->Bz ((gk n A k).B i j) D
theorem An.P {n:Nat} {A:Nat->Nat->Rat} {D:Nat} (h:An n A D) {k:Nat} (hk:k<n):∀i j,i<n->j<n->Bz (kS n A k i j) D:=fun i j hi hj=>by
 obtain⟨p1,p2,_⟩:=dQ (B:=(gk n A k).B) hk
 exact h k (by omega) _ j (dH p2 hk hi) hj
theorem Ey {n b:Nat} {A:Nat->Nat->Rat} (hA:∀i j,i<n->j<n->Bz (A i j) b):∀k,k<=n->∀i j,i<n->j<n->Bz ((gk n A k).B i j) (bb b k):=by
 intro k
 induction k with
 |zero=>intro _ i j hi hj;exact hA i j hi hj
 |succ k ih=>
  intro hk i j hi hj
  have ih:=ih (by omega)
  obtain⟨p1,p2,_⟩:=dQ (B:=(gk n A k).B) (n:=n) (k:=k) (by omega)
  have zP:∀i j,i<n->j<n->Bz (kS n A k i j) (bb b k):=fun i j hi hj=>ih _ j (dH p2 (by omega) hi) hj
  by_cases c:k<i
  ·rw[Gm c]
   exact((zP i j hi hj).sub (((zP i k hi (by omega)).div (zP k k (by omega) (by omega))).mul (zP k j (by omega) hj))).mono (by simp only[bb];omega)
  ·rw[wq (by omega)];exact(zP i j hi hj).mono (by simp only[bb];omega)
theorem An.of {n b:Nat} {A:Nat->Nat->Rat} (n1:1<=n) (hA:∀i j,i<n->j<n->Bz (A i j) b):An n A (bb b (n-1)):=fun k hk i j hi hj=>by
 by_cases e:k=n
 ·obtain⟨d,rfl⟩:∃d,n=d+1:=⟨n-1,by omega⟩
  obtain⟨p1,p2,_⟩:=dQ (B:=(gk (d+1) A d).B) (n:=d+1) (k:=d) (by omega)
  rw[e,wq (by omega)]
  exact Ey hA d (by omega) _ j (dH p2 (by omega) hi) hj
 ·exact(Ey hA k hk i j hi hj).mono (nD (by omega))
theorem jt {n D:Nat} {A:Nat->Nat->Rat} (h:An n A D) (hD:1<=D):∀k,k<=n->Bz (fu n A k) D:=by
 intro k
 induction k with
 |zero=>intro _;exact vS (bS.mono hD) n fun i j _ h2 h3=>h 0 (Nat.zero_le _) i j (by omega) h3
 |succ k ih=>intro hk;exact vS (ih (by omega)) _ fun i j _ h2 h3=>h k (by omega) i j (by omega) h3
theorem Em {n D:Nat} {A:Nat->Nat->Rat} (h:An n A D) (hD:1<=D):∀k,k<=n->∀i j,i<n->Bz ((gk n A k).M i j) (D+D):=by
 intro k
 induction k with
 |zero=>intro _ i j _;exact bS.mono (by omega)
 |succ k ih=>
  intro hk i j hi
  obtain⟨p1,p2,_⟩:=dQ (B:=(gk n A k).B) (n:=n) (k:=k) (by omega)
  have sw:Bz (dU (gk n A k).M (lz (gk n A k).B n k) k i j) (D+D):=ih (by omega) _ j (dH p2 (by omega) hi)
  rw[fK]
  show Bz (pB _ _ k i j) _
  unfold pB
  split
  ·split
   ·exact(h.P (by omega) i k hi (by omega)).div (h.P (by omega) k k (by omega) (by omega))
   ·split
    ·exact cR.mono (by omega)
    ·exact sw
  ·exact sw
def FA (n:Nat) (A:Nat->Nat->Rat):Rat:=fu n A n/fu n A 0
abbrev zo:PV:=.agg [.sl false 1 [],.sl false 1 [],.sl false 1 [],.bool false,.sl false 1 [],.sl false 1 []]
abbrev tm (n:Nat) (A:Nat->Nat->Rat):List PV:=[.sl false 1 (cW n (gO n A)),cm false false n n (gL n A),cm false false n n (gU n A),.bool (decide ((FA n A).num<0)),bC (FA n A).num.natAbs,bC (FA n A).den]
abbrev D0 (n:Nat) (A:Nat->Nat->Rat):PV:=.agg (tm n A)
theorem wL:jg (.agg [.raw (.slice none 0 0),.raw (.slice none 0 0),.raw (.slice none 0 0),.bool false,.sl false 1 [],.sl false 1 []]) zo:=by
 refine jg.agg rfl (fun c hc=>by simp only[List.mem_cons,List.not_mem_nil,or_false]at hc;rcases hc with rfl|rfl|rfl|rfl|rfl|rfl<;>rfl) fun i c' c e1 e2=>?_
 match i,e1,e2 with
 |0,e1,e2=>cases e1;cases e2;exact .nil _ _
 |1,e1,e2=>cases e1;cases e2;exact .nil _ _
 |2,e1,e2=>cases e1;cases e2;exact .nil _ _
 |3,e1,e2=>cases e1;cases e2;exact .refl _
 |4,e1,e2=>cases e1;cases e2;exact .refl _
 |5,e1,e2=>cases e1;cases e2;exact .refl _
theorem kH:bZ (.agg [.raw (.slice none 0 0),.raw (.slice none 0 0),.raw (.slice none 0 0),.bool false,.sl false 1 [],.sl false 1 []]):=.agg _ fun c hc=>by
 simp only[List.mem_cons,List.not_mem_nil,or_false]at hc
 rcases hc with rfl|rfl|rfl|rfl|rfl|rfl<;>first|exact .raw _|exact .bool _|exact .sl _ _ (fun e he=>by simp at he)
theorem A7 {p c:PV} (k:Hd):¬(AV.bq [.p p,.p c]).aU k:=fun h=>by simp only[AV.aU,AV.bo,or_false]at h
theorem ta (m:Nat->Bool) (g:GV) (hk:g.k≠5) (hk':g.k≠7):au Tryz.prog 156 [cG m g] (.bq [.p zo,.p (.int .i64 2)]) []:=by
 refine cw.Eu ?_ (VR.D2 wL) A7
 refine aa (wr:=a9) a6 mixed Tryz.func156 (by kernel_rfl) rfl (by kernel_rfl) (af rfl) (by simp) ?_
 refine ag.yes (vK (by omega)) ?_
 refine ag.yes (vK (by omega)) ?_
 refine aq.pure (.bq rfl fun i c d e1 e2=>?_)
 match i,e1,e2 with
 |0,e1,e2=>cases e1;cases e2;exact .p _ kH
 |1,e1,e2=>cases e1;cases e2;exact .p _ (.int _ _)
theorem lq (m:Bool) (a:Nat) (ha:aL a<=549755813888):au Tryz.prog 176 [bK m a] (.p (.int .i64 (bitLen a))) []:=by
 refine aa (wr:=a9) a6 mixed Tryz.func176 (by kernel_rfl) rfl (by kernel_rfl) (af rfl) (by simp) ?_
 refine SZ.mk (aL a) (by simp) ?_
 by_cases h0:a=0
 ·have:=aR.2 h0
  refine ag.yes (kV (by omega)) ?_
  rw[ew.2 h0]
  exact aq.pure (.p _ (.int _ _))
 ·have hn:=mt aR.1 h0
  refine ag.no (kL (by omega)) ?_
  obtain⟨L,hL⟩:∃L,aL a=L+1:=⟨aL a-1,by omega⟩
  have hL':(nl a).length=L+1:=hL
  have l1:(nl a).getD L 0<4294967296:=bD (bR a) L
  have e1:a/2^(32*L)=(nl a).getD L 0:=by
   rw[bO,Nat.pow_mul]
   have:=cj a
   rw[hL,Nat.pow_succ,Nat.mul_comm]at this
   have h2:a/4294967296^L<4294967296:=(Nat.div_lt_iff_lt_mul (bP L)).2 this
   exact(Nat.mod_eq_of_lt h2).symm
  have hz:=kY h0
  rw[hL',Nat.add_sub_cancel]at hz
  have hb:bitLen a=32*L+bitLen ((nl a).getD L 0):=by rw[<-e1]at hz⊢;exact bitLen_shift a (32*L) hz
  have hb32:bitLen ((nl a).getD L 0)<=32:=cK l1
  refine SZ.mk ((L+1:Nat):Int) (by simp[hL']) ?_
  refine ae.ao (L:Int) (by omega) (by omega) ?_
  refine ae.ao ((32*L:Nat):Int) (by omega) (by omega) ?_
  refine SZ.mk ((L+1:Nat):Int) (by simp[hL']) ?_
  refine ae.ao (L:Int) (by omega) (by omega) ?_
  refine aG.lb L rfl (by omega) ?_
  refine ab.pure (sY _ l1) ?_
  refine ae.ao (bitLen a:Int) (by omega) (by omega) ?_
  exact aq.pure (.p _ (.int _ _))
theorem x8:au Tryz.prog 179 [bK false 4503599627370496] (.bq [.p (.int .u64 4503599627370496),.p (.bool true)]) []:=by
 have hb:=lq false 4503599627370496 (Nat.le_trans (dz (k:=2) (by decide)) (by decide))
 rw[show bitLen 4503599627370496=53 by decide]at hb
 have e:bK false 4503599627370496= .sl false 1 [.int .u32 0,.int .u32 1048576]:=by
  show PV.sl false 1 (bF (nl 4503599627370496))=_
  rw[fC (by decide),fC (by decide),show 4503599627370496/4294967296/4294967296=0 by decide,cr];rfl
 rw[e]at hb⊢
 refine aa (wr:=a9) a6 mixed Tryz.func179 (by kernel_rfl) rfl (by kernel_rfl) (af rfl) (by simp) ?_
 refine ab.pure (hb) ?_
 refine ag.no (rfl) ?_
 refine SZ.mk 2 rfl ?_
 refine aM.mk Nat (fun i=>([(4,.p (.int .u64 (if i=2 then 4503599627370496 else 0))),(10,.p (.sl false 1 [.int .u32 0,.int .u32 1048576])),(11,.p (.int .i64 2)),(12,.p (.int .i64 i))],[])) (fun i=>i<=2) (fun i=>2-i) 0 []
  (Nat.zero_le _) ⟨rfl,.nil,rfl,rfl,rfl,⟨rfl,rfl,rfl,rfl,trivial⟩,trivial⟩ ?_
 intro i h1
 match i,h1 with
 |0,_=>
  refine ag.yes (rfl) ?_
  refine aG.mk 0 _ rfl rfl ?_
  refine ae.cy 0 rfl (by decide) ?_
  refine ae.ao 0 rfl (by decide) ?_
  refine sr.mk (by decide) ?_
  refine ae.cy 0 rfl (by decide) ?_
  refine ae.cy 0 rfl (by decide) ?_
  refine ae.ao 1 rfl (by decide) ?_
  exact⟨1,[],by decide,by decide,⟨rfl,.nil,rfl,rfl,rfl,⟨rfl,rfl,rfl,rfl,trivial⟩,trivial⟩⟩
 |1,_=>
  refine ag.yes (rfl) ?_
  refine aG.mk 1 _ rfl rfl ?_
  refine ae.cy 1048576 rfl (by decide) ?_
  refine ae.ao 32 rfl (by decide) ?_
  refine sr.mk (by decide) ?_
  refine ae.cy 4503599627370496 rfl (by decide) ?_
  refine ae.cy 4503599627370496 rfl (by decide) ?_
  refine ae.ao 2 rfl (by decide) ?_
  exact⟨2,[],by decide,by decide,⟨rfl,.nil,rfl,rfl,rfl,⟨rfl,rfl,rfl,rfl,trivial⟩,trivial⟩⟩
 |2,_=>
  refine ag.no (rfl) ?_
  exact aq.pure (.bq rfl fun i c d e1 e2=>by
   match i,e1,e2 with
   |0,e1,e2=>cases e1;cases e2;exact .p _ (.int _ _)
   |1,e1,e2=>cases e1;cases e2;exact .tf _)
theorem lT (m:Bool) (a k:Nat) (ha:aL a<=274877906944) (hk:k<=1048576):au Tryz.prog 72 [bK m a,.int .i64 k] (.p (bC (a*2^k))) []:=by
 refine aa (wr:=a9) a6 mixed Tryz.func72 (by kernel_rfl) rfl (by kernel_rfl) (af rfl) (by simp) ?_
 refine aM.mk Unit (fun _=>([(0,.p (bK m a)),(1,.p (.int .i64 k))],[])) (fun _=>True) (fun _=>0) () [] trivial ⟨rfl,.nil,rfl,rfl,rfl,⟨rfl,rfl,trivial⟩,trivial⟩ ?_
 intro _ _
 refine ag.no (decide_eq_false (by omega)) ?_
 refine ab.pure (uv m a k ha hk) ?_
 exact aq.pure (.p _ (.sl _ _ (aP _)))
theorem CZ (m:Bool) (a k:Nat) (ha:aL a<=274877906944) (hk:k<=1048576):au Tryz.prog 177 [bK m a,.int .i64 k] (.p (bC (a/2^k))) []:=by
 refine aa (wr:=a9) a6 mixed Tryz.func177 (by kernel_rfl) rfl (by kernel_rfl) (af rfl) (by simp) ?_
 refine aM.mk Unit (fun _=>([(0,.p (bK m a)),(1,.p (.int .i64 k))],[])) (fun _=>True) (fun _=>0) () [] trivial ⟨rfl,.nil,rfl,rfl,rfl,⟨rfl,rfl,trivial⟩,trivial⟩ ?_
 intro _ _
 refine ag.no (decide_eq_false (by omega)) ?_
 refine ab.pure (Ae m a k ha hk) ?_
 exact aq.pure (.p _ (.sl _ _ (aP _)))
abbrev kC:Int:=4598175219545276416
abbrev kM:Nat:=73786976294838206464
abbrev Bf (m:Nat) (e:Int):PV:=.agg [.bool false,bC m,.int .i64 e,.bool false]
theorem qG (m:Nat) (e:Int):bZ (Bf m e):=.agg _ fun c hc=>by
 simp at hc
 rcases hc with rfl|rfl|rfl|rfl
 ·exact .bool _
 ·exact .sl _ _ (aP _)
 ·exact .int _ _
 ·exact .bool _
theorem cQ {n k:Nat} (h:n<4294967296^k) (hk:k<=1000):aL n<=1000:=Nat.le_trans (dz h) hk
theorem A1:au Tryz.prog 140 [.bool false,bC 1,bC 4,.int .i64 0] (.p (Bf kM (-68))) []:=by
 have hdiv:=rl false false 295147905179352825856 4 (Nat.le_trans (cQ (k:=3) (by decide) (by decide)) (by decide)) (Nat.le_trans (cQ (k:=1) (by decide) (by decide)) (by decide))
 rw[if_neg (by decide),show 295147905179352825856/4=kM from rfl,show 295147905179352825856%4=0 from rfl]at hdiv
 have h4:=lq false 4 (Nat.le_trans (cQ (k:=1) (by decide) (by decide)) (by decide))
 have h1:=lq false 1 (Nat.le_trans (cQ (k:=1) (by decide) (by decide)) (by decide))
 rw[show bitLen 4=3 by decide]at h4
 rw[show bitLen 1=1 by decide]at h1
 have hs:=lT false 1 68 (Nat.le_trans (cQ (k:=1) (by decide) (by decide)) (by decide)) (by decide)
 rw[show 1*2^68=295147905179352825856 from rfl]at hs
 refine aa (wr:=a9) a6 mixed Tryz.func140 (by kernel_rfl) rfl (by kernel_rfl) (af rfl) (by simp) ?_
 refine ab.pure (h4) ?_
 refine ae.ao 69 rfl (by decide) ?_
 refine ab.pure (h1) ?_
 refine ae.ao 68 rfl (by decide) ?_
 refine SZ.mk 68 rfl ?_
 refine ab.pure (hs) ?_
 refine ab.bg (hdiv) (fun _=>rfl) ?_
 refine ae.ao (-68) rfl (by decide) ?_
 refine SZ.mk 0 (by rw[cr];rfl) ?_
 refine ag.no (rfl) ?_
 exact aq.pure (.p _ (qG _ _))
theorem BA:au Tryz.prog 178 [Bf kM (-68),bC 4503599627370496,.int .i64 14] (.p (.agg [.bool false,.int .i64 (-1)])) []:=by
 have hs:=lT false 4503599627370496 14 (Nat.le_trans (cQ (k:=2) (by decide) (by decide)) (by decide)) (by decide)
 rw[show 4503599627370496*2^14=kM from rfl]at hs
 have hs2:=lT false 1 13 (Nat.le_trans (cQ (k:=2) (by decide) (by decide)) (by decide)) (by decide)
 rw[show 1*2^13=8192 from rfl]at hs2
 have hb:=wg false false kM kM (Nat.le_trans (cQ (k:=3) (by decide) (by decide)) (by decide)) (Nat.le_trans (cQ (k:=3) (by decide) (by decide)) (by decide))
 have hc:=mw false false 0 8192 (Nat.le_trans (cQ (k:=1) (by decide) (by decide)) (by decide)) (Nat.le_trans (cQ (k:=1) (by decide) (by decide)) (by decide))
 rw[show cP 0 8192= -1 by decide]at hc
 rw[if_pos (Nat.le_refl _),show kM-kM=0 from rfl]at hb
 refine aa (wr:=a9) a6 mixed Tryz.func178 (by kernel_rfl) rfl (by kernel_rfl) (af rfl) (by simp) ?_
 refine ag.no (rfl) ?_
 refine aO.mk (by kernel_rfl) ?_
 repeat refine aj.mk _ _ (And.intro rfl rfl) rfl ?_
 refine aj.mk _ _ (ab.pure (hs) (And.intro rfl rfl)) rfl ?_
 refine aj.mk _ _ (ab.bg (hb) (fun _=>rfl) (And.intro rfl rfl)) rfl ?_
 repeat refine aj.mk _ _ (And.intro rfl rfl) rfl ?_
 refine ab.pure (tF 1 (by decide)) ?_
 refine ae.ao 13 rfl (by decide) ?_
 refine ab.pure (hs2) ?_
 refine ab.pure (hc) ?_
 refine ag.no (rfl) ?_
 refine SZ.mk 0 (by rw[cr];rfl) ?_
 refine ag.no (rfl) ?_
 exact aq.pure (.p _ (.agg _ fun c hc=>by
  simp at hc
  rcases hc with rfl|rfl
  ·exact .bool _
  ·exact .int _ _))
theorem E4:au Tryz.prog 180 [.agg [.bool false,.int .i64 (-1)],.int .i64 0,.bool false,.bool false] (.p (.bool false)) []:=by
 refine aa (wr:=a9) a6 mixed Tryz.func180 (by kernel_rfl) rfl (by kernel_rfl) (af rfl) (by simp) ?_
 refine ag.no (rfl) ?_
 refine ag.no (rfl) ?_
 refine ag.no (rfl) ?_
 refine ag.no (rfl) ?_
 refine ag.no (rfl) ?_
 refine ag.no (rfl) ?_
 exact aq.pure (.tf _)
theorem uE:au Tryz.prog 182 [.int .u64 kC,.bool false] (.p (.int .u64 kC)) []:=by
 refine aa (wr:=a9) a6 mixed Tryz.func182 (by kernel_rfl) rfl (by kernel_rfl) (af rfl) (by simp) ?_
 refine a8.mk (fun h=>by cases h) (fun _=>?_)
 exact aq.pure (.p _ (.int _ _))
theorem yI:au Tryz.prog 141 [Bf kM (-68),.int .i64 0] (.bq [.p (.int .u64 kC),.p (.int .i64 0)]) []:=by
 have hb:=lq false kM (Nat.le_trans (cQ (k:=3) (by decide) (by decide)) (by decide))
 rw[show bitLen kM=67 by decide]at hb
 have hs:=CZ false kM 14 (Nat.le_trans (cQ (k:=3) (by decide) (by decide)) (by decide)) (by decide)
 rw[show kM/2^14=4503599627370496 from rfl]at hs
 refine aa (wr:=a9) a6 mixed Tryz.func141 (by kernel_rfl) rfl (by kernel_rfl) (af rfl) (by simp) ?_
 refine aO.mk (by kernel_rfl) ?_
 repeat refine aj.mk _ _ (And.intro rfl rfl) rfl ?_
 refine aj.mk _ _ (ab.pure (hb) (And.intro rfl rfl)) rfl ?_
 refine aj.mk _ _ (ae.ao 66 rfl (by decide) (And.intro rfl rfl)) rfl ?_
 repeat refine aj.mk _ _ (And.intro rfl rfl) rfl ?_
 refine aj.mk _ _ (ae.ao (-2) rfl (by decide) (And.intro rfl rfl)) rfl ?_
 repeat refine aj.mk _ _ (And.intro rfl rfl) rfl ?_
 refine ae.ao (-54) rfl (by decide) ?_
 refine SZ.mk (-54) rfl ?_
 refine ae.ao 14 rfl (by decide) ?_
 refine SZ.mk 14 rfl ?_
 refine ab.pure (hs) ?_
 refine ab.pure (BA) ?_
 refine ag.no (rfl) ?_
 refine ab.bg (x8) (fun _=>rfl) ?_
 refine ae.mk 0 (by decide+kernel) ?_
 refine ag.no (rfl) ?_
 refine ab.pure (E4) ?_
 refine a8.mk (fun h=>by cases h) (fun _=>?_)
 refine ag.no (rfl) ?_
 refine ag.yes (rfl) ?_
 refine ae.ao (-2) rfl (by decide) ?_
 refine ag.no (rfl) ?_
 refine a8.mk (fun h=>by cases h) (fun _=>?_)
 refine ag.yes (rfl) ?_
 refine ae.ao 1021 rfl (by decide) ?_
 refine ae.ao 1020 rfl (by decide) ?_
 refine ae.cy 1020 rfl (by decide) ?_
 refine sr.mk (by decide) ?_
 refine ae.cy 4593671619917905920 rfl (by decide) ?_
 refine ae.cy 4598175219545276416 rfl (by decide) ?_
 refine ab.pure (uE) ?_
 exact aq.pure (.bq rfl fun i c d e1 e2=>by
  match i,e1,e2 with
  |0,e1,e2=>cases e1;cases e2;exact .p _ (.int _ _)
  |1,e1,e2=>cases e1;cases e2;exact .p _ (.int _ _))
theorem oW:(1/4:Rat).num.natAbs=1/\(1/4:Rat).den=4/\decide ((1/4:Rat).num<0)=false:=by decide+kernel
theorem Fy:aJ (1/4)= .agg [.bool false,bC 1,bC 4]:=by rw[aJ,oW.1,oW.2.1,oW.2.2]
theorem Fx:au Tryz.prog 68 [aJ (1/4),.int .i64 0] (.bq [.p (.int .u64 kC),.p (.int .i64 0)]) []:=by
 rw[Fy]
 refine aa (wr:=a9) a6 mixed Tryz.func68 (by kernel_rfl) rfl (by kernel_rfl) (af rfl) (by simp) ?_
 refine SZ.mk 1 (by rw[qP];rfl) ?_
 refine ag.no (rfl) ?_
 refine SZ.mk 1 (by rw[fC (by decide),cr];rfl) ?_
 refine ag.no (rfl) ?_
 refine ab.pure (A1) ?_
 refine ab.bg (yI) (fun _=>rfl) ?_
 exact aq.pure (.bq rfl fun i c d e1 e2=>by
  match i,e1,e2 with
  |0,e1,e2=>cases e1;cases e2;exact .p _ (.int _ _)
  |1,e1,e2=>cases e1;cases e2;exact .p _ (.int _ _))
theorem vg:au Tryz.prog 122 [.int .u64 kC] (.p (.bool true)) []:=by
 refine aa (wr:=a9) a6 mixed Tryz.func122 (by kernel_rfl) rfl (by kernel_rfl) (af rfl) (by simp) ?_
 refine sr.mk (by decide) ?_
 refine SZ.mk 1021 rfl ?_
 refine ae.mk 1021 (by decide+kernel) ?_
 refine ag.yes (rfl) ?_
 refine ag.yes (rfl) ?_
 exact aq.pure (.tf _)
theorem C4:au Tryz.prog 69 [.int .u64 kC] (.p (.bool false)) []:=by
 refine aa (wr:=a9) a6 mixed Tryz.func69 (by kernel_rfl) rfl (by kernel_rfl) (af rfl) (by simp) ?_
 refine ae.mk kC (by decide+kernel) ?_
 refine ag.no (rfl) ?_
 exact aq.pure (.tf _)
theorem CF:au Tryz.prog 70 [.int .u64 kC] (.p (.bool false)) []:=by
 refine aa (wr:=a9) a6 mixed Tryz.func70 (by kernel_rfl) rfl (by kernel_rfl) (af rfl) (by simp) ?_
 refine ae.mk kC (by decide+kernel) ?_
 refine ag.no (rfl) ?_
 exact aq.pure (.tf _)
theorem yR:au Tryz.prog 142 [.int .u64 kC] (.p (.bool false)) []:=by
 refine aa (wr:=a9) a6 mixed Tryz.func142 (by kernel_rfl) rfl (by kernel_rfl) (af rfl) (by simp) ?_
 refine ae.mk 0 (by decide+kernel) ?_
 refine ag.no (rfl) ?_
 exact aq.pure (.tf _)
theorem CI:au Tryz.prog 71 [.int .u64 kC] (.p (Bf 4503599627370496 (-54))) []:=by
 refine aa (wr:=a9) a6 mixed Tryz.func71 (by kernel_rfl) rfl (by kernel_rfl) (af rfl) (by simp) ?_
 refine ae.mk 0 (by decide+kernel) ?_
 refine sr.mk (by decide) ?_
 refine SZ.mk 1021 rfl ?_
 refine ae.mk 1021 (by decide+kernel) ?_
 refine ae.ao 1021 rfl (by decide) ?_
 refine ag.yes (rfl) ?_
 refine ab.pure (yR) ?_
 refine ae.mk 4503599627370496 (by decide+kernel) ?_
 refine ab.pure (tF 4503599627370496 (by decide)) ?_
 refine ae.ao (-54) rfl (by decide) ?_
 exact aq.pure (.p _ (qG _ _))
theorem wm:au Tryz.prog 121 [aJ (1/4)] (.p (aJ (1/4))) []:=by
 have h:=vt (1/4) (Nat.le_trans (cQ (k:=1) (by decide+kernel) (by decide)) (by decide)) (Nat.le_trans (cQ (k:=1) (by decide+kernel) (by decide)) (by decide))
 rwa[<-oW.2.2]at h
theorem DX:au Tryz.prog 27 [.int .u64 kC] (.bq [.p (aJ (1/4)),.p (.int .i64 0)]) []:=by
 have h1:=lT false 4503599627370496 0 (Nat.le_trans (cQ (k:=2) (by decide) (by decide)) (by decide)) (by decide)
 rw[show 4503599627370496*2^0=4503599627370496 from rfl]at h1
 have h2:=lT false 1 54 (Nat.le_trans (cQ (k:=2) (by decide) (by decide)) (by decide)) (by decide)
 rw[show 1*2^54=18014398509481984 from rfl]at h2
 have h3:=wM false false false 4503599627370496 18014398509481984 (by decide) (Nat.le_trans (cQ (k:=2) (by decide) (by decide)) (by decide)) (Nat.le_trans (cQ (k:=2) (by decide) (by decide)) (by decide))
 rw[show ir false 4503599627370496 18014398509481984=1/4 by decide+kernel]at h3
 refine aa (wr:=a9) a6 mixed Tryz.func27 (by kernel_rfl) rfl (by kernel_rfl) (af rfl) (by simp) ?_
 refine ab.pure (C4) ?_
 refine a8.mk (fun h=>by cases h) (fun _=>?_)
 refine ab.pure (CF) ?_
 refine a8.mk (fun h=>by cases h) (fun _=>?_)
 refine ab.pure (CI) ?_
 refine aO.cM (by kernel_rfl) ?_
 repeat refine aj.mk _ _ (And.intro rfl rfl) rfl ?_
 refine aj.mk _ _ (SZ.mk 0 rfl (And.intro rfl rfl)) rfl ?_
 refine aj.mk _ _ (ab.pure (h1) (And.intro rfl rfl)) rfl ?_
 refine aj.mk _ _ (ab.pure (tF 1 (by decide)) (And.intro rfl rfl)) rfl ?_
 repeat refine aj.mk _ _ (And.intro rfl rfl) rfl ?_
 refine aj.mk _ _ (ae.ao 54 rfl (by decide) (And.intro rfl rfl)) rfl ?_
 refine aj.mk _ _ (SZ.mk 54 rfl (And.intro rfl rfl)) rfl ?_
 refine aj.mk _ _ (ab.pure (h2) (And.intro rfl rfl)) rfl ?_
 refine aj.mk _ _ (ab.bg (h3) (fun _=>rfl) (And.intro rfl rfl)) rfl ?_
 repeat refine aj.mk _ _ (And.intro rfl rfl) rfl ?_
 refine br.mk (by kernel_rfl) ?_
 exact aq.pure (.bq rfl fun i c d e1 e2=>by
  match i,e1,e2 with
  |0,e1,e2=>cases e1;cases e2;exact .p _ (aS _ _ _)
  |1,e1,e2=>cases e1;cases e2;exact .p _ (.int _ _))
theorem uM (m:Bool):au Tryz.prog 54 [.sl m 3 [aJ (1/4)]] (.bq [.p (.sl false 1 [.int .u64 kC]),.p (.int .i64 0)]) []:=by
 have hc:=eN (1/4) (1/4) (j:=1) (k:=1) ⟨dz (by decide+kernel),dz (by decide+kernel)⟩ ⟨dz (by decide+kernel),dz (by decide+kernel)⟩ (by decide)
 rw[show pV (1/4) (1/4)=0 by decide+kernel]at hc
 refine aa (wr:=a9) a6 mixed Tryz.func54 (by kernel_rfl) rfl (by kernel_rfl) (af rfl) (by simp) ?_
 refine SZ.mk 1 rfl ?_
 refine SZ.mk 1 rfl ?_
 refine bT.mk (by simp) ?_
 refine bV.mk 1 rfl (by decide) (by decide) ?_
 refine SZ.mk 1 rfl ?_
 refine aM.mk Nat (fun i=>([(0,.p (.sl m 3 [aJ (1/4)])),(4,.vec 0 1 0 1),(5,.p (.int .i64 0)),(11,.p (.sl m 3 [aJ (1/4)])),(12,.p (.int .i64 1)),(13,.p (.int .i64 i))],[.vec 61 1 [.int .u64 (if i=0 then 0 else kC)]]))
  (fun i=>i<=1) (fun i=>1-i) 0 [0] (Nat.zero_le _) ⟨rfl,by simp,rfl,rfl,rfl,⟨rfl,rfl,rfl,rfl,rfl,rfl,trivial⟩,⟨rfl,trivial⟩⟩ ?_
 intro i h1
 match i,h1 with
 |0,_=>
  refine ag.yes (rfl) ?_
  refine aG.mk 0 _ rfl rfl ?_
  refine ab.bg (Fx) (fun _=>rfl) ?_
  refine aI.mk 0 rfl (by decide) ?_
  refine bT.mk (by decide) ?_
  refine cH.mk [.int .u64 kC] rfl ?_
  refine aO.mk (by kernel_rfl) ?_
  repeat refine aj.mk _ _ (And.intro rfl rfl) rfl ?_
  refine aj.mk _ _ (ab.pure (wm) (And.intro rfl rfl)) rfl ?_
  repeat refine aj.mk _ _ (And.intro rfl rfl) rfl ?_
  refine aj.mk _ _ (aG.mk 0 _ rfl rfl (And.intro rfl rfl)) rfl ?_
  repeat refine aj.mk _ _ (And.intro rfl rfl) rfl ?_
  refine aj.mk _ _ (ab.pure (wm) (And.intro rfl rfl)) rfl ?_
  refine aj.mk _ _ (ab.pure (hc) (And.intro rfl rfl)) rfl ?_
  repeat refine aj.mk _ _ (And.intro rfl rfl) rfl ?_
  refine aj.mk _ _ (ag.no rfl (And.intro rfl rfl)) rfl ?_
  refine ae.ao 1 rfl (by decide) ?_
  exact⟨1,[0],by decide,by decide,⟨rfl,by simp,rfl,rfl,rfl,⟨rfl,rfl,rfl,rfl,rfl,rfl,trivial⟩,⟨rfl,trivial⟩⟩⟩
 |1,_=>
  refine ag.no (rfl) ?_
  refine SZ.mk 1 rfl ?_
  refine ag.yes (rfl) ?_
  refine aG.mk 0 _ rfl rfl ?_
  refine SZ.mk 1 (by rw[oW.1,qP];rfl) ?_
  refine ag.yes (rfl) ?_
  refine aI.mk 0 rfl (by decide) ?_
  refine aG.mk 0 (.int .u64 kC) rfl rfl ?_
  refine ab.pure (vg) ?_
  refine ag.no (rfl) ?_
  exact aq.pure (.bq rfl fun i c d e1 e2=>by
   match i,e1,e2 with
   |0,e1,e2=>cases e1;cases e2;exact .ze rfl (by simp) (by simp) (fun e he c hc=>by
     simp at he;subst he
     simp[PV.cells]at hc;subst hc
     exact .int _ _) rfl
   |1,e1,e2=>cases e1;cases e2;exact .p _ (.int _ _))
def pP (w:Nat) (A:Nat->Nat->Rat) (y:Nat->Rat) (i:Nat):Rat:=sm w fun k=>A i k*y k
theorem C9 {w:Nat} {A:Nat->Nat->Rat} {y:Nat->Rat} {a b i:Nat} (hA:∀k,k<w->Bz (A i k) a) (hy:∀k,k<w->Bz (y k) b):∀k,k<=w->Bz (sm k fun k=>A i k*y k) (k*(a+b+1)+1):=by
 intro k
 induction k with
 |zero=>exact fun _=>bS.mono (by omega)
 |succ k ih=>
  intro hk
  exact((ih (by omega)).add ((hA k (by omega)).mul (hy k (by omega)))).mono (by rw[Nat.succ_mul];omega)
theorem BB:au Tryz.prog 166 [] (.p (aJ 0)) []:=by
 refine aa (wr:=a9) a6 mixed Tryz.func166 (by kernel_rfl) rfl (by kernel_rfl) (af rfl) (by simp) ?_
 refine aq.pure ?_
 rw[dF]
 exact f8 ⟨rfl,rfl,rfl⟩ (.p _ (.bool _)) (.p _ (.sl _ _ (fun e he=>by simp at he))) (iu rfl)
theorem mI (m:Bool) (n:Nat) (f:Nat->Rat) {k:Nat} (hf:∀i,i<n->Bz (f i) k) (hk:k<=1048576) (hn:n<=1000000):au Tryz.prog 109 [ah m (ar n f)] (.p (.bool true)) []:=by
 refine aa (wr:=a9) a6 mixed Tryz.func109 (by kernel_rfl) rfl (by kernel_rfl) (af rfl) (by simp) ?_
 refine SZ.mk (n:Int) (by simp[ar]) ?_
 refine aM.mk Nat (fun i=>([(5,.p (ah m (ar n f))),(6,.p (.int .i64 n)),(7,.p (.int .i64 i))],[])) (fun i=>i<=n) (fun i=>n-i) 0 [] (Nat.zero_le _) ⟨rfl,.nil,rfl,rfl,rfl,⟨rfl,rfl,rfl,trivial⟩,trivial⟩ ?_
 intro i h1
 have h1:i<=n:=h1
 by_cases hi:i<n
 ·refine ag.yes (decide_eq_true (by omega)) ?_
  refine aG.rf i rfl hi ?_
  refine ab.pure (dS (f i) (hf i hi).sz (by omega)) ?_
  refine ag.no (rfl) ?_
  refine ae.ao ((i+1:Nat):Int) (by omega) (by omega) ?_
  exact⟨i+1,[],hi,by show n-(i+1)<n-i;omega,⟨rfl,.nil,rfl,rfl,rfl,⟨rfl,rfl,rfl,trivial⟩,trivial⟩⟩
 ·refine ag.no (decide_eq_false (by omega)) ?_
  exact aq.pure (.tf _)
theorem od (m m':Bool) (n:Nat) (A:Nat->Nat->Rat) {k:Nat} (hA:∀i j,i<n->j<n->Bz (A i j) k) (hk:k<=1048576) (h0:0<n) (hn:n<=1000000):au Tryz.prog 108 [cm m m' n n A] (.p (.bool true)) []:=by
 refine aa (wr:=a9) a6 mixed Tryz.func108 (by kernel_rfl) rfl (by kernel_rfl) (af rfl) (by simp) ?_
 refine SZ.mk (n:Int) (by simp) ?_
 refine SZ.mk (n:Int) (by simp) ?_
 refine aM.mk Nat (fun i=>([(3,.p (.int .i64 n)),(8,.p (cm m m' n n A)),(9,.p (.int .i64 n)),(10,.p (.int .i64 i))],[])) (fun i=>i<=n) (fun i=>n-i) 0 [] (Nat.zero_le _) ⟨rfl,.nil,rfl,rfl,rfl,⟨rfl,rfl,rfl,rfl,trivial⟩,trivial⟩ ?_
 intro i h1
 have h1:i<=n:=h1
 by_cases hi:i<n
 ·refine ag.yes (decide_eq_true (by omega)) ?_
  refine aG.mf i rfl hi ?_
  refine SZ.mk (n:Int) (by simp[ar]) ?_
  refine ag.no (by simp) ?_
  refine ab.pure (mI m' n (A i) (fun j hj=>hA i j hi hj) hk hn) ?_
  refine ag.no (rfl) ?_
  refine ae.ao ((i+1:Nat):Int) (by omega) (by omega) ?_
  exact⟨i+1,[],hi,by show n-(i+1)<n-i;omega,⟨rfl,.nil,rfl,rfl,rfl,⟨rfl,rfl,rfl,rfl,trivial⟩,trivial⟩⟩
 ·refine ag.no (decide_eq_false (by omega)) ?_
  refine ag.yes (decide_eq_true (by omega)) ?_
  exact aq.pure (.tf _)
theorem CY (m m':Bool) (n:Nat) (f g:Nat->Rat) {a b:Nat} (hf:∀k,k<n->Bz (f k) a) (hg:∀k,k<n->Bz (g k) b) (hb:n*(a+b+1)+1+(a+b)+1<=1048576) (hn:n<=1000000):au Tryz.prog 110 [ah m (ar n f),ah m' (ar n g)] (.p (aJ (sm n fun k=>f k*g k))) []:=by
 refine aa (wr:=a9) a6 mixed Tryz.func110 (by kernel_rfl) rfl (by kernel_rfl) (af rfl) (by simp) ?_
 refine ab.pure (BB) ?_
 refine SZ.mk (n:Int) (by simp[ar]) ?_
 refine SZ.mk (n:Int) (by simp[ar]) ?_
 refine SZ.mk (n:Int) (by simp) ?_
 refine aM.mk (Nat×Rat) (fun(j,s)=>([(0,.p (ah m (ar n f))),(1,.p (ah m' (ar n g))),(4,.aF 0 0),(5,.aF 1 0),(12,.p (.int .i64 n)),(13,.p (.int .i64 j))],[.box 38 [.p (.bool false),.p (.sl false 1 []),.p (.sl false 1 [])],.box 38 (lW s)]))
  (fun(j,s)=>j<=n/\s=sm j fun k=>f k*g k) (fun x=>n-x.1) (0,0) [0,1] ⟨Nat.zero_le _,rfl⟩ ⟨rfl,by simp,rfl,rfl,rfl,⟨rfl,rfl,rfl,rfl,rfl,rfl,trivial⟩,⟨rfl,rfl,trivial⟩⟩ ?_
 intro⟨j,s⟩ ⟨hj,hs⟩
 have zs:Bz s (j*(a+b+1)+1):=by rw[hs];exact C9 (A:=fun _=>f) (i:=0) hf hg j hj
 have hjw:j*(a+b+1)<=n*(a+b+1):=Nat.mul_le_mul_right _ hj
 by_cases hjn:j<n
 ·refine ag.yes (decide_eq_true (by omega)) ?_
  have z1:=(hf j hjn).mul (hg j hjn)
  refine aO.cM (by kernel_rfl) ?_
  repeat refine aj.mk _ _ (And.intro rfl rfl) rfl ?_
  refine aj.mk _ _ (aG.rf j rfl hjn (And.intro rfl rfl)) rfl ?_
  repeat refine aj.mk _ _ (And.intro rfl rfl) rfl ?_
  refine aj.mk _ _ (aG.rf j rfl hjn (And.intro rfl rfl)) rfl ?_
  repeat refine aj.mk _ _ (And.intro rfl rfl) rfl ?_
  refine aj.mk _ _ (ab.pure (b9 _ _ (hf j hjn).sz (hg j hjn).sz (by omega)) (And.intro rfl rfl)) rfl ?_
  refine aj.mk _ _ (ab.pure (dZ _ _ zs.sz z1.sz (by omega)) (And.intro rfl rfl)) rfl ?_
  repeat refine aj.mk _ _ (And.intro rfl rfl) rfl ?_
  refine br.mk (by kernel_rfl) ?_
  refine ae.ao ((j+1:Nat):Int) (by omega) (by omega) ?_
  exact⟨(j+1,_),[0,1],⟨hjn,by rw[hs];rfl⟩,by show n-(j+1)<n-j;omega,⟨rfl,by simp,rfl,rfl,rfl,⟨rfl,rfl,rfl,rfl,rfl,rfl,trivial⟩,⟨rfl,rfl,trivial⟩⟩⟩
 ·refine ag.no (decide_eq_false (by omega)) ?_
  obtain rfl:j=n:=by omega
  subst hs
  exact aq.pure (.p _ (aS _ _ _))
theorem yE (m m' m'':Bool) (n:Nat) (A:Nat->Nat->Rat) (y:Nat->Rat) {a b:Nat} (hA:∀i k,i<n->k<n->Bz (A i k) a) (hy:∀k,k<n->Bz (y k) b) (h0:0<n) (hn:n<=1000) (hb:n*(a+b+1)+1+(a+b)+1<=1048576):
  au Tryz.prog 44 [cm m m' n n A,ah m'' (ar n y)] (.vec 0 3 0 n) [.vec 38 3 (bd (ar n (pP n A y)))]:=by
 refine aa (wr:=a9) a6 mixed Tryz.func44 (by kernel_rfl) rfl (by kernel_rfl) (af rfl) (by simp) ?_
 refine ab.pure (od m m' n A hA (by omega) h0 (by omega)) ?_
 refine ag.no (rfl) ?_
 refine SZ.mk (n:Int) (by simp[ar]) ?_
 refine SZ.mk (n:Int) (by simp) ?_
 refine ag.no (by simp) ?_
 refine ab.pure (mI m'' n y hy (by omega) (by omega)) ?_
 refine ag.no (rfl) ?_
 refine SZ.mk (n:Int) (by simp) ?_
 refine SZ.mk (n:Int) rfl ?_
 refine bT.mk (by simp) ?_
 refine bV.rat n rfl (by omega) ?_
 refine SZ.mk (n:Int) (by simp) ?_
 refine aM.mk Nat (fun i=>([(1,.p (ah m'' (ar n y))),(5,.vec 0 3 0 n),(26,.p (cm m m' n n A)),(27,.p (.int .i64 n)),(28,.p (.int .i64 i))],[.vec 38 3 (fl n fun k=>if k<i then aJ (pP n A y k)else cu)]))
  (fun i=>i<=n) (fun i=>n-i) 0 [0] (Nat.zero_le _) ⟨rfl,by simp,rfl,rfl,rfl,⟨rfl,rfl,rfl,rfl,rfl,trivial⟩,⟨congrArg _ ((aX fun k hk=>if_neg (by omega)).trans (bE n cu).symm),trivial⟩⟩ ?_
 intro i h1
 have h1:i<=n:=h1
 by_cases hi:i<n
 ·refine ag.yes (decide_eq_true (by omega)) ?_
  refine aG.mf i rfl hi ?_
  refine ab.pure (CY m' m'' n (A i) y (fun k hk=>hA i k hi hk) hy hb (by omega)) ?_
  refine aI.mk i rfl hi ?_
  refine bT.mk (by simp;omega) ?_
  refine cH.mk _ (du (f:=pP n A y) hi) ?_
  refine ae.ao ((i+1:Nat):Int) (by omega) (by omega) ?_
  exact⟨i+1,[0],hi,by show n-(i+1)<n-i;omega,⟨rfl,by simp,rfl,rfl,rfl,⟨rfl,rfl,rfl,rfl,rfl,trivial⟩,⟨rfl,trivial⟩⟩⟩
 ·refine ag.no (decide_eq_false (by omega)) ?_
  obtain rfl:i=n:=by omega
  exact aq.new 0 rfl (by rw[fN];rfl) (aB _)
theorem sX:au Tryz.prog 135 [] (.p (aJ 0)) []:=by
 refine aa (wr:=a9) a6 mixed Tryz.func135 (by kernel_rfl) rfl (by kernel_rfl) (af rfl) (by simp) ?_
 refine aq.pure ?_
 rw[dF]
 exact f8 ⟨rfl,rfl,rfl⟩ (.p _ (.bool _)) (.p _ (.sl _ _ (fun e he=>by simp at he))) (iu rfl)
abbrev CW (q:Rat):List AV:=[.p (.bool (decide (q.num<0))),.p (bC q.num.natAbs),.p (bC q.den)]
theorem ab.two {P:Program} {f:FuncId} {L:Hd->aC} {base:Nat} {K:AV->List (Hd×aC)->Prop} {args args':List AV} {r:AV} {B0 B1 C0 C1:aC} (h0 h1:Nat) (hc:cw P f args' [B0,B1] r [C0,C1])
  (hn:[h0,h1].Nodup) (hb0:h0<base) (hb1:h1<base) (ha:AV.cz (bn [h0,h1] base) args'=args)
  (e0:L (.t h0)=(B0.cE (bn [h0,h1] base)).top/\∀k,L (.r h0 k)=B0.row k) (e1:L (.t h1)=(B1.cE (bn [h0,h1] base)).top/\∀k,L (.r h1 k)=B1.row k)
  (hl:∀B∈[B0,B1],B≠ .free/\B≠ .dead) (hm:∀B∈[B0,B1],∀k,B.aU k->k.key<2) (hf:∀B∈[C0,C1],B≠ .free) (hargs:∀a∈args',∀k,a.aU k->k.key<2)
  (hk:K (r.cE (bn [h0,h1] base)) [(.t h0,C0.cE (bn [h0,h1] base)),(.t h1,C1.cE (bn [h0,h1] base))]) {raw:List AV}:ab P true f raw args L base K:=
 .mk [h0,h1] args' r [B0,B1] [C0,C1] (fun e=>by cases e) hn (fun h hh=>by simp at hh;rcases hh with rfl|rfl<;>assumption) ha rfl (fun i h B g1 g2=>by
  match i,g1,g2 with
  |0,g1,g2=>cases g1;cases g2;exact e0
  |1,g1,g2=>cases g1;cases g2;exact e1) hl hm (Nat.le_refl _) hf hargs hc hk
theorem Bt:cw Tryz.prog 136 [.aF 0 0,.vec 1 3 0 1] [.box 153 (CW 0),.vec 38 3 [aJ 0]] (.bq []) [.box 153 (CW 0),.vec 38 3 [aJ 0]]:=by
 refine aa (wr:=a9) a6 mixed Tryz.func136 (by kernel_rfl) rfl (by kernel_rfl) (af rfl) (by intro B hB;simp at hB;rcases hB with rfl|rfl<;>exact fun e=>by(cases e)) ?_
 refine SZ.mk 1 rfl ?_
 refine aM.mk Nat (fun i=>([(0,.aF 0 0),(6,.vec 1 3 0 1),(7,.p (.int .i64 1)),(8,.p (.int .i64 i))],[.box 153 (CW 0),.vec 38 3 [aJ 0]])) (fun i=>i<=1) (fun i=>1-i) 0 [0,1]
  (Nat.zero_le _) ⟨rfl,by simp,rfl,rfl,rfl,⟨rfl,rfl,rfl,rfl,trivial⟩,⟨rfl,rfl,trivial⟩⟩ ?_
 intro i h1
 have h1:i<=1:=h1
 by_cases hi:i=0
 ·subst hi
  refine ag.yes (decide_eq_true (by omega)) ?_
  refine aI.mk 0 rfl (by omega) ?_
  refine aG.mk 0 (aJ 0) rfl rfl ?_
  refine aO.mk (by kernel_rfl) ?_
  repeat refine aj.mk _ _ (And.intro rfl rfl) rfl ?_
  refine aj.mk _ _ (ab.pure (eN 0 0 bS.sz bS.sz (by omega)) (And.intro rfl rfl)) rfl ?_
  repeat refine aj.mk _ _ (And.intro rfl rfl) rfl ?_
  refine aj.mk _ _ (ag.no (by decide+kernel) (And.intro rfl rfl)) rfl ?_
  refine ae.ao 1 rfl (by omega) ?_
  exact⟨1,[0,1],Nat.le_refl _,by decide,⟨rfl,by simp,rfl,rfl,rfl,⟨rfl,rfl,rfl,rfl,trivial⟩,⟨rfl,rfl,trivial⟩⟩⟩
 ·refine ag.no (decide_eq_false (by omega)) ?_
  refine aq.ml rfl (by intro B hB k;simp at hB;rcases hB with rfl|rfl<;>rfl) (fun i hi=>?_) (fun i B e=>?_) (.bq rfl fun i c d e1 e2=>by simp at e1)
  ·match i,hi with
   |0,_=>trivial
   |1,_=>trivial
  ·match i,e with
   |0,e=>
    cases e
    refine .box (by intro c hc;simp at hc;rcases hc with rfl|rfl|rfl<;>rfl) rfl fun i c d e1 e2=>?_
    match i,e1,e2 with
    |0,e1,e2=>cases e1;cases e2;exact .p _ (.bool _)
    |1,e1,e2=>cases e1;cases e2;exact .p _ (.sl _ _ (aP _))
    |2,e1,e2=>cases e1;cases e2;exact .p _ (.sl _ _ (aP _))
   |1,e=>cases e;exact .vec (aB [0])
abbrev FK:FuncId->Bool:=fun f=>Nat.beq f 136
theorem yS (m:Bool):au Tryz.prog 61 [ah m (ar 1 fun _=>0)] (.p (aJ 0)) []:=by
 refine aa (wr:=FK) a6 mixed Tryz.func61 (by kernel_rfl) rfl (by kernel_rfl) (af rfl) (by simp) ?_
 refine ab.pure (sX) ?_
 refine SZ.mk 1 rfl ?_
 refine aM.mk Nat (fun i=>([(2,.aF 0 0),(3,.aF 1 0),(9,.p (ah m (ar 1 fun _=>0))),(10,.p (.int .i64 1)),(11,.p (.int .i64 i))],[.box 38 [.p (.bool false),.p (.sl false 1 []),.p (.sl false 1 [])],.box 153 (CW 0)]))
  (fun i=>i<=1) (fun i=>1-i) 0 [0,1] (Nat.zero_le _) ⟨rfl,by simp,rfl,rfl,rfl,⟨rfl,rfl,rfl,rfl,rfl,trivial⟩,⟨rfl,rfl,trivial⟩⟩ ?_
 intro i h1
 have h1:i<=1:=h1
 by_cases hi:i<1
 ·obtain rfl:i=0:=by omega
  have ha:=vt 0 (Nat.le_trans bS.sz.n (by decide)) (Nat.le_trans bS.sz.d (by decide))
  rw[<-show decide ((0:Rat).num<0)=false by decide+kernel]at ha
  refine ag.yes (decide_eq_true (by omega)) ?_
  refine aG.rf 0 rfl (by decide) ?_
  refine ab.pure (ha) ?_
  refine ab.two (args':=[.aF 0 0,.vec 1 3 0 1]) 1 3 Bt (by decide) (by decide) (by decide) rfl ⟨rfl,fun _=>rfl⟩ ⟨rfl,fun _=>rfl⟩ (by intro B hB;simp at hB;rcases hB with rfl|rfl<;>exact⟨fun e=>by(cases e),fun e=>by(cases e)⟩)
   (by
    intro B hB k hk;simp at hB
    rcases hB with rfl|rfl
    ·simp[aC.aU,AV.bo,AV.aU]at hk
    ·exact hk.elim) (by intro B hB;simp at hB;rcases hB with rfl|rfl<;>exact fun e=>by(cases e)) (by
    intro a ha k hk;simp at ha
    rcases ha with rfl|rfl
    ·have:0=k:=hk;subst this;decide
    ·have:1=k:=hk;subst this;decide) ?_
  refine ae.ao ((0+1:Nat):Int) (by omega) (by omega) ?_
  exact⟨1,[0,1],by decide,by decide,⟨rfl,by simp,rfl,rfl,rfl,⟨rfl,rfl,rfl,rfl,rfl,trivial⟩,⟨rfl,rfl,trivial⟩⟩⟩
 ·refine ag.no (decide_eq_false (by omega)) ?_
  exact aq.pure (.p _ (aS _ _ _))
theorem Ad {H:Hp} {h:Nat} {T:TypeId} {l:List Rat} {n:Nat} (hB:look H h= .vec T 3 (bd l)) (hn:n=l.length):aq [] (.bq [.vec h 3 0 n,.p (.int .i64 0)]) H (.bq [.p (ah false l),.p (.int .i64 0)]) []:=
 aq.pure (.bq rfl fun i c d e1 e2=>by
  match i,e1,e2 with
  |0,e1,e2=>cases e1;cases e2;exact uZ hB hn
  |1,e1,e2=>cases e1;cases e2;exact .p _ (.int _ _))
theorem yx (m:Bool):
  au Tryz.prog 59 [.sl m 1 [.int .u64 kC]] (.bq [.p (ah false (ar 1 fun _=>1/4)),.p (.int .i64 0)]) []:=by
 refine aa (wr:=a9) a6 mixed Tryz.func59 (by kernel_rfl) rfl (by kernel_rfl) (af rfl) (by simp) ?_
 refine SZ.mk 1 rfl ?_
 refine SZ.mk 1 rfl ?_
 refine bT.mk (by simp) ?_
 refine bV.rat 1 rfl (by decide) ?_
 refine SZ.mk 1 rfl ?_
 refine aM.mk Nat (fun i=>([(4,.vec 0 3 0 1),(12,.p (.sl m 1 [.int .u64 kC])),(13,.p (.int .i64 1)),(14,.p (.int .i64 i))],[.vec 38 3 (fl 1 fun k=>if k<i then aJ (1/4)else cu)]))
  (fun i=>i<=1) (fun i=>1-i) 0 [0] (Nat.zero_le _) ⟨rfl,by simp,rfl,rfl,rfl,⟨rfl,rfl,rfl,rfl,trivial⟩,⟨rfl,trivial⟩⟩ ?_
 intro i hi
 have hi:i<=1:=hi
 by_cases h1':i<1
 ·obtain rfl:i=0:=by omega
  refine ag.yes (decide_eq_true (by omega)) ?_
  refine aG.mk 0 _ rfl rfl ?_
  refine ab.bg (DX) (fun _=>rfl) ?_
  refine ag.no (rfl) ?_
  refine aI.mk 0 rfl (by decide) ?_
  refine bT.mk (by simp) ?_
  refine cH.mk (fl 1 fun k=>if k<0+1 then aJ (1/4)else cu) rfl ?_
  refine ae.ao ((0+1:Nat):Int) (by omega) (by omega) ?_
  exact⟨1,[0],by decide,by decide,⟨rfl,by simp,rfl,rfl,rfl,⟨rfl,rfl,rfl,rfl,trivial⟩,⟨rfl,trivial⟩⟩⟩
 ·refine ag.no (decide_eq_false (by omega)) ?_
  obtain rfl:i=1:=by omega
  exact Ad (l:=ar 1 fun _=>1/4) rfl rfl
theorem B5 (m m' mb mx:Bool) (A:Nat->Nat->Rat) (f:Nat->Rat) {a:Nat} (hA:Bz (A 0 0) a) (hf:Bz (f 0) a) (hv:Bz (1/4:Rat) a) (ha:a<=1000) (a1:1<=a) (e:A 0 0*(1/4)=f 0):
  au Tryz.prog 23 [cm m m' 1 1 A,ah mb (ar 1 f),.sl mx 1 [.int .u64 kC]] (.bq [.p (aJ 0),.p (.int .i64 0)]) []:=by
 have c2:=yE m m' false 1 A (fun _=>1/4) (a:=a) (b:=a) (fun i j hi hj=>by
  obtain rfl:i=0:=by omega
  obtain rfl:j=0:=by omega
  exact hA) (fun k hk=>hv) (by decide) (by decide) (by omega)
 have e1:pP 1 A (fun _=>1/4) 0=f 0:=by
  show 0+A 0 0*(1/4)=f 0
  rw[e,Rat.zero_add]
 have e2:f 0-f 0=0:=by grind
 have bb:Bz (pP 1 A (fun _=>1/4) 0) a:=by rw[e1];exact hf
 refine aa (wr:=a9) a6 mixed Tryz.func23 (by kernel_rfl) rfl (by kernel_rfl) (af rfl) (by simp) ?_
 refine SZ.mk 1 rfl ?_
 refine SZ.mk 1 rfl ?_
 refine ag.no (rfl) ?_
 refine SZ.mk 1 rfl ?_
 refine SZ.mk 1 rfl ?_
 refine ag.no (rfl) ?_
 refine ab.bg (yx mx) (fun _=>rfl) ?_
 refine ag.no (rfl) ?_
 refine ab.fresh c2 ?_
 refine SZ.mk 1 rfl ?_
 refine SZ.mk 1 rfl ?_
 refine ag.no (rfl) ?_
 refine SZ.mk 1 rfl ?_
 refine aM.mk Nat (fun i=>([(1,.p (ah mb (ar 1 f))),(6,.aF 0 0),(10,.vec 1 3 0 1),(46,.p (.int .i64 1)),(47,.p (.int .i64 i))],[.box 38 ub,.vec 38 3 (bd (ar 1 fun _=>if i=0 then pP 1 A (fun _=>1/4) 0 else 0))]))
  (fun i=>i<=1) (fun i=>1-i) 0 [0,1] (Nat.zero_le _) ⟨rfl,by simp,rfl,rfl,rfl,⟨rfl,rfl,rfl,rfl,rfl,trivial⟩,⟨rfl,rfl,trivial⟩⟩ ?_
 intro i hi
 have hi:i<=1:=hi
 by_cases hi1:i<1
 ·obtain rfl:i=0:=by omega
  refine ag.yes (decide_eq_true (by omega)) ?_
  refine aO.cM (by kernel_rfl) ?_
  repeat refine aj.mk _ _ (And.intro rfl rfl) rfl ?_
  refine aj.mk _ _ (aI.mk 0 rfl (by decide) (And.intro rfl rfl)) rfl ?_
  refine aj.mk _ _ (aG.rf 0 rfl (by decide) (And.intro rfl rfl)) rfl ?_
  repeat refine aj.mk _ _ (And.intro rfl rfl) rfl ?_
  refine aj.mk _ _ (aG.rf 0 rfl (by decide) (And.intro rfl rfl)) rfl ?_
  repeat refine aj.mk _ _ (And.intro rfl rfl) rfl ?_
  refine aj.mk _ _ (ab.pure (cn (if 0=0 then pP 1 A (fun _=>1/4) 0 else 0) (f 0) (k:=a) (by rw[if_pos rfl];exact bb.sz) hf.sz (by omega)) (And.intro rfl rfl)) rfl ?_
  refine aj.mk _ _ (aI.mk 0 rfl (by decide) (And.intro rfl rfl)) rfl ?_
  refine aj.mk _ _ (bT.mk (by simp[ar])<|cH.mk (bd (ar 1 fun _=>if 0+1=0 then pP 1 A (fun _=>1/4) 0 else 0)) (by show[aJ ((if 0=0 then pP 1 A (fun _=>1/4) 0 else 0)-f 0)]=[aJ (if 0+1=0 then pP 1 A (fun _=>1/4) 0 else 0)];rw[if_pos rfl,if_neg (by decide),e1,e2]) (And.intro rfl rfl)) rfl ?_
  repeat refine aj.mk _ _ (And.intro rfl rfl) rfl ?_
  refine br.mk (by kernel_rfl) ?_
  refine ae.ao ((0+1:Nat):Int) (by omega) (by omega) ?_
  exact⟨1,[0,1],by decide,by decide,⟨rfl,by simp,rfl,rfl,rfl,⟨rfl,rfl,rfl,rfl,rfl,trivial⟩,⟨rfl,rfl,trivial⟩⟩⟩
 ·refine ag.no (decide_eq_false (by omega)) ?_
  obtain rfl:i=1:=by omega
  refine bp.all rfl ?_
  refine ab.pure (yS true) ?_
  refine SZ.mk 0 (by rw[show(0:Rat).num.natAbs=0 from rfl,cr];rfl) ?_
  refine ag.yes (rfl) ?_
  exact aq.pure (.bq rfl fun i c d e1 e2=>by
   match i,e1,e2 with
   |0,e1,e2=>cases e1;cases e2;exact .p _ (aS _ _ _)
   |1,e1,e2=>cases e1;cases e2;exact .p _ (.int _ _))
end Go.Proofs.YtnilcfiemgmfdaaGreat
