/- FTCert: what its proof needs, part 5. -/
import Derived.Test.YtiakeknbdclaoaaGreatMTCert4
set_option linter.unusedVariables false
set_option linter.unusedSimpArgs false
namespace Go.Proofs.YtiakeknbdclaoaaGreat
open Go
set_option maxRecDepth 10000
theorem oS (m:Bool) (a:Nat) (ha:az a<=549755813888):ae Tryz.prog 139 [bF m a] (.p (.int .i64 (bitLen a))) []:=by
 refine aW Tryz.func139 ?_
 refine SZ.mk (az a) qS ?_
 by_cases h0:a=0
 ·have:=aw.2 h0
  refine ao.yes (jx qO) ?_
  rw[cK.2 h0]
  exact ab.pure (.p _ (.int _ _))
 ·have hn:=mt aw.1 h0
  refine ao.no (iO qO) ?_
  obtain⟨L,hL⟩:∃L,az a=L+1:=⟨az a-1,qO⟩
  have hL':(nl a).length=L+1:=hL
  have l1:(nl a).getD L 0<4294967296:=bC (cp a) L
  have e1:a/2^(32*L)=(nl a).getD L 0:=by
   rw[bU,Nat.pow_mul]
   have:=cH a
   rw[hL,Nat.pow_succ,Nat.mul_comm]at this
   have h2:a/4294967296^L<4294967296:=(Nat.div_lt_iff_lt_mul (bX L)).2 this
   exact(Nat.mod_eq_of_lt h2).symm
  have hz:=pq h0
  rw[hL',Nat.add_sub_cancel]at hz
  have hb:bitLen a=32*L+bitLen ((nl a).getD L 0):=by rw[<-e1]at hz⊢;exact bitLen_shift a (32*L) hz
  have hb32:bitLen ((nl a).getD L 0)<=32:=cj l1
  refine SZ.mk ((L+1:Nat):Int) (by simp[hL']) ?_
  refine kJ (L:Int) ?_
  refine a5 (32*L) ?_
  refine SZ.mk ((L+1:Nat):Int) (by simp[hL']) ?_
  refine kJ (L:Int) ?_
  refine aF.lb L rfl qO ?_
  refine aa.pure (yA _ l1) ?_
  refine kJ (bitLen a:Int) ?_
  exact ab.pure (.p _ (.int _ _))
theorem Ej (m:Bool) (a:Nat) (ha:a<18446744073709551616):ae Tryz.prog 142 [bF m a] (.bK [.p (.int .u64 a),.p (.bool true)]) []:=by
 refine aW Tryz.func142 ?_
 have hb:bitLen a<=64:=cj ha
 have hn:az a<=2:=fX qO
 refine aa.pure (oS m a qO) ?_
 refine bd ?_
 refine SZ.mk (az a:Int) qS ?_
 refine aJ.mk Nat (fun i=>([(4,.p (.int .u64 ((a%4294967296^i:Nat):Int))),(10,.p (bF m a)),(11,.p (.int .i64 (az a))),(12,.p (.int .i64 i))],[])) (fun i=>i<=az a) (fun i=>az a-i) 0 []
  (Nat.zero_le _) (aY (ss:=⟨?_,rfl,rfl,rfl,trivial⟩)) ?_
 ·rw[Nat.pow_zero,Nat.mod_one];rfl
 intro i (h1:i<=az a)
 by_cases hi:i<az a
 ·refine bo ?_
  have l1:(nl a).getD i 0<4294967296:=bC (cp a) i
  have hlen:(nl a).length=az a:=rfl
  refine aF.lb i rfl qO ?_
  refine ai.ed ((nl a).getD i 0) rfl qO ?_
  refine a5 (32*i) ?_
  refine DH.mk qO ?_
  have e0:a%4294967296^(i+1)=a%4294967296^i+4294967296^i*(nl a).getD i 0:=by rw[bU];exact Nat.mod_pow_succ
  have hlt:a%4294967296^i<4294967296^i:=Nat.mod_lt _ (bX i)
  have e1:(4294967296:Nat)^i=2^(32*i):=by rw[Nat.pow_mul]
  have hlt1:4294967296^i*(nl a).getD i 0<18446744073709551616:=by
   rcases(show i=0\/i=1 by omega)with h|h
   ·rw[h]at l1⊢;omega
   ·rw[h]at l1⊢;omega
  refine ai.ed (4294967296^i*(nl a).getD i 0) ?_ hlt1 ?_
  ·have:(min ((32*i:Nat):Int).toNat (IntKind.bits .u64))=32*i:=by
    show min ((32*i:Nat):Int).toNat 64=32*i
    omega
   rw[this,e1,Int.natCast_mul,Int.natCast_pow,Int.mul_comm];rfl
  refine ai.or (a%4294967296^i) (4294967296^i*(nl a).getD i 0) (a%4294967296^(i+1)) rfl rfl (Nat.lt_of_le_of_lt (Nat.mod_le _ _) ha) hlt1 ?_ ?_
  ·rw[Nat.or_comm,BC (k:=32*i) (a:=(nl a).getD i 0) (by rw[<-e1];exact hlt) (by rw[<-e1]),e0,Nat.add_comm]
  refine a5 (i+1) ?_
  exact⟨i+1,[],hi,cA,aY⟩
 ·refine bd ?_
  have:i=az a:=qO
  subst this
  rw[Nat.mod_eq_of_lt (cH a)]
  exact ab.pure (.bK rfl fun i c d e1 e2=>by
   match i,e1,e2 with
   |0,e1,e2=>cases e1;cases e2;exact .p _ (.int _ _)
   |1,e1,e2=>cases e1;cases e2;exact .tf _)
theorem mj (f:Nat) (hf:f<18446744073709551616) (b:Bool) (hb:dC f=b):ae Tryz.prog 53 [.int .u64 f] (.p (.bool b)) []:=by
 refine aW Tryz.func53 ?_
 refine ai.uc f rfl rfl hf ?_
 unfold dC at hb
 cases b with
 |true=>refine ao.yes (decide_eq_true (by have:=of_decide_eq_true hb;omega)) ?_;exact ab.pure (.tf _)
 |false=>refine ao.no (decide_eq_false (by have:=of_decide_eq_false hb;omega)) ?_;exact ab.pure (.tf _)
theorem cV (f:Nat) (hf:f<18446744073709551616) (b:Bool) (hb:isInf f=b):ae Tryz.prog 54 [.int .u64 f] (.p (.bool b)) []:=by
 refine aW Tryz.func54 ?_
 refine ai.uc f rfl rfl hf ?_
 unfold isInf at hb
 cases b with
 |true=>refine ao.yes (jx (by have:=of_decide_eq_true hb;omega)) ?_;exact ab.pure (.tf _)
 |false=>refine ao.no (iO (by have:=of_decide_eq_false hb;omega)) ?_;exact ab.pure (.tf _)
theorem EG (f:Nat) (hf:f<18446744073709551616) (b:Bool) (hb:m4 f=b):ae Tryz.prog 149 [.int .u64 f] (.p (.bool b)) []:=by
 refine aW Tryz.func149 ?_
 refine ai.uc f rfl rfl hf ?_
 unfold m4 at hb
 cases b with
 |true=>refine ao.yes (jx (by have:=of_decide_eq_true hb;omega)) ?_;exact ab.pure (.tf _)
 |false=>refine ao.no (iO (by have:=of_decide_eq_false hb;omega)) ?_;exact ab.pure (.tf _)
theorem kE (f:Nat) (hf:f<18446744073709551616) (b:Bool) (hb:ik f=b):ae Tryz.prog 111 [.int .u64 f] (.p (.bool b)) []:=by
 refine aW Tryz.func111 ?_
 refine ai.sign f rfl rfl hf ?_
 unfold ik at hb
 cases b with
 |true=>refine ao.yes (BA (by have:=of_decide_eq_true hb;rw[if_pos this];decide)) ?_;exact ab.pure (.tf _)
 |false=>refine ao.no (uQ (by have:=of_decide_eq_false hb;rw[if_neg this];rfl)) ?_;exact ab.pure (.tf _)
theorem cz (c:Nat) (hc:c<9223372036854775808) (neg:Bool):ae Tryz.prog 145 [.int .u64 c,.bool neg] (.p (.int .u64 (sg neg c))) []:=by
 refine aW Tryz.func145 ?_
 cases neg with
 |true=>
  refine gv ?_
  refine ai.or c 9223372036854775808 _ rfl rfl qO qO (KE hc) ?_
  exact ab.pure (.p _ (.int _ _))
 |false=>
  refine fI ?_
  exact ab.pure (.p _ (.int _ _))
theorem yn:ae Tryz.prog 150 [] (.bK [.p (.int .u64 9221120237041090560),.p (.int .i64 16)]) []:=by
 refine aW Tryz.func150 ?_
 exact ab.pure (.bK rfl fun i c d e1 e2=>by
  match i,e1,e2 with
  |0,e1,e2=>cases e1;cases e2;exact .p _ (.int _ _)
  |1,e1,e2=>cases e1;cases e2;exact .p _ (.int _ _))
theorem fV (m:Bool) (a k:Nat) (ha:az a<=274877906944) (hk:k<=1048576):ae Tryz.prog 56 [bF m a,.int .i64 k] (.p (cg (a*2^k))) []:=by
 refine aW Tryz.func56 ?_
 refine aJ.mk Unit (fun _=>([(0,.p (bF m a)),(1,.p (.int .i64 k))],[])) (fun _=>True) (fun _=>0) () [] trivial aY ?_
 intro _ _
 refine bd ?_
 refine aa.pure (BM m a k ha hk) ?_
 exact ab.pure (.p _ (.sl _ _ (aL _)))
theorem K4 (m:Bool) (a k:Nat) (ha:az a<=274877906944) (hk:k<=1048576):ae Tryz.prog 140 [bF m a,.int .i64 k] (.p (cg (a/2^k))) []:=by
 refine aW Tryz.func140 ?_
 refine aJ.mk Unit (fun _=>([(0,.p (bF m a)),(1,.p (.int .i64 k))],[])) (fun _=>True) (fun _=>0) () [] trivial aY ?_
 intro _ _
 refine bd ?_
 refine aa.pure (F7 m a k ha hk) ?_
 exact ab.pure (.p _ (.sl _ _ (aL _)))
abbrev kN (neg:Bool) (m:Nat) (e:Int) (more:Bool):PV:=.agg [.bool neg,cg m,.int .i64 e,.bool more]
theorem fy (neg:Bool) (m:Nat) (e:Int) (more:Bool):ct (kN neg m e more):=.agg _ fun c hc=>by
 simp at hc
 rcases hc with rfl|rfl|rfl|rfl
 ·exact .bool _
 ·exact .sl _ _ (aL _)
 ·exact .int _ _
 ·exact .bool _
theorem mq (f:Nat) (hf:f<18446744073709551616):ae Tryz.prog 55 [.int .u64 f] (.p (kN (ik f) (fq (dQ f)) (eF (dQ f)) false)) []:=by
 refine aW Tryz.func55 ?_
 refine ai.and f 4503599627370495 _ rfl rfl hf qO (O9 f) ?_
 refine GH ?_
 refine ai.and (f/4503599627370496) 2047 _ rfl rfl qO qO (LU _) ?_
 refine ai.bD ((f/4503599627370496%2048:Nat):Int) rfl qO ?_
 by_cases h:0<f/4503599627370496%2048
 ·refine bo ?_
  refine aa.pure (kE f hf _ rfl) ?_
  refine ai.or (f%4503599627370496) 4503599627370496 _ rfl rfl qO qO (Kr qO) ?_
  refine aa.pure (q9 (f%4503599627370496+4503599627370496) qO) ?_
  refine ai.bD (eF (dQ f)) (by rw[eF,dQ,if_neg qO];omega) (by rw[eF,dQ,if_neg qO];omega) ?_
  rw[show f%4503599627370496+4503599627370496=fq (dQ f) by rw[fq,dQ,if_neg qO];omega]
  exact ab.pure (.p _ (fy _ _ _ _))
 ·refine bd ?_
  refine aa.pure (kE f hf _ rfl) ?_
  refine aa.pure (q9 (f%4503599627370496) qO) ?_
  rw[show f%4503599627370496=fq (dQ f) by rw[fq,dQ,if_pos qO];omega,show(-1074:Int)=eF (dQ f) by rw[eF,dQ,if_pos qO]]
  exact ab.pure (.p _ (fy _ _ _ _))
abbrev v5 (sm:Bool) (half:Int):PV:=.agg [.bool sm,.int .i64 half]
theorem hZ (sm:Bool) (half:Int):ct (v5 sm half):=.agg _ fun c hc=>by
 simp at hc
 rcases hc with rfl|rfl
 ·exact .bool _
 ·exact .int _ _
theorem N7 {mode half:Int} {neg sm odd:Bool} (h1:mode≠1) (h2:mode≠2) (h3:mode≠3) (h4:mode≠4):goUp mode neg sm odd half=(decide (0<half)||(decide (half=0)&&odd)):=by
 rw[goUp,if_neg h1,if_neg h2,if_neg h3,if_neg h4]
theorem OB (sm:Bool) (half mode:Int) (neg odd:Bool):ae Tryz.prog 143 [v5 sm half,.int .i64 mode,.bool neg,.bool odd] (.p (.bool (goUp mode neg sm odd half))) []:=by
 refine aW Tryz.func143 ?_
 by_cases h1:mode=1
 ·rw[show goUp mode neg sm odd half=false by rw[goUp,if_pos h1]]
  refine ao.yes (jx h1) ?_
  first|exact ab.pure (.tf _)|exact ab.pure (.p _ (.bool _))
 refine ao.no (iO h1) ?_
 by_cases h2:mode=2
 ·refine ao.yes (jx h2) ?_
  rw[show goUp mode neg sm odd half=(neg&&sm) by rw[goUp,if_neg h1,if_pos h2]]
  cases neg<;>cases sm
  ·refine fI ?_
   first|exact ab.pure (.tf _)|exact ab.pure (.p _ (.bool _))
  ·refine fI ?_
   first|exact ab.pure (.tf _)|exact ab.pure (.p _ (.bool _))
  ·refine gv ?_
   first|exact ab.pure (.tf _)|exact ab.pure (.p _ (.bool _))
  ·refine gv ?_
   first|exact ab.pure (.tf _)|exact ab.pure (.p _ (.bool _))
 refine ao.no (iO h2) ?_
 by_cases h3:mode=3
 ·refine ao.yes (jx h3) ?_
  rw[show goUp mode neg sm odd half=(!neg&&sm) by rw[goUp,if_neg h1,if_neg h2,if_pos h3]]
  cases neg<;>cases sm
  ·refine ir ?_
   first|exact ab.pure (.tf _)|exact ab.pure (.p _ (.bool _))
  ·refine ir ?_
   first|exact ab.pure (.tf _)|exact ab.pure (.p _ (.bool _))
  ·refine cJ ?_
   first|exact ab.pure (.tf _)|exact ab.pure (.p _ (.bool _))
  ·refine cJ ?_
   first|exact ab.pure (.tf _)|exact ab.pure (.p _ (.bool _))
 refine ao.no (iO h3) ?_
 by_cases h4:mode=4
 ·refine ao.yes (jx h4) ?_
  rw[show goUp mode neg sm odd half=decide (0<=half) by rw[goUp,if_neg h1,if_neg h2,if_neg h3,if_pos h4]]
  by_cases h:0<=half
  ·rw[decide_eq_true h]
   refine bo ?_
   first|exact ab.pure (.tf _)|exact ab.pure (.p _ (.bool _))
  ·rw[decide_eq_false h]
   refine bd ?_
   first|exact ab.pure (.tf _)|exact ab.pure (.p _ (.bool _))
 refine ao.no (iO h4) ?_
 rw[N7 h1 h2 h3 h4]
 by_cases h:0<half
 ·rw[decide_eq_true h]
  refine bo ?_
  first|exact ab.pure (.tf _)|exact ab.pure (.p _ (.bool _))
 rw[decide_eq_false h]
 refine bd ?_
 by_cases h0:half=0
 ·rw[decide_eq_true h0]
  refine ao.yes (jx h0) ?_
  cases odd
  ·first|exact ab.pure (.tf _)|exact ab.pure (.p _ (.bool _))
  ·first|exact ab.pure (.tf _)|exact ab.pure (.p _ (.bool _))
 ·rw[decide_eq_false h0]
  refine ao.no (iO h0) ?_
  first|exact ab.pure (.tf _)|exact ab.pure (.p _ (.bool _))
theorem Nl (neg:Bool) (mode:Int):xT neg mode<9223372036854775808:=by unfold xT;split<;>omega
theorem Ez (neg:Bool) (mode:Int):ae Tryz.prog 144 [.bool neg,.int .i64 mode] (.bK [.p (.int .u64 (sg neg (xT neg mode))),.p (.int .i64 5)]) []:=by
 refine aW Tryz.func144 ?_
 by_cases h0:mode<0
 ·refine bo ?_
  rw[show xT neg mode=9218868437227405312 by rw[xT,if_neg qO]]
  refine aK.mk 0 rfl qD ?_
  refine aa.pure (cz 9218868437227405312 qD _) ?_
  exact eT (.p _ (.int _ _)) (.p _ (.int _ _))
 refine bd ?_
 by_cases h5:5<=mode
 ·refine bo ?_
  rw[show xT neg mode=9218868437227405312 by rw[xT,if_neg qO]]
  refine aK.mk 0 rfl qD ?_
  refine aa.pure (cz 9218868437227405312 qD _) ?_
  exact eT (.p _ (.int _ _)) (.p _ (.int _ _))
 refine bd ?_
 rcases(show mode=0\/mode=1\/mode=2\/mode=3\/mode=4 by omega)with h|h|h|h|h
 ·subst h
  cases neg
  ·refine fI ?_
   refine fI ?_
   refine aK.mk 0 rfl qD ?_
   refine aa.pure (cz 9218868437227405312 qD _) ?_
   exact eT (.p _ (.int _ _)) (.p _ (.int _ _))
  ·refine gv ?_
   refine cJ ?_
   refine gv ?_
   refine cJ ?_
   refine aK.mk 0 rfl qD ?_
   refine aa.pure (cz 9218868437227405312 qD _) ?_
   exact eT (.p _ (.int _ _)) (.p _ (.int _ _))
 ·subst h
  cases neg
  ·refine fI ?_
   refine fI ?_
   refine aK.mk 1 rfl qD ?_
   refine aa.pure (cz 9218868437227405311 qD _) ?_
   exact eT (.p _ (.int _ _)) (.p _ (.int _ _))
  ·refine gv ?_
   refine cJ ?_
   refine gv ?_
   refine cJ ?_
   refine aK.mk 1 rfl qD ?_
   refine aa.pure (cz 9218868437227405311 qD _) ?_
   exact eT (.p _ (.int _ _)) (.p _ (.int _ _))
 ·subst h
  cases neg
  ·refine fI ?_
   refine fI ?_
   refine aK.mk 2 rfl qD ?_
   refine aa.pure (cz 9218868437227405311 qD _) ?_
   exact eT (.p _ (.int _ _)) (.p _ (.int _ _))
  ·refine gv ?_
   refine ir ?_
   refine aK.mk 3 rfl qD ?_
   refine aa.pure (cz 9218868437227405312 qD _) ?_
   exact eT (.p _ (.int _ _)) (.p _ (.int _ _))
 ·subst h
  cases neg
  ·refine fI ?_
   refine fI ?_
   refine aK.mk 3 rfl qD ?_
   refine aa.pure (cz 9218868437227405312 qD _) ?_
   exact eT (.p _ (.int _ _)) (.p _ (.int _ _))
  ·refine gv ?_
   refine cJ ?_
   refine gv ?_
   refine ir ?_
   refine aK.mk 2 rfl qD ?_
   refine aa.pure (cz 9218868437227405311 qD _) ?_
   exact eT (.p _ (.int _ _)) (.p _ (.int _ _))
 ·subst h
  cases neg
  ·refine fI ?_
   refine fI ?_
   refine aK.mk 4 rfl qD ?_
   refine aa.pure (cz 9218868437227405312 qD _) ?_
   exact eT (.p _ (.int _ _)) (.p _ (.int _ _))
  ·refine gv ?_
   refine cJ ?_
   refine gv ?_
   refine cJ ?_
   refine aK.mk 4 rfl qD ?_
   refine aa.pure (cz 9218868437227405312 qD _) ?_
   exact ab.pure (.bK rfl fun i c d e1 e2=>by
    match i,e1,e2 with
    |0,e1,e2=>cases e1;cases e2;exact .p _ (.int _ _)
    |1,e1,e2=>cases e1;cases e2;exact .p _ (.int _ _))
theorem IV (m':Bool) (neg:Bool) (m q:Nat) (e k:Int) (more:Bool) (hk:k<=0):ae Tryz.prog 141 [kN neg m e more,bF m' q,.int .i64 k] (.p (v5 more (-1))) []:=by
 refine aW Tryz.func141 ?_
 refine bo ?_
 exact ab.pure (.p _ (hZ _ _))
theorem Ko (m':Bool) (neg:Bool) (m:Nat) (e:Int) (k:Nat) (more:Bool) (hk:0<k) (hm:az m<=137438953472) (hk':k<=1048576):
  ae Tryz.prog 141 [kN neg m e more,bF m' (m/2^k),.int .i64 k] (.p (v5 (decide (m%2^k≠0)||more) (j7 (m%2^k) k more))) []:=by
 refine aW Tryz.func141 ?_
 refine bd ?_
 have hq:az (m/2^k)<=az m:=dz (Nat.div_le_self _ _)
 have hqm:m/2^k*2^k<=m:=Nat.div_mul_le_self _ _
 have hr:m-m/2^k*2^k=m%2^k:=by have:=Nat.div_add_mod m (2^k);rw[Nat.mul_comm]at this;omega
 have hrn:az (m%2^k)<=az m:=dz (Nat.mod_le _ _)
 have hsub:=tY false false m (m/2^k*2^k) qO (by have:=dz hqm;omega)
 rw[if_pos hqm,hr]at hsub
 refine gx ?_
 repeat refine aq ?_
 refine ag (aa.pure (fV m' (m/2^k) k qO hk') af) ?_
 repeat refine aq ?_
 refine ag (aa.aO (hsub) (fun _=>rfl) af) ?_
 repeat refine aq ?_
 refine aa.pure (q9 1 qO) ?_
 refine a5 (k-1) ?_
 refine aa.pure (fV false 1 (k-1) (by have:=fX (n:=1) (k:=1) qD;omega) qO) ?_
 rw[Nat.one_mul]
 have h2n:az (2^(k-1))<=549755813888:=by
  have:bitLen (2^(k-1))<=k:=cj (Nat.pow_lt_pow_right qO qO)
  have:=a9 (2^(k-1))
  omega
 refine aa.pure (lB false false (m%2^k) (2^(k-1)) qO h2n) ?_
 obtain⟨r,hr'⟩:∃r,r=m%2^k:=⟨_,rfl⟩
 rw[<-hr']at hrn⊢
 have hlr:(nl r).length=az r:=rfl
 by_cases hc:cF r (2^(k-1))=0
 ·refine ao.yes (jx hc) ?_
  refine iK.mk (fun h=>?_) (fun h=>?_)
  ·subst h
   rw[show j7 r k true=1 by rw[j7,if_pos ⟨hc,rfl⟩]]
   refine SZ.mk (az r:Int) (by simp[hlr]) ?_
   by_cases h0:r=0
   ·rw[decide_eq_false (show ¬r≠0 from fun h=>h h0),Bool.false_or]
    have:=aw.2 h0
    refine bd ?_
    exact ab.pure (.p _ (hZ _ _))
   ·rw[decide_eq_true h0,Bool.true_or]
    have:=mt aw.1 h0
    refine bo ?_
    exact ab.pure (.p _ (hZ _ _))
  ·subst h
   rw[show j7 r k false=cF r (2^(k-1)) by rw[j7,if_neg qS]]
   refine SZ.mk (az r:Int) (by simp[hlr]) ?_
   by_cases h0:r=0
   ·rw[decide_eq_false (show ¬r≠0 from fun h=>h h0),Bool.false_or]
    have:=aw.2 h0
    refine bd ?_
    exact ab.pure (.p _ (hZ _ _))
   ·rw[decide_eq_true h0,Bool.true_or]
    have:=mt aw.1 h0
    refine bo ?_
    exact ab.pure (.p _ (hZ _ _))
 ·refine ao.no (iO hc) ?_
  rw[show j7 r k more=cF r (2^(k-1)) by rw[j7,if_neg (fun h=>hc h.1)]]
  refine SZ.mk (az r:Int) (by simp[hlr]) ?_
  by_cases h0:r=0
  ·rw[decide_eq_false (show ¬r≠0 from fun h=>h h0),Bool.false_or]
   have:=aw.2 h0
   refine bd ?_
   exact ab.pure (.p _ (hZ _ _))
  ·rw[decide_eq_true h0,Bool.true_or]
   have:=mt aw.1 h0
   refine bo ?_
   exact ab.pure (.p _ (hZ _ _))
theorem oN (a b:Int):(if b>a then b else a)=max a b:=by split<;>omega
abbrev oR (r:Nat×Int):AV:=.bK [.p (.int .u64 (r.1:Int)),.p (.int .i64 r.2)]
theorem HY {neg:Bool} {c:Nat} {sm:Bool} {half mode:Int} (h:9218868437227405312<=yP neg c sm half mode):out neg c sm half mode=(sg neg (xT neg mode),5):=by rw[out,if_pos h]
theorem LG {neg:Bool} {c:Nat} {sm:Bool} {half mode:Int} (h:yP neg c sm half mode<9218868437227405312):out neg c sm half mode=(sg neg (yP neg c sm half mode),if sm then(if c<4503599627370496 then 3 else 1)else 0):=by rw[out,if_neg qO]
set_option maxHeartbeats 2000000 in
theorem Jf {neg:Bool} {m:Nat} {e A:Int} {more:Bool} {mode:Int} {v t c:Nat} {sm:Bool} {half:Int} (hm:m≠0) (hmb:bitLen m<=262144) (he: -262144<=e/\e<=262144) (hA':A=max ((bitLen m:Int)-1+e-52) (-1074))
  (hq:(if A-e<0 then m*2^(e-A).toNat else m/2^(A-e).toNat)=v)
  (hrest:ae Tryz.prog 141 [kN neg m e more,cg (m/2^(max (A-e) 0).toNat),.int .i64 (A-e)] (.p (v5 sm half)) [])
  (ht:A=(t:Int)-1074) (hv:v<9007199254740992) (hvt:4503599627370496<=v\/t=0) (hc:c=v+t*4503599627370496) (hund:(bitLen m:Int)-1+e< -1022↔c<4503599627370496):
  ae Tryz.prog 110 [kN neg m e more,.int .i64 mode] (oR (out neg c sm half mode)) []:=by
 have hnm:=a9 m
 have hbl0:bitLen m≠0:=mt cK.1 hm
 have hpar:v%2=c%2:=qO
 have hup:=OB sm half mode neg
 have hu:yP neg c sm half mode=if goUp mode neg sm (decide (c%2=1)) half then c+1 else c:=rfl
 refine aW Tryz.func110 ?_
 refine gx ?_
 repeat refine aq ?_
 refine ag (aa.pure (oS false m qO) af) ?_
 refine ag (ai.bD ((bitLen m:Int)-1) rfl qO af) ?_
 repeat refine aq ?_
 refine ag (ai.bD ((bitLen m:Int)-1+e) rfl qO af) ?_
 repeat refine aq ?_
 refine ai.bD ((bitLen m:Int)-1+e-52) rfl qO ?_
 refine SZ.mk A ((oN _ _).trans hA'.symm) ?_
 refine ai.bD (A-e) rfl qO ?_
 refine SZ.mk (((max (A-e) 0).toNat:Nat):Int) ((oN _ _).trans qO) ?_
 refine aa.pure (K4 false m (max (A-e) 0).toNat qO qO) ?_
 refine aa.pure (hrest) ?_
 by_cases hk:A-e<0
 case' pos=>
  rw[if_pos hk]at hq
  refine bo ?_
  refine a5 ((e-A).toNat) ?_
  refine aa.pure (fV false m (e-A).toNat qO qO) ?_
  rw[hq]
 case' neg=>
  rw[if_neg hk]at hq
  refine bd ?_
  rw[show(max (A-e) 0).toNat=(A-e).toNat by omega,hq]
 all_goals
  refine aa.aO (Ej false v qO) (fun _=>rfl) ?_
  subst ht
  refine ai.and v 1 _ rfl rfl qO qO (PJ v) ?_
  refine ao.sym ?_
  obtain⟨od,hod⟩:∃od,od=(((v%2:Nat):Int)==1):=⟨_,rfl⟩
  rw[show decide (c%2=1)=od by
   rw[hod]
   by_cases h:v%2=1
   ·rw[decide_eq_true qO,jx qO]
   ·rw[decide_eq_false qO,iO qO]]at hu
  rw[<-hod]
  refine aa.pure (hup od) ?_
  cases hg:goUp mode neg sm od half
  case' true=>
   rw[hg,if_pos rfl]at hu
   refine gv ?_
   obtain⟨w,hw⟩:∃w,w=v+1:=⟨_,rfl⟩
   refine xt w ?_
  case' false=>
   rw[hg,if_neg Bool.false_ne_true]at hu
   refine fI ?_
   obtain⟨w,rfl⟩:∃w,w=v:=⟨_,rfl⟩
  all_goals
   by_cases htop:w=9007199254740992
   case' pos=>
    refine ao.yes (jx qO) ?_
    obtain⟨T,hT⟩:∃T,T=t+1:=⟨_,rfl⟩
    obtain⟨u,hu1⟩:∃u:Nat,u=4503599627370496:=⟨_,rfl⟩
    refine kJ ((T:Int)-1074) ?_
    have hu2:yP neg c sm half mode=u+T*4503599627370496:=qO
   case' neg=>
    refine ao.no (iO qO) ?_
    obtain⟨T,rfl⟩:∃T,T=t:=⟨_,rfl⟩
    obtain⟨u,rfl⟩:∃u,u=w:=⟨_,rfl⟩
    have hu2:yP neg c sm half mode=u+T*4503599627370496:=qO
   all_goals
    by_cases hb:4503599627370496<=u
    case' pos=>
     refine bo ?_
     refine kJ ((T:Int)-1022) ?_
     by_cases hT:2046<=T
     case' pos=>
      refine bo ?_
      rw[HY qO]
      refine aa.aO (Ez neg mode) (fun _=>rfl) ?_
      exact eT (.p _ (.int _ _)) (.p _ (.int _ _))
     refine bd ?_
    case' neg=>first|(exfalso;omega)|refine bd ?_
    all_goals
     rw[LG qO,hu2]
     cases hsm:sm
     case' false=>
      rw[if_neg Bool.false_ne_true]
      refine fI ?_
     case' true=>
      refine gv ?_
      by_cases hund0:(bitLen m:Int)-1+e< -1022
      case' pos=>
       refine bo ?_
       refine ai.bD 3 qD qO ?_
       rw[if_pos rfl,if_pos (hund.1 hund0)]
      case' neg=>
       refine bd ?_
       rw[if_pos rfl,if_neg (mt hund.2 hund0)]
     all_goals
      by_cases hw2:4503599627370496<=u
      case' pos=>
       refine bo ?_
       refine a5 (T+1) ?_
       refine kJ (T:Int) ?_
       refine xt T ?_
       refine DH.mk qD ?_
       refine ai.ed (T*4503599627370496) (by show(T:Int)*4503599627370496=_;omega) qO ?_
       refine xt (u+T*4503599627370496) ?_
       refine aa.pure (cz (u+T*4503599627370496) qO neg) ?_
      case' neg=>
       first
       |(exfalso;omega)
       |rw[show u+T*4503599627370496=u by omega]
        refine bd ?_
        refine aa.pure (cz u qO neg) ?_
      all_goals
       exact eT (.p _ (.int _ _)) (.p _ (.int _ _))
theorem z9 (neg:Bool) (m:Nat) (e:Int) (more:Bool) (mode:Int) {X:Rat} (hm:m≠0) (hmb:bitLen m<=262144) (he: -262144<=e/\e<=262144) (h1:(m:Rat)*p2 e<=X) (h2:X<((m:Rat)+1)*p2 e)
  (hmore:more=decide (X≠(m:Rat)*p2 e)) (hbig:more=true->54<=bitLen m):
  ae Tryz.prog 110 [kN neg m e more,.int .i64 mode] (oR (rJ neg X mode)) []:=by
 have hnm:=a9 m
 have hbl0:bitLen m≠0:=mt cK.1 hm
 obtain⟨A,hA⟩:∃A,A=lk m e:=⟨_,rfl⟩
 have hA':=hA
 rw[lk]at hA'
 obtain⟨v,t,sm,half,hq,hrest,ht,hv,hvt,hcut,hund⟩:∃(v t:Nat) (sm:Bool) (half:Int),(if A-e<0 then m*2^(e-A).toNat else m/2^(A-e).toNat)=v/\
   ae Tryz.prog 141 [kN neg m e more,cg (m/2^(max (A-e) 0).toNat),.int .i64 (A-e)] (.p (v5 sm half)) []/\
   A=(t:Int)-1074/\v<9007199254740992/\(4503599627370496<=v\/t=0)/\Cut X (v+t*4503599627370496) sm half/\((bitLen m:Int)-1+e< -1022↔v+t*4503599627370496<4503599627370496):=by
  rcases Int.lt_or_le e A with h|h
  ·obtain⟨v,t,e1,e2,e3,e4,e5,e6⟩:=GU (k:=(A-e).toNat) hm (by rw[<-hA];exact h) h1 h2 hmore (by rw[hA])
   refine⟨v,t,_,_,?_,?_,by rw[hA];exact e2,e3,e4,e5,e6⟩
   ·rw[if_neg qO];exact e1.symm
   ·have:=Ko false neg m e (A-e).toNat more qO qO qO
    rw[show((A-e).toNat:Int)=A-e by omega]at this
    rw[show(max (A-e) 0).toNat=(A-e).toNat by omega]
    exact this
  ·have hmr:more=false:=by
    cases more with
    |false=>rfl
    |true=>have:=hbig rfl;omega
   have hX:X=(m:Rat)*p2 e:=by rw[hmr]at hmore;exact Classical.not_not.1 (of_decide_eq_false hmore.symm)
   obtain⟨v,t,e1,e2,e3,e4,e5,e6⟩:=Fp hm (by rw[<-hA];exact h)
   rw[<-hX]at e5
   refine⟨v,t,_,_,?_,?_,by rw[hA];exact e2,e3,e4,e5,e6⟩
   ·rcases Int.lt_or_le (A-e) 0 with h3|h3
    ·rw[if_pos h3,e1,hA]
    ·rw[if_neg qO,e1,<-hA,show(A-e).toNat=0 by omega,show(e-A).toNat=0 by omega];simp
   ·have:=IV false neg m (m/2^(max (A-e) 0).toNat) e (A-e) more qO
    rw[hmr]at this⊢
    exact this
 rw[<-hcut.out]
 exact Jf hm hmb he hA' hq hrest ht hv hvt rfl hund
theorem wv (q:Rat):q=(q.num:Rat)/(q.den:Rat):=by
 have:(q.num:Rat)/((q.den:Int):Rat)=q:=by rw[<-Rat.divInt_eq_div];exact Rat.num_divInt_den q
 exact this.symm
theorem tw (q:Rat):(0:Rat)<(q.den:Rat):=by have:=q.den_pos;exact_mod_cast this
theorem rN {z:Int} (h:0<=z):((z.natAbs:Nat):Rat)=(z:Rat):=by
 have:((z.natAbs:Nat):Int)=z:=qO
 have h2:(((z.natAbs:Nat):Int):Rat)=(z:Rat):=by rw[this]
 exact h2
theorem rQ {z:Int} (h:z<=0):((z.natAbs:Nat):Rat)= -(z:Rat):=by
 have:((z.natAbs:Nat):Int)= -z:=qO
 have h2:(((z.natAbs:Nat):Int):Rat)=((-z:Int):Rat):=by rw[this]
 rw[Rat.intCast_neg]at h2
 exact h2
theorem ml {q:Rat}:q.num<0↔q<0:=by rw[<-Int.not_le,Rat.num_nonneg,Rat.not_le]
theorem mD (q:Rat):q.abs=((q.num.natAbs:Nat):Rat)/(q.den:Rat):=by
 rw[Rat.abs]
 split
 ·rename_i h
  rw[rN (Rat.num_nonneg.2 h)]
  exact wv q
 ·rename_i h
  have h2:q.num<0:=ml.2 (Rat.not_le.1 h)
  rw[rQ qO]
  have:=wv q
  have h3:=tw q
  generalize(q.num:Rat)=x at*
  generalize(q.den:Rat)=y at*
  rw[this];grind
theorem K1 {neg:Bool} {n d:Nat}:iW neg n d=if neg then-((n:Rat)/(d:Rat))else(n:Rat)/(d:Rat):=by
 rw[iW,Rat.mkRat_eq_div]
 cases neg with
 |true=>
  rw[cZ,if_pos rfl,if_pos rfl,Rat.intCast_neg]
  show-(n:Rat)/(d:Rat)=_
  grind
 |false=>rfl
theorem Jv {n d:Nat} (hn:n≠0) (hd:d≠0) (e:Int) {k:Nat} (hk:66+bitLen d<=bitLen n+k):
  n*2^k/d≠0/\((n*2^k/d:Nat):Rat)*p2 (e-k)<=(n:Rat)/(d:Rat)*p2 e/\(n:Rat)/(d:Rat)*p2 e<(((n*2^k/d:Nat):Rat)+1)*p2 (e-k)/\
  decide (n*2^k%d≠0)=decide ((n:Rat)/(d:Rat)*p2 e≠((n*2^k/d:Nat):Rat)*p2 (e-k))/\54<=bitLen (n*2^k/d):=by
 obtain⟨m,hm⟩:∃m,m=n*2^k/d:=⟨_,rfl⟩
 obtain⟨r,hr⟩:∃r,r=n*2^k%d:=⟨_,rfl⟩
 have hdm:d*m+r=n*2^k:=by rw[hm,hr];exact Nat.div_add_mod _ _
 have hrd:r<d:=by rw[hr];exact Nat.mod_lt _ qO
 have hbn:=kY hn
 have hbd:=cN d
 have hbn0:bitLen n≠0:=mt cK.1 hn
 have hbig:2^65<=m:=by
  rw[hm,Nat.le_div_iff_mul_le qO]
  have h1:2^(bitLen n-1)*2^k<=n*2^k:=Nat.mul_le_mul_right _ hbn
  have h2:2^(65+bitLen d)<=2^(bitLen n-1)*2^k:=by rw[<-Nat.pow_add];exact Nat.pow_le_pow_right qO qO
  have h3:2^65*d<=2^65*2^bitLen d:=Nat.mul_le_mul_left _ qO
  rw[Nat.pow_add]at h2
  omega
 rw[<-hm,<-hr]
 have hm0:m≠0:=by
  have:0<2^65:=qD
  omega
 have hb54:54<=bitLen m:=by
  rcases Nat.lt_or_ge (bitLen m) 54 with h|h
  ·have h1:=cN m
   have h2:2^bitLen m<=2^65:=Nat.pow_le_pow_right qO qO
   omega
  ·exact h
 have hdq:(0:Rat)<(d:Rat):=by
  have:0<d:=qO
  exact_mod_cast this
 have hu:=lN (e-k)
 have hpe:p2 e=p2 (e-k)*((2^k:Nat):Rat):=by have:=fz (e-k) k;rwa[show e-(k:Int)+k=e by omega]at this
 have hq:(n:Rat)*((2^k:Nat):Rat)=(d:Rat)*(m:Rat)+(r:Rat):=by rw[<-Rat.natCast_mul,<-hdm,Rat.natCast_add,Rat.natCast_mul]
 obtain⟨s,hs⟩:∃s:Rat,s=(r:Rat)/(d:Rat):=⟨_,rfl⟩
 have hs1:s*(d:Rat)=(r:Rat):=by rw[hs];exact Rat.div_mul_cancel (by grind)
 have hs0:0<=s:=by
  rcases Rat.le_total (a:=0) (b:=s)with h|h
  ·exact h
  ·have hr0:(0:Rat)<=(r:Rat):=by exact_mod_cast Nat.zero_le r
   have:=Rat.mul_nonneg (show 0<= -s by grind) (show 0<=(d:Rat) by grind)
   by_cases h2:s=0
   ·rw[h2];exact Rat.le_refl
   ·have:=Rat.mul_pos (show 0< -s by grind) hdq
    grind
 have hs2:s<1:=by
  have hrq:(r:Rat)<(d:Rat):=Lr.2 hrd
  by_cases h:s<1
  ·exact h
  ·have:=lV (Rat.not_lt.1 h) hdq
   grind
 have hX:(n:Rat)/(d:Rat)*p2 e=((m:Rat)+s)*p2 (e-k):=by
  have h1:(n:Rat)/(d:Rat)*((2^k:Nat):Rat)=(m:Rat)+s:=by
   have h2:(n:Rat)/(d:Rat)*(d:Rat)=(n:Rat):=Rat.div_mul_cancel (by grind)
   generalize(n:Rat)/(d:Rat)=y at h2⊢
   generalize((2^k:Nat):Rat)=z at hq⊢
   have:(y*z-((m:Rat)+s))*(d:Rat)=0:=by rw[<-h2]at hq;grind
   rcases Rat.mul_eq_zero.1 this with h|h
   ·grind
   ·grind
  rw[hpe,<-h1];grind
 rw[hX]
 refine⟨hm0,?_,?_,?_,hb54⟩
 ·have:=Rat.mul_nonneg hs0 (show 0<=p2 (e-k) by grind)
  grind
 ·have:=Gh hs2 hu
  grind
 ·by_cases h:r=0
  ·subst h
   have:s=0:=by rw[hs];simp;grind
   rw[this,decide_eq_false qS,decide_eq_false (by simp;grind)]
  ·rw[decide_eq_true h]
   symm
   refine decide_eq_true ?_
   intro h2
   have hr0:(0:Rat)<(r:Rat):=by
    have:0<r:=qO
    exact_mod_cast this
   have hsp:0<s:=by
    rcases Rat.le_iff_lt_or_eq.1 hs0 with h|h
    ·exact h
    ·rw[<-h]at hs1;grind
   have:=qN hsp hu
   grind
theorem Iq (neg:Bool) (m m':Bool) (n d:Nat) (e:Int) (hd:d≠0) (hn:bitLen n<=131072) (hdb:bitLen d<=65536) (he: -262144<=e/\e<=262144) {k:Nat} (hk:k=(66+(bitLen d:Int)-bitLen n).toNat):
  ae Tryz.prog 109 [.bool neg,bF m n,bF m' d,.int .i64 e] (.p (kN neg (n*2^k/d) (e-k) (decide (n*2^k%d≠0)))) []:=by
 refine aW Tryz.func109 ?_
 have hnn:=a9 n
 have hnd:=a9 d
 have hs:=pT n k
 refine aa.pure (oS m' d qO) ?_
 refine ai.bD (66+(bitLen d:Int)) rfl qO ?_
 refine aa.pure (oS m n qO) ?_
 refine ai.bD (66+(bitLen d:Int)-bitLen n) rfl qO ?_
 refine SZ.mk (k:Int) ((oN _ _).trans qO) ?_
 refine aa.pure (fV m n k qO qO) ?_
 have hdiv:=wT false m' (n*2^k) d qO qO
 rw[if_neg hd]at hdiv
 refine aa.aO (hdiv) (fun _=>rfl) ?_
 refine ai.bD (e-k) rfl qO ?_
 have hlr:(nl (n*2^k%d)).length=az (n*2^k%d):=rfl
 refine SZ.mk (az (n*2^k%d):Int) (by simp[hlr]) ?_
 by_cases h0:n*2^k%d=0
 ·have:=aw.2 h0
  rw[decide_eq_false (show ¬n*2^k%d≠0 from fun h=>h h0)]
  refine bd ?_
  exact ab.pure (.p _ (fy _ _ _ _))
 ·have:=mt aw.1 h0
  rw[decide_eq_true h0]
  refine bo ?_
  exact ab.pure (.p _ (fy _ _ _ _))
theorem EI {n d k:Nat} (hd:d≠0):bitLen (n*2^k/d)<=bitLen n+k:=cj (by
 rw[Nat.div_lt_iff_lt_mul qO]
 have h1:n*2^k<2^bitLen n*2^k:=Nat.mul_lt_mul_of_pos_right (cN n) (Nat.two_pow_pos k)
 rw[<-Nat.pow_add]at h1
 exact Nat.lt_of_lt_of_le h1 (Nat.le_mul_of_pos_right _ qO))
theorem Ba (neg:Bool) (n d:Nat) (e mode:Int) (hn0:n≠0) (hd:d≠0) (hn:bitLen n<=65536) (hdb:bitLen d<=65536) (he: -131072<=e/\e<=131072) {k:Nat} (hk:k=(66+(bitLen d:Int)-bitLen n).toNat):
  ae Tryz.prog 110 [kN neg (n*2^k/d) (e-k) (decide (n*2^k%d≠0)),.int .i64 mode] (oR (rJ neg ((n:Rat)/(d:Rat)*p2 e) mode)) []:=by
 obtain⟨h1,h2,h3,h4,h5⟩:=Jv (k:=k) hn0 hd e qO
 have hb:=EI (n:=n) (k:=k) hd
 exact z9 neg _ _ _ mode h1 qO qO h2 h3 h4 fun _=>h5
noncomputable def rS (q:Rat) (mode:Int):Nat×Int:=rJ (decide (q.num<0)) q.abs mode
noncomputable def Bv (q:Rat) (mode:Int):Nat×Int:=if q=0 then(0,0)else rS q mode
theorem xP (q:Rat) (mode:Int) {k:Nat} (hq:Bz q k) (hk:k<=65536):ae Tryz.prog 52 [aB q,.int .i64 mode] (oR (Bv q mode)) []:=by
 refine aW Tryz.func52 ?_
 have hn:=hq.1
 have hd:=hq.2
 have hlr:(nl q.num.natAbs).length=az q.num.natAbs:=rfl
 refine SZ.mk (az q.num.natAbs:Int) (by simp[hlr]) ?_
 by_cases h0:q.num.natAbs=0
 ·have:=aw.2 h0
  have hq0:q=0:=Rat.num_eq_zero.1 qO
  rw[Bv,if_pos hq0]
  refine ao.yes (jx qO) ?_
  exact eT (.p _ (.int _ _)) (.p _ (.int _ _))
 ·have:=mt aw.1 h0
  have hq0:q≠0:=fun h=>h0 (by rw[h];rfl)
  rw[Bv,if_neg hq0]
  refine ao.no (iO qO) ?_
  have hld:(nl q.den).length=az q.den:=rfl
  have hdn:=mt aw.1 q.den_nz
  refine SZ.mk (az q.den:Int) (by simp[hld]) ?_
  refine ao.no (iO qO) ?_
  refine aa.pure (Iq _ false false q.num.natAbs q.den 0 q.den_nz qO qO qO rfl) ?_
  have:=Ba (decide (q.num<0)) q.num.natAbs q.den 0 mode h0 q.den_nz qO qO qO rfl
  rw[D4,Rat.mul_one,<-mD]at this
  refine aa.aO (this) (fun _=>rfl) ?_
  exact eT (.p _ (.int _ _)) (.p _ (.int _ _))
def iM (f:Nat):Rat:=if ik f then-b7 (dQ f)else b7 (dQ f)
theorem Kh (m:Nat) (e:Int):((m*2^e.toNat:Nat):Rat)/((2^(-e).toNat:Nat):Rat)=(m:Rat)*p2 e:=by
 rcases Int.lt_or_le e 0 with h|h
 ·obtain⟨k,hk⟩:∃k:Nat,e= -(k:Int):=⟨(-e).toNat,qO⟩
  rw[hk,uM,show(-(k:Int)).toNat=0 by omega,show(-(-(k:Int))).toNat=k by omega,Nat.pow_zero,Nat.mul_one]
  have:=dE k
  generalize((2^k:Nat):Rat)=x at*
  grind
 ·obtain⟨k,hk⟩:∃k:Nat,e=(k:Int):=⟨e.toNat,qO⟩
  rw[hk,jz,show((k:Int)).toNat=k by omega,show(-(k:Int)).toNat=0 by omega,Nat.pow_zero,Rat.natCast_mul]
  grind
theorem Cz (f:Nat):iW (ik f) (fq (dQ f)*2^(eF (dQ f)).toNat) (2^(-eF (dQ f)).toNat)=iM f:=by
 rw[K1,Kh];rfl
theorem lK (f:Nat):dQ f<9223372036854775808:=Nat.mod_lt _ qD
theorem mO {c:Nat} (h:c<9223372036854775808):eF c<=972:=by unfold eF;split<;>omega
theorem LF (c:Nat):fq c<9007199254740992:=by unfold fq;split<;>omega
theorem sY (a k:Nat):bitLen (a*2^k)<=bitLen a+k:=cj (by
 rw[Nat.pow_add];exact Nat.mul_lt_mul_of_pos_right (cN a) (Nat.two_pow_pos k))
theorem HJ (k:Nat):bitLen (2^k)<=k+1:=cj (Nat.pow_lt_pow_right qO qO)
theorem jb (c:Nat):bitLen (fq c)<=53:=cj (LF c)
theorem Dv (f:Nat):bitLen (fq (dQ f)*2^(eF (dQ f)).toNat)<=1030:=by
 have h1:=sY (fq (dQ f)) (eF (dQ f)).toNat
 have h2:=jb (dQ f)
 have h3:=mO (lK f)
 omega
theorem DZ (f:Nat):bitLen (2^(-eF (dQ f)).toNat)<=1080:=by
 have h1:=HJ (-eF (dQ f)).toNat
 have h3:=kS (dQ f)
 omega
theorem wL (f:Nat):Bz (iM f) 1080:=by
 rw[<-Cz]
 refine Bz.iW (Nat.ne_of_gt (Nat.two_pow_pos _)) ?_ (DZ f)
 have:=Dv f
 omega
theorem pR (f:Nat) (hf:f<18446744073709551616) (h1:dC f=false) (h2:isInf f=false):ae Tryz.prog 18 [.int .u64 f] (.bK [.p (aB (iM f)),.p (.int .i64 0)]) []:=by
 refine aW Tryz.func18 ?_
 refine aa.pure (mj f hf _ h1) ?_
 refine fI ?_
 refine aa.pure (cV f hf _ h2) ?_
 refine fI ?_
 refine aa.pure (mq f hf) ?_
 have e1:=mO (lK f)
 have e2:=kS (dQ f)
 have b1:=Dv f
 have b2:=DZ f
 have n1:=a9 (fq (dQ f)*2^(eF (dQ f)).toNat)
 have n2:=a9 (2^(-eF (dQ f)).toNat)
 have n3:=a9 (fq (dQ f))
 have n4:=jb (dQ f)
 have n5:=fX (n:=1) (k:=1) qD
 refine cS ?_
 repeat refine aq ?_
 refine ag (SZ.mk (((eF (dQ f)).toNat:Nat):Int) ((oN _ _).trans qO) af) ?_
 refine ag (aa.pure (fV false (fq (dQ f)) (eF (dQ f)).toNat qO qO) af) ?_
 refine ag (aa.pure (q9 1 qO) af) ?_
 repeat refine aq ?_
 refine ag (kJ (-eF (dQ f)) af) ?_
 refine ag (SZ.mk (((-eF (dQ f)).toNat:Nat):Int) ((oN _ _).trans qO) af) ?_
 refine ag (aa.pure (fV false 1 (-eF (dQ f)).toNat qO qO) af) ?_
 rw[Nat.one_mul]
 refine ag (aa.aO (xd _ false false _ _ (Nat.ne_of_gt (Nat.two_pow_pos _)) qO qO) (fun _=>rfl) af) ?_
 repeat refine aq ?_
 refine cX ?_
 rw[Cz]
 exact eT (.p _ (aG _ _ _)) (.p _ (.int _ _))
theorem qL:ct (.agg [.bool false,.sl false 1 [],.sl false 1 []]):=.agg _ fun c hc=>by
 simp at hc
 rcases hc with rfl|rfl
 ·exact .bool _
 ·exact .sl _ _ (fun e he=>absurd he List.not_mem_nil)
theorem Hr (f:Nat) (hf:f<18446744073709551616) (h1:dC f=true\/isInf f=true):ae Tryz.prog 18 [.int .u64 f] (.bK [.p (.agg [.bool false,.sl false 1 [],.sl false 1 []]),.p (.int .i64 10)]) []:=by
 refine aW Tryz.func18 ?_
 cases h:dC f with
 |true=>
  refine aa.pure (mj f hf _ h) ?_
  refine gv ?_
  exact eT (.p _ qL) (.p _ (.int _ _))
 |false=>
  rw[h]at h1
  have h2:isInf f=true:=by simpa using h1
  refine aa.pure (mj f hf _ h) ?_
  refine fI ?_
  refine aa.pure (cV f hf _ h2) ?_
  refine gv ?_
  exact ab.pure (.bK rfl fun i c d e1 e2=>by
   match i,e1,e2 with
   |0,e1,e2=>cases e1;cases e2;exact .p _ qL
   |1,e1,e2=>cases e1;cases e2;exact .p _ (.int _ _))
def pl (f:Nat):Int:=if ik f then-(dQ f:Int)else f
def sK (a b:Int):Int:=if a<b then-1 else if b<a then 1 else 0
theorem Hi {f:Nat} (h:ik f=true):9223372036854775808<=f:=of_decide_eq_true h
theorem vw {f:Nat} (h:ik f=false):f<9223372036854775808:=by have:=of_decide_eq_false h;omega
theorem yZ (f:Nat) (hf:f<18446744073709551616):ae Tryz.prog 155 [.int .u64 f] (.p (.int .i64 (pl f))) []:=by
 refine aW Tryz.func155 ?_
 cases h:ik f with
 |true=>
  refine aa.pure (kE f hf _ h) ?_
  refine gv ?_
  refine ai.uc f rfl rfl hf ?_
  have:=lK f
  refine ai.bD (dQ f:Int) rfl qO ?_
  refine kJ (-(dQ f:Int)) ?_
  rw[pl,h,if_pos rfl]
  exact ab.pure (.p _ (.int _ _))
 |false=>
  refine aa.pure (kE f hf _ h) ?_
  refine fI ?_
  have:=vw h
  refine ai.bD (f:Int) rfl qO ?_
  rw[pl,h,if_neg Bool.false_ne_true]
  exact ab.pure (.p _ (.int _ _))
def lU (a b:Nat):Int×Bool:=if dC a||dC b then(0,false)else(sK (pl a) (pl b),true)
abbrev O1 (r:Int×Bool):AV:=.bK [.p (.int .i64 r.1),.p (.bool r.2)]
theorem AB (a b:Nat) (ha:a<18446744073709551616) (hb:b<18446744073709551616):ae Tryz.prog 121 [.int .u64 a,.int .u64 b] (O1 (lU a b)) []:=by
 refine aW Tryz.func121 ?_
 unfold lU
 cases h:dC a with
 |true=>
  refine aa.pure (mj a ha _ h) ?_
  refine gv ?_
  exact eT (.p _ (.int _ _)) (.tf _)
 |false=>
  refine aa.pure (mj a ha _ h) ?_
  refine fI ?_
  cases h2:dC b with
  |true=>
   refine aa.pure (mj b hb _ h2) ?_
   refine gv ?_
   exact eT (.p _ (.int _ _)) (.tf _)
  |false=>
   refine aa.pure (mj b hb _ h2) ?_
   refine fI ?_
   refine aa.pure (yZ a ha) ?_
   refine aa.pure (yZ b hb) ?_
   rw[if_neg qS,sK]
   by_cases h3:pl a<pl b
   ·rw[if_pos h3]
    refine bo ?_
    exact eT (.p _ (.int _ _)) (.tf _)
   ·rw[if_neg h3]
    refine bd ?_
    by_cases h4:pl b<pl a
    ·rw[if_pos h4]
     refine bo ?_
     exact eT (.p _ (.int _ _)) (.tf _)
    ·rw[if_neg h4]
     refine bd ?_
     exact ab.pure (.bK rfl fun i c d e1 e2=>by
      match i,e1,e2 with
      |0,e1,e2=>cases e1;cases e2;exact .p _ (.int _ _)
      |1,e1,e2=>cases e1;cases e2;exact .tf _)
theorem GK:nl 1=[1]:=by rw[jX qO,show 1/4294967296=0 by decide,dH]
theorem ka {H:Hp} {h:Nat} {T:TypeId} (hB:look H h= .vec T 1 [.int .u32 1]):Conv [] H (.vec h 1 0 1) (.p (cg 1)):=by
 show Conv _ _ _ (.p (.sl false 1 (bV (nl 1))))
 rw[GK]
 exact xu (l:=[1]) hB rfl
theorem Hx:ae Tryz.prog 237 [] (.p (aB 0)) []:=by
 refine aW Tryz.func237 ?_
 refine ab.pure ?_
 rw[e8]
 exact iY ⟨rfl,rfl,rfl⟩ (.p _ (.bool _)) (.p _ (.sl _ _ (fun e he=>by simp at he))) (ka rfl)
theorem GB (p q:Rat) (hq0:q≠0) {j k:Nat} (hp:Bz p j) (hq:Bz q k) (h:j+k<=137438953472):ae Tryz.prog 228 [aB p,aB q] (.p (aB (p/q))) []:=by
 refine aW Tryz.func228 ?_
 refine aa.aO (iS p q hq0 hp.sz hq.sz h) (fun _=>rfl) ?_
 exact ab.pure (.p _ (aG _ _ _))
def aH (N:Nat) (g:Nat->Rat):List Rat:=(List.range N).map g
theorem bT {N:Nat} {g:Nat->Rat}:(aH N g).length=N:=by simp[aH]
theorem fh {N:Nat} {g:Nat->Rat} {i:Nat} (h:i<N):(aH N g).getD i 0=g i:=by simp[aH,List.getD,h]
theorem Kj {N:Nat} {g:Nat->Rat} {i:Nat} {q:Rat}:(aH N g).set i q=aH N (a8 g i q):=by
 apply List.ext_getElem (by simp[aH])
 intro k h1 h2
 simp only[List.getElem_set,aH,List.getElem_map,List.getElem_range,a8]
 by_cases e:i=k
 ·rw[if_pos e,if_pos e.symm]
 ·rw[if_neg e,if_neg (Ne.symm e)]
theorem d8 {N:Nat} {g h:Nat->Rat} (e:∀i,i<N->g i=h i):aH N g=aH N h:=List.map_congr_left fun i hi=>e i (by simpa using hi)
theorem Bl.aH {N:Nat} {g:Nat->Rat} {k:Nat} (h:∀i,i<N->Bz (g i) k):Bl (aH N g) k:=fun i hi=>by
 rw[bT]at hi
 rw[fh hi];exact h i hi
theorem aF.rf {N:Nat} {g:Nat->Rat} {i:Int} {K:Nat->PV->Prop} (j:Nat) (hi:i=j) (hj:j<N) (hk:K j (aB (g j))):aF (a7 (aH N g)) i K:=by
 refine .rb j hi (by rw[bT];exact hj) ?_
 rw[fh hj];exact hk
theorem dp.rf {N:Nat} {g:Nat->Rat} {i:Nat} {q:Rat} {K:List PV->Prop} (hk:K (a7 (aH N (a8 g i q)))):dp ((a7 (aH N g)).set i (aB q)) K:=
 .mk _ (by rw[<-Kj,a7,a7,List.map_set]) hk
theorem cm.rf {N:Nat} {g:Nat->Rat} {i:Nat} {K:Prop} (h:i<N) (hk:K):cm i (a7 (aH N g)).length K:=.mk (by simpa[aH]using h) hk
theorem EL {H:Hp} {h:Nat} {l:List Rat} {T:TypeId} {n:Nat} (hB:look H h= .vec T 3 (a7 l)) (hn:n=l.length):Conv [] H (.vec h 3 0 n) (.p (ar false l)):=
 .JE hB qS (by simp[hn]) (au l) (by rw[List.drop_zero];exact List.take_of_length_le (by simp[hn]))
theorem cy.rat {n:Int} {K:Nat->Prop} (j:Nat) (hi:n=j) (h:j<=1099511627776) (hk:K j):cy n 56 K:=.mk j hi qO qO hk
theorem aa.fresh {P:Program} {wr:Bool} {f:FuncId} {L:Hd->aA} {base:Nat} {K:AV->List (Hd×aA)->Prop} {pvs:List PV} {T:TypeId} {W off len:Nat} {es:List PV} (hc:ae P f pvs (.vec 0 W off len) [.vec T W es])
  (hk:K (.vec base W off len) [(base,.vec T W es)]) {raw:List AV}:aa P wr f raw (pvs.map .p) L base K:=
 .mk [] (pvs.map .p) (.vec 0 W off len) [] [.vec T W es] (fun _=>rfl) .nil (fun _ h=>by simp at h) (by rw[AV.bP,List.map_map];exact List.map_congr_left fun _ _=>rfl) rfl (fun i h B e=>by simp at e) (fun _ h=>by simp at h) (fun _ h=>by simp at h) (Nat.zero_le _) (fun B h=>by simp at h;subst h;exact fun e=>by cases e)
  (fun a ha k hk=>by obtain⟨v,_,rfl⟩:=List.mem_map.1 ha;simp only[AV.aT]at hk) hc hk
theorem fE {H:Hp} {h:Nat} {B:aA} (hB:look H h=B) (hl:B.live):H.getD h .free=B:=by
 have hB:(H.getD h .free).top=B:=hB
 generalize H.getD h .free=C at hB
 cases C<;>first|exact hB|(subst hB;exact hl.elim)
theorem ab.new {av:AV} {H:Hp} {T:TypeId} {W off len:Nat} {es:List PV} (h:Nat) (hav:av= .vec h W off len) (h0:look H h= .vec T W es) (hp:∀e∈es,∀c∈e.cells,ct c):ab [] av H (.vec 0 W off len) [.vec T W es]:=
 .mk [h] rfl qS rfl (Nat.zero_le _) (fun h hl=>by rw[bI]at hl;exact hl.elim) (fun h hl=>absurd (bI h) hl) (fun i h' B e1 e2=>by
  match i,e1,e2 with
  |0,e1,e2=>cases e1;cases e2;rw[fE h0 trivial];exact .vec hp) (by rw[hav];exact .vec rfl)
theorem Ei (m:Bool) (l:List Rat) (i JS:Nat) (hi:i<l.length) (hf:JS<=i) {k:Nat} (hl:Bl l k) (hk:k+k+1<=137438953472) (hn:l.length<=1099511627776):ae Tryz.prog 229 [ar m l,.int .i64 i,.int .i64 JS] (.p (aB (l.getD i 0-l.getD (i-JS) 0))) []:=by
 refine aW Tryz.func229 ?_
 refine gx ?_
 repeat refine aq ?_
 refine ag (aF.rb i rfl hi af) ?_
 repeat refine aq ?_
 refine ag (a5 (i-JS) af) ?_
 refine ag (aF.rb (i-JS) rfl qO af) ?_
 repeat refine aq ?_
 refine ag (aa.pure (dh _ _ (hl i hi).sz (hl (i-JS) qO).sz hk) af) ?_
 repeat refine aq ?_
 exact ab.pure (.p _ (aG _ _ _))
abbrev cU:PV:=.agg [.bool false,.sl false 1 [],.sl false 1 []]
theorem y8 {α:Type} (l:List α) (z v:α) {n i:Nat} (hi:i<n) (hl:l.length=i):(l++List.replicate (n-i) z).set i v=(l++[v])++List.replicate (n-(i+1)) z:=by
 subst hl
 rw[List.set_append_right _ _ (Nat.le_refl _),Nat.sub_self]
 obtain⟨d,hd⟩:∃d,n-l.length=d+1:=⟨n-l.length-1,qO⟩
 rw[hd,List.replicate_succ,List.set_cons_zero,show n-(l.length+1)=d by omega,List.append_assoc]
 rfl
theorem qQ (l:List Rat) {i:Nat} (h:i<l.length):l.take (i+1)=l.take i++[l.getD i 0]:=by
 rw[List.take_add_one];simp[List.getD,List.getElem?_eq_getElem h]
theorem cB:Bz 0 1:=⟨qD,qD⟩
theorem dv:Bz 1 1:=⟨qD,qD⟩
theorem J7 (m:Bool) (l:List Rat) {k:Nat} (hl:Bl l k) (hk:k<=1048576) (hn:l.length<=1099511627776):ae Tryz.prog 227 [ar m l] (.vec 0 3 0 l.length) [.vec 31 3 (a7 l)]:=by
 refine aW Tryz.func227 ?_
 refine SZ.mk (l.length:Int) qS ?_
 refine SZ.mk (l.length:Int) rfl ?_
 refine cm.mk qS ?_
 refine cy.rat l.length rfl hn ?_
 refine SZ.mk (l.length:Int) qS ?_
 refine aJ.mk Nat (fun i=>([(3,.vec 0 3 0 l.length),(9,.p (ar m l)),(10,.p (.int .i64 l.length)),(11,.p (.int .i64 i))],[.vec 31 3 (a7 (l.take i)++List.replicate (l.length-i) cU)]))
  (fun i=>i<=l.length) (fun i=>l.length-i) 0 [0] (Nat.zero_le _) aY ?_
 intro i (h1:i<=l.length)
 by_cases hi:i<l.length
 ·refine bo ?_
  refine aF.rb i rfl hi ?_
  refine gx ?_
  repeat refine aq ?_
  refine ag (aa.pure (Hx) af) ?_
  refine ag (aa.pure (eh _ _ (hl i hi).sz cB.sz qO) af) ?_
  rw[Rat.add_zero]
  refine ag (aK.mk i rfl hi af) ?_
  refine ag (cm.mk (by simp;omega)<|dp.mk _ (y8 _ _ _ hi (by simp;omega)) af) ?_
  refine a5 (i+1) ?_
  refine⟨i+1,[0],hi,cA,aY ⟨?_,trivial⟩⟩
  show aA.vec _ _ _=aA.vec _ _ _
  rw[qQ l hi,a7,a7,List.map_append]
  rfl
 ·refine bd ?_
  have:i=l.length:=qO
  subst this
  refine ab.new 0 rfl ?_ (au l)
  simp[look]
theorem La (m:Bool) (a b:Rat) {k:Nat} (ha:Bz a k) (hb:Bz b k) (hk:k+k<=1048576):ae Tryz.prog 236 [aB b,.f5 m (aB a)] (.p (.bool (decide (a=b)))) []:=by
 refine aW Tryz.func236 ?_
 refine aa.pure (sQ a b ha.sz hb.sz qO) ?_
 exact ab.pure (.p _ (.bool _))
def xh (a:Rat):List Rat->Nat->Int
 |[],_=> -1
 |v::l,i=>if a=v then(i:Int)else xh a l (i+1)
theorem Jw (a:Rat):∀(l:List Rat) (i:Nat),(0<=xh a l i)↔a∈l:=by
 intro l
 induction l with
 |nil=>intro i;simp[xh]
 |cons v l ih=>
  intro i
  simp only[xh,List.mem_cons]
  split
  ·rename_i h;simp[h]
  ·rename_i h;rw[ih];simp[h]
theorem drop_cons (l:List Rat) {i:Nat} (h:i<l.length):l.drop i=l.getD i 0::l.drop (i+1):=by
 rw[List.drop_eq_getElem_cons h];simp[List.getD,h]
theorem En (m m':Bool) (l:List Rat) (a:Rat) {k:Nat} (hl:Bl l k) (ha:Bz a k) (hk:k+k<=1048576) (hn:l.length<=1099511627776):
  ae Tryz.prog 242 [ar m l,.fn 236 [.f5 m' (aB a)]] (.p (.int .i64 (xh a l 0))) []:=by
 refine aW Tryz.func242 ?_
 refine SZ.mk (l.length:Int) qS ?_
 refine aJ.mk Nat (fun i=>([(0,.p (ar m l)),(1,.p (.fn 236 [.f5 m' (aB a)])),(7,.p (.int .i64 l.length)),(8,.p (.int .i64 i))],[]))
  (fun i=>i<=l.length/\xh a l 0=xh a (l.drop i) i) (fun i=>l.length-i) 0 [] ⟨Nat.zero_le _,rfl⟩ aY ?_
 intro i ⟨h1,h2⟩
 by_cases hi:i<l.length
 ·refine bo ?_
  refine aF.rb i rfl hi ?_
  refine aa.pure (pvs:=[aB (l.getD i 0),.f5 m' (aB a)]) (La m' a (l.getD i 0) ha (hl i hi) hk) ?_
  rw[drop_cons l hi,xh]at h2
  refine iK.mk (fun hb=>?_) (fun hb=>?_)
  ·rw[h2,if_pos (of_decide_eq_true hb)]
   exact ab.pure (.p _ (.int _ _))
  ·rw[if_neg (of_decide_eq_false hb)]at h2
   refine a5 (i+1) ?_
   exact⟨i+1,[],⟨hi,h2⟩,cA,aY⟩
 ·refine bd ?_
  have:i=l.length:=qO
  subst this
  rw[h2,List.drop_length,xh]
  exact ab.pure (.p _ (.int _ _))
theorem xJ (m m':Bool) (l:List Rat) (a:Rat) {k:Nat} (hl:Bl l k) (ha:Bz a k) (hk:k+k<=1048576) (hn:l.length<=1099511627776):
  ae Tryz.prog 235 [ar m l,.fn 236 [.f5 m' (aB a)]] (.p (.bool (decide (a∈l)))) []:=by
 refine aW Tryz.func235 ?_
 refine aa.pure (En m m' l a hl ha hk hn) ?_
 have:=Jw a l 0
 by_cases h:a∈l
 ·refine ao.yes (decide_eq_true (this.2 h)) ?_
  rw[decide_eq_true h]
  exact ab.pure (.tf true)
 ·refine ao.no (decide_eq_false (mt this.1 h)) ?_
  rw[decide_eq_false h]
  exact ab.pure (.tf false)
theorem Bl.take {l:List Rat} {k:Nat} (h:Bl l k) (n:Nat):Bl (l.take n) k:=fun i hi=>by
 rw[List.length_take]at hi
 have:(l.take n).getD i 0=l.getD i 0:=by simp[List.getD,show i<n by omega]
 rw[this];exact h i qO
def fx (x f:List Rat):Int:=if x.length=0\/x.length≠f.length then 3 else if x.Nodup then 0 else 9
theorem yv (m m':Bool) (x f:List Rat) {k:Nat} (hx:Bl x k) (hk:k+k<=1048576) (hn:x.length<=1099511627776):
  ae Tryz.prog 226 [ar m x,ar m' f] (.p (.int .i64 (fx x f))) []:=by
 refine aW Tryz.func226 ?_
 refine SZ.mk (x.length:Int) qS ?_
 by_cases h0:x.length=0
 ·refine ao.yes (jx qO) ?_
  rw[fx,if_pos (.inl h0)]
  exact ab.pure (.p _ (.int _ _))
 ·refine ao.no (iO qO) ?_
  refine SZ.mk (x.length:Int) qS ?_
  refine SZ.mk (f.length:Int) qS ?_
  refine SZ.mk (x.length:Int) qS ?_
  refine SZ.mk (x.length:Int) qS ?_
  by_cases hl:x.length=f.length
  ·refine ao.no (by simp[hl]) ?_
   rw[fx,if_neg qO]
   refine SZ.mk (x.length:Int) qS ?_
   refine aJ.mk Nat (fun i=>([(0,.p (ar m x)),(23,.p (ar m x)),(24,.p (.int .i64 x.length)),(25,.p (.int .i64 i))],[])) (fun i=>i<=x.length/\(x.take i).Nodup) (fun i=>x.length-i) 0 []
    ⟨Nat.zero_le _,List.nodup_nil⟩ aY ?_
   intro i ⟨h1,h2⟩
   by_cases hi:i<x.length
   ·refine bo ?_
    refine aF.rb i rfl hi ?_
    refine SZ.mk (i:Int) rfl ?_
    refine cm.mk qS ?_
    refine fO.mk 0 i rfl rfl qO (by simp;omega) ?_
    refine dp.mk (a7 (x.take i)) (by simp[List.map_take]) ?_
    have hc:=xJ m true (x.take i) (x.getD i 0) (hx.take i) (hx i hi) hk (by simp;omega)
    refine aa.pure (pvs:=[ar m (x.take i),.fn 236 [.f5 true (aB (x.getD i 0))]]) hc ?_
    have hnd:(x.take (i+1)).Nodup↔x.getD i 0∉x.take i:=by
     rw[qQ x hi,List.nodup_append]
     simp[h2]
     constructor
     ·intro h hm;exact h _ hm rfl
     ·intro h a ha e;exact h (e▸ha)
    refine iK.mk (fun hb=>?_) (fun hb=>?_)
    ·have hb:=of_decide_eq_true hb
     rw[if_neg (fun hx=>(hnd.1 (hx.sublist (List.take_sublist _ _))) hb)]
     exact ab.pure (.p _ (.int _ _))
    ·have hb:=of_decide_eq_false hb
     refine a5 (i+1) ?_
     exact⟨i+1,[],⟨hi,hnd.2 hb⟩,cA,aY⟩
   ·refine bd ?_
    rw[List.take_of_length_le qO]at h2
    rw[if_pos h2]
    exact ab.pure (.p _ (.int _ _))
  ·refine ao.yes (by simp;omega) ?_
   rw[fx,if_pos (.inr hl)]
   exact ab.pure (.p _ (.int _ _))
def iter {α:Type} (f:Nat->α->α):Nat->α->α
 |0,c=>c
 |k+1,c=>f k (iter f k c)
def jl (x:Nat->Rat) (k:Nat) (c:Nat->Rat):Nat->Rat:=fun m=>if k<m then(c m-c (m-1))/(x m-x (m-(k+1)))else c m
def ew (x:Nat->Rat) (n k:Nat) (c:Nat->Rat):Nat->Rat:=fun m=>if k<=m/\m<n then c m-x k*c (m+1)else c m
def vt (x:Nat->Rat) (n:Nat) (f:Nat->Rat):Nat->Rat:=iter (fun r=>ew x n (n-1-r)) n (iter (jl x) n f)
def bs (t b:Nat):Nat->Nat
 |0=>b
 |r+1=>2*bs t b r+t
theorem mT {t b:Nat} {i j:Nat} (h:i<=j):bs t b i<=bs t b j:=by
 induction j with
 |zero=>rw[Nat.le_zero.1 h];exact Nat.le_refl _
 |succ j ih=>
  by_cases e:i=j+1
  ·rw[e];exact Nat.le_refl _
  ·have:=ih qO
   simp only[bs];omega
def ym (i:Nat) (new iN:Nat->Rat):Nat->Rat:=fun m=>if i<m then new m else iN m
def wZ (i:Nat) (new iN:Nat->Rat):Nat->Rat:=fun m=>if m<i then new m else iN m
theorem uC {i m:Nat} {new iN:Nat->Rat} (h:m<=i):ym i new iN m=iN m:=if_neg qO
theorem An {i m:Nat} {new iN:Nat->Rat} (h:i<=m):wZ i new iN m=iN m:=if_neg qO
theorem Ib {i:Nat} {new iN:Nat->Rat} (h:i≠0):a8 (ym i new iN) i (new i)=ym (i-1) new iN:=by
 funext m
 simp only[a8,ym]
 by_cases e:m=i
 ·subst e;rw[if_pos rfl,if_pos qO]
 ·rw[if_neg e]
  by_cases h1:i<m
  ·rw[if_pos h1,if_pos qO]
  ·rw[if_neg h1,if_neg qO]
theorem Hu {i:Nat} {new iN:Nat->Rat}:a8 (wZ i new iN) i (new i)=wZ (i+1) new iN:=by
 funext m
 simp only[a8,wZ]
 by_cases e:m=i
 ·subst e;rw[if_pos rfl,if_pos qO]
 ·rw[if_neg e]
  by_cases h1:m<i
  ·rw[if_pos h1,if_pos qO]
  ·rw[if_neg h1,if_neg qO]
theorem aF.rv {N:Nat} {g:Nat->Rat} {i:Int} {K:Nat->PV->Prop} (j:Nat) (v:Rat) (hi:i=j) (hj:j<N) (hv:g j=v) (hk:K j (aB v)):aF (a7 (aH N g)) i K:=by
 subst hv;exact .rf j hi hj hk
theorem dp.rv {N:Nat} {g:Nat->Rat} {i:Nat} {q:Rat} {K:List PV->Prop} (g':Nat->Rat) (h:a8 g i q=g') (hk:K (a7 (aH N g'))):dp ((a7 (aH N g)).set i (aB q)) K:=by
 subst h;exact .rf hk
theorem p6 {T:TypeId} {W N:Nat} {g h:Nat->Rat} (e:∀i,i<N->g i=h i):aA.vec T W (a7 (aH N g))= .vec T W (a7 (aH N h)):=by rw[d8 e]
theorem Ic {a b:Rat} (h:a≠b):a-b≠0:=fun e=>h (by grind)
theorem KY (g:FuncId) (m m':Bool) (x f:List Rat) {k:Nat} (hx:Bl x k) (hk:k+k<=1048576) (hn:x.length<=1099511627776) (r:List Rat)
  (hc:fx x f=0->ae Tryz.prog g [ar m x,ar m' f] (.p (ar false r)) []):
  ae Tryz.prog 208 [ar m x,ar m' f,.fn g []] (if fx x f=0 then .bK [.p (ar false r),.p (.int .i64 0)]else .bK [.p (ar false []),.p (.int .i64 (fx x f))]) []:=by
 refine aW Tryz.func208 ?_
 refine aa.pure (yv m m' x f hx hk hn) ?_
 by_cases h:fx x f=0
 ·rw[if_pos h]
  refine ao.no (uQ h) ?_
  refine aa.pure (pvs:=[ar m x,ar m' f]) (hc h) ?_
  exact eT (.p _ (.sl _ _ (au _))) (.p _ (.int _ _))
 ·rw[if_neg h]
  refine ao.yes (BA h) ?_
  exact ab.pure (.bK rfl fun i c d e1 e2=>by
   match i,e1,e2 with
   |0,e1,e2=>cases e1;cases e2;exact .emp _
   |1,e1,e2=>cases e1;cases e2;exact .p _ (.int _ _))
theorem vF {x:List Rat} (h:x.Nodup) {i j:Nat} (hi:i<x.length) (hj:j<x.length) (e:x.getD i 0=x.getD j 0):i=j:=by
 have:x[i]=x[j]:=by simpa[List.getD,hi,hj]using e
 exact(List.getElem_inj h).1 this
theorem re {x f:List Rat} (h:fx x f=0):x.length≠0/\x.length=f.length/\x.Nodup:=by
 unfold fx at h
 split at h
 ·cases h
 ·rename_i h1
  split at h
  ·exact⟨qO,qO,by assumption⟩
  ·cases h
theorem eN {a n:Int} (hn:0<n):(if a.tmod n<0 then a.tmod n+n else a.tmod n)=a%n:=by
 rw[Int.tmod_eq_emod]
 have h1:=Int.emod_nonneg a (show n≠0 by omega)
 have h2:=Int.emod_lt_of_pos a hn
 have h3:((n.natAbs:Nat):Int)=n:=Int.natAbs_of_nonneg qO
 split
 ·rw[show a%n-((0:Nat):Int)=a%n by simp,if_neg qO]
 ·rw[h3,if_pos qO];omega
theorem jK (a:Int) {n:Int} (hn:0<n): -n<=a.tmod n/\a.tmod n<n:=by
 have:=eN (a:=a) hn
 have h1:=Int.emod_nonneg a (show n≠0 by omega)
 have h2:=Int.emod_lt_of_pos a hn
 split at this
 ·omega
 ·omega
theorem ug (a n:Int) (hn:0<n) (hn':n<4611686018427387904):ae Tryz.prog 73 [.int .i64 a,.int .i64 n] (.p (.int .i64 (a%n))) []:=by
 refine aW Tryz.func73 ?_
 have hw:=eN (a:=a) hn
 have hb:=jK a hn
 obtain⟨r,hr⟩:∃r,r=a.tmod n:=⟨_,rfl⟩
 rw[<-hr]at hw hb
 refine yk.mk qO ?_
 refine SZ.mk r hr.symm ?_
 by_cases h:r<0
 ·refine bo ?_
  refine ai.bD (r+n) rfl qO ?_
  rw[if_pos h]at hw
  rw[<-hw]
  exact ab.pure (.p _ (.int _ _))
 ·refine bd ?_
  rw[if_neg h]at hw
  rw[<-hw]
  exact ab.pure (.p _ (.int _ _))
def tT (n:Int):Rat:=iW (decide (n%41-20<0) !=decide (1+n.tdiv 41%5<0)) (n%41-20).natAbs (1+n.tdiv 41%5).natAbs
theorem EC (n:Int):Bz (tT n) 5:=by
 have h1:(1+n.tdiv 41%5).natAbs<=5/\(1+n.tdiv 41%5).natAbs≠0:=qO
 have h2:(n%41-20).natAbs<=20:=qO
 exact Bz.iW h1.2 (cj (Nat.lt_of_le_of_lt h2 qD)) (cj (Nat.lt_of_le_of_lt h1.1 qD))
theorem mU (n:Int) (hn: -9223372036854775808<=n/\n<9223372036854775808):ae Tryz.prog 30 [.int .i64 n] (.p (aB (tT n))) []:=by
 refine aW Tryz.func30 ?_
 refine aa.pure (ug n 41 qO qO) ?_
 refine ai.bD (n%41-20) rfl qO ?_
 have hq: -9223372036854775808<=n.tdiv 41/\n.tdiv 41<9223372036854775808:=by
  rw[Int.tdiv_eq_ediv,show Int.sign 41=1 from rfl];split<;>omega
 refine yk.mk qO ?_
 refine ai.bD (n.tdiv 41) rfl hq ?_
 refine aa.pure (ug (n.tdiv 41) 5 qO qO) ?_
 refine ai.bD (1+n.tdiv 41%5) rfl qO ?_
 refine aa.aO (D0 (n%41-20) (1+n.tdiv 41%5) qO qO qO) (fun _=>rfl) ?_
 exact ab.pure (.p _ (aG _ _ _))
def nB (n:Int):Prop:= -9223372036854775808<=n/\n<9223372036854775808
def kR (l:List Int):Prop:=∀i,nB (l.getD i 0)
def aZ (ns:List Int) (i:Nat):Rat:=tT (if i<ns.length then ns.getD i 0 else 3*i+1)
theorem gN (ns:List Int) (i:Nat):Bz (aZ ns i) 5:=EC _
theorem mw {n:Int} {k:Nat} (h:bitLen n.natAbs<=k) (hk:1<=k):Bz (n:Rat) k:=⟨by simpa using h,by rw[Rat.den_intCast,show bitLen 1=1 by decide];exact hk⟩
theorem yK {i:Nat} {g:Nat->Rat}:aH i g++[g i]=aH (i+1) g:=by rw[aH,aH,List.range_succ,List.map_append];rfl
theorem CN (m:Bool) (ns:List Int) (hns:kR ns) (n:Nat) (hn:n<=1000000):ae Tryz.prog 6 [.sl m 1 (dn ns),.int .i64 n] (.p (ar false (aH n (aZ ns)))) []:=by
 refine aW Tryz.func6 ?_
 refine aJ.yu Nat (fun i=>([(0,.p (.sl m 1 (dn ns))),(1,.p (.int .i64 n)),(5,.vec 0 3 0 i),(6,.p (.int .i64 i))],[.vec 31 3 (a7 (aH i (aZ ns)))])) (fun i=>i<=n) (fun i=>n-i) 0 [0] _ _ (.step 5 31 3 rfl (.done _ _)) (Nat.zero_le _)
  aY ?_
 intro i (h1:i<=n)
 by_cases hi:i<n
 ·refine bo ?_
  refine a5 (3*i) ?_
  refine a5 (3*i+1) ?_
  refine SZ.mk (ns.length:Int) qS ?_
  have next:∀q,q=aZ ns i->(a7 (aH i (aZ ns))++[aB q])=a7 (aH (i+1) (aZ ns)):=fun q hq=>by rw[hq,<-yK,a7,a7,List.map_append];rfl
  by_cases hs:i<ns.length
  ·refine bo ?_
   refine aF.ib i rfl hs ?_
   refine aa.pure (mU (ns.getD i 0) (hns i)) ?_
   refine iq.mk (by simp[aH]) ?_
   refine bl.all rfl ?_
   refine cG.mk (by simp[aH];omega) (by simp[aH];omega) ?_
   refine dp.mk _ (next _ (by rw[aZ,if_pos hs])) ?_
   refine pa.mk (i+1) (by simp[aH]) ?_
   refine a5 (i+1) ?_
   exact⟨i+1,[2],hi,cA,aY⟩
  ·refine bd ?_
   refine aa.pure (mU ((3*i+1:Nat):Int) qO) ?_
   refine iq.mk (by simp[aH]) ?_
   refine bl.all rfl ?_
   refine cG.mk (by simp[aH];omega) (by simp[aH];omega) ?_
   refine dp.mk _ (next _ (by rw[aZ,if_neg hs];rfl)) ?_
   refine pa.mk (i+1) (by simp[aH]) ?_
   refine a5 (i+1) ?_
   exact⟨i+1,[2],hi,cA,aY⟩
 ·refine bd ?_
  have:i=n:=qO
  subst this
  exact ab.pure (EL rfl (by rw[bT]))
theorem pO (m:Bool) (ns:List Int) (hns:kR ns) (n:Nat) (hn:n<=1000000):ae Tryz.prog 6 [.sl m 1 (dn ns),.int .i64 n] (.vec 0 3 0 n) [.vec 31 3 (a7 (aH n (aZ ns)))]:=by
 refine aW Tryz.func6 ?_
 refine aJ.yu Nat (fun i=>([(0,.p (.sl m 1 (dn ns))),(1,.p (.int .i64 n)),(5,.vec 0 3 0 i),(6,.p (.int .i64 i))],[.vec 31 3 (a7 (aH i (aZ ns)))])) (fun i=>i<=n) (fun i=>n-i) 0 [0] _ _ (.step 5 31 3 rfl (.done _ _)) (Nat.zero_le _)
  aY ?_
 intro i (h1:i<=n)
 by_cases hi:i<n
 ·refine bo ?_
  refine a5 (3*i) ?_
  refine a5 (3*i+1) ?_
  refine SZ.mk (ns.length:Int) qS ?_
  have next:∀q,q=aZ ns i->(a7 (aH i (aZ ns))++[aB q])=a7 (aH (i+1) (aZ ns)):=fun q hq=>by rw[hq,<-yK,a7,a7,List.map_append];rfl
  by_cases hs:i<ns.length
  ·refine bo ?_
   refine aF.ib i rfl hs ?_
   refine aa.pure (mU (ns.getD i 0) (hns i)) ?_
   refine iq.mk (by simp[aH]) ?_
   refine bl.all rfl ?_
   refine cG.mk (by simp[aH];omega) (by simp[aH];omega) ?_
   refine dp.mk _ (next _ (by rw[aZ,if_pos hs])) ?_
   refine pa.mk (i+1) (by simp[aH]) ?_
   refine a5 (i+1) ?_
   exact⟨i+1,[2],hi,cA,aY⟩
  ·refine bd ?_
   refine aa.pure (mU ((3*i+1:Nat):Int) qO) ?_
   refine iq.mk (by simp[aH]) ?_
   refine bl.all rfl ?_
   refine cG.mk (by simp[aH];omega) (by simp[aH];omega) ?_
   refine dp.mk _ (next _ (by rw[aZ,if_neg hs];rfl)) ?_
   refine pa.mk (i+1) (by simp[aH]) ?_
   refine a5 (i+1) ?_
   exact⟨i+1,[2],hi,cA,aY⟩
 ·refine bd ?_
  have:i=n:=qO
  subst this
  exact ab.new 0 rfl rfl (au _)
section
def P5 (c:Nat) (q:Rat) (mode:Int):Option (Nat×Int):=
 if b7 c<=q.abs/\q.abs<b7 (c+1)then some (out (decide (q.num<0)) c (decide (b7 c≠q.abs)) (rI (2*q.abs) (b7 c+b7 (c+1))) mode)else none
theorem NC {c:Nat} {q:Rat} {mode:Int} {r:Nat×Int} (h:P5 c q mode=some r):rS q mode=r:=by
 unfold P5 at h
 split at h
 ·rename_i h1;rw[rS,rJ,H8 h1];exact Option.some.inj h
 ·cases h
theorem jo {neg:Bool} {c:Nat} (h:c<9223372036854775808):dQ (sg neg c)=c/\ik (sg neg c)=neg/\sg neg c<18446744073709551616:=by
 unfold dQ ik sg
 cases neg with
 |true=>rw[if_pos rfl];exact⟨qO,decide_eq_true qO,qO⟩
 |false=>rw[if_neg Bool.false_ne_true];exact⟨qO,decide_eq_false qO,qO⟩
def w9 (f:Nat):Prop:=f<18446744073709551616/\dQ f<=9221120237041090560
theorem v8 {neg:Bool} {c:Nat} (h:c<=9221120237041090560):w9 (sg neg c):=by
 obtain⟨m1,m2,m3⟩:=jo (neg:=neg) (c:=c) qO
 exact⟨m3,by rw[m1];exact h⟩
theorem MZ (neg:Bool) (c:Nat) (sm:Bool) (half mode:Int):w9 (out neg c sm half mode).1:=by
 rw[out]
 split
 ·exact v8 (by unfold xT;split<;>omega)
 ·exact v8 qO
theorem D7 (q:Rat) (mode:Int):w9 (rS q mode).1:=MZ _ _ _ _ _
theorem OX (q:Rat) (mode:Int):w9 (Bv q mode).1:=by
 unfold Bv;split
 ·exact⟨by show 0<_;omega,qD⟩
 ·exact D7 _ _
theorem gP (q:Rat) {k:Nat} (h:Bz q k) (hk:k<=1099511627776):ae Tryz.prog 78 [aB q] (.p (aB q.abs)) []:=by
 have:=Od q (h.nn hk) (h.nd hk)
 rwa[PL]at this
theorem fj {p q:Rat}:(0<nF p q)↔q<p:=by
 unfold nF
 split
 ·rename_i h;constructor
  ·intro h;omega
  ·intro h2;grind
 ·rename_i h
  split
  ·rename_i e;constructor
   ·intro h;omega
   ·intro h2;grind
  ·rename_i e
   constructor
   ·intro _;grind
   ·intro _;omega
theorem OK {d:Nat} (hd:d≠0):(0:Rat)<(d:Rat):=by
 have:0<d:=qO
 exact_mod_cast this
noncomputable def BI (p:Rat) (np:Bool) (q:Rat) (nq:Bool) (mode:Int):Nat×Int:=
 if p+q=0 then(if p=0/\np=nq then(sg np 0,0)else(sg (decide (mode=2)) 0,0))else rS (p+q) mode
noncomputable def tu (x y:Nat) (mode:Int):Nat×Int:=
 if dC x||dC y then(9221120237041090560,0)else if isInf x&&(isInf y&&decide (x≠y))then(9221120237041090560,16)else if isInf x then(x,0)else if isInf y then(y,0)else BI (iM x) (ik x) (iM y) (ik y) mode
noncomputable def uU (x y:Nat) (mode:Int):Nat×Int:=
 if dC x||dC y then(9221120237041090560,0)else if(isInf x||isInf y)&&(m4 x||m4 y)then(9221120237041090560,16)else if isInf x||isInf y then(sg (ik x !=ik y) 9218868437227405312,0)
 else if m4 x||m4 y then(sg (ik x !=ik y) 0,0)else rS (iM x*iM y) mode
theorem uA (a b:Int):(if b<a then b else a)=min a b:=by split<;>omega
def dB (neg:Bool) (X:Rat):Rat:=if neg then-X else X
theorem ui (f:Nat):iM f=dB (ik f) ((fq (dQ f):Rat)*p2 (eF (dQ f))):=rfl
theorem sC {neg:Bool} {X:Rat} (h:0<X) (mode:Int):rS (dB neg X) mode=rJ neg X mode:=by
 unfold rS dB
 cases neg with
 |true=>
  rw[if_pos rfl,decide_eq_true (ml.2 (by grind)),Rat.abs,if_neg (by rw[Rat.not_le];grind)]
  congr 1;grind
 |false=>
  rw[if_neg Bool.false_ne_true,decide_eq_false (by rw[ml];grind),Rat.abs,if_pos (by grind)]
theorem jg {neg:Bool} {X:Rat}:dB neg X=0↔X=0:=by
 unfold dB;cases neg
 ·simp
 ·rw[if_pos rfl];constructor<;>intro h<;>grind
theorem IC (a b:Bool) (X Y:Rat):dB a X*dB b Y=dB (a !=b) (X*Y):=by
 unfold dB;cases a<;>cases b<;>simp<;>grind
theorem Cy {m:Nat} (h:m≠0) (e:Int):0<(m:Rat)*p2 e:=qN (OK h) (lN e)
theorem pj {m:Nat} {e:Int}:(m:Rat)*p2 e=0↔m=0:=by
 constructor
 ·intro h
  by_cases h2:m=0
  ·exact h2
  ·have:=Cy h2 e;grind
 ·intro h;subst h;simp
theorem ru (neg:Bool) (m:Nat) (e mode:Int) (hm:m≠0) (hmb:bitLen m<=262144) (he: -262144<=e/\e<=262144):
  ae Tryz.prog 110 [kN neg m e false,.int .i64 mode] (oR (rS (dB neg ((m:Rat)*p2 e)) mode)) []:=by
 rw[sC (Cy hm e)]
 have:=lN e
 exact z9 neg m e false mode hm hmb he Rat.le_refl (by grind) qS qS
theorem Nm (na nb:Bool) (ma mb:Nat) (ea eb:Int) (ha:bitLen ma<=8192) (hb:bitLen mb<=8192) (hea: -8192<=ea/\ea<=8192) (heb: -8192<=eb/\eb<=8192):
  ∃(ns:Bool) (ms:Nat),dB na ((ma:Rat)*p2 ea)+dB nb ((mb:Rat)*p2 eb)=dB ns ((ms:Rat)*p2 (min ea eb))/\bitLen ms<=32768/\
   ae Tryz.prog 175 [kN na ma ea false,kN nb mb eb false] (.p (kN ns ms (min ea eb) false)) []:=by
 obtain⟨e,he⟩:∃e,e=min ea eb:=⟨_,rfl⟩
 obtain⟨x,hx⟩:∃x,x=ma*2^(ea-e).toNat:=⟨_,rfl⟩
 obtain⟨y,hy⟩:∃y,y=mb*2^(eb-e).toNat:=⟨_,rfl⟩
 rw[<-he]
 have vx:(ma:Rat)*p2 ea=(x:Rat)*p2 e:=by rw[hx];exact qt ma qO
 have vy:(mb:Rat)*p2 eb=(y:Rat)*p2 e:=by rw[hy];exact qt mb qO
 have bx:bitLen x<=24576:=by rw[hx];have:=sY ma (ea-e).toNat;omega
 have bY:bitLen y<=24576:=by rw[hy];have:=sY mb (eb-e).toNat;omega
 have nx:=a9 x
 have ny:=a9 y
 have nma:=a9 ma
 have nmb:=a9 mb
 have hadd:=sO x y
 by_cases hs:na=nb
 ·refine⟨na,x+y,?_,qO,?_⟩
  ·rw[vx,vy,<-hs,Rat.natCast_add]
   unfold dB;cases na<;>simp<;>grind
  ·refine aW Tryz.func175 ?_
   refine SZ.mk e ((uA _ _).trans he.symm) ?_
   refine gx ?_
   repeat refine aq ?_
   refine ag (a5 ((ea-e).toNat) af) ?_
   refine ag (aa.pure (fV false ma (ea-e).toNat qO qO) af) ?_
   repeat refine aq ?_
   refine ag (a5 ((eb-e).toNat) af) ?_
   refine ag (aa.pure (fV false mb (eb-e).toNat qO qO) af) ?_
   repeat refine aq ?_
   rw[<-hx,<-hy]
   refine ao.yes (by simp[hs]) ?_
   refine gx ?_
   repeat refine aq ?_
   refine ag (aa.pure (HX false false x y qO qO) af) ?_
   repeat refine aq ?_
   exact ab.pure (.p _ (fy _ _ _ _))
 ·have hs2:(na==nb)=false:=by simp[hs]
  have hn:nb= !na:=by cases na<;>cases nb<;>simp at hs⊢
  by_cases hlt:x<y
  ·have hsub:=tY false false y x qO qO
   rw[if_pos qO]at hsub
   refine⟨nb,y-x,?_,?_,?_⟩
   ·have hq:(y:Rat)=((y-x:Nat):Rat)+(x:Rat):=by rw[<-Rat.natCast_add];congr 1;omega
    rw[vx,vy,hn,hq]
    unfold dB;cases na<;>simp<;>grind
   ·have:=cY (show y-x<=y by omega);omega
   ·refine aW Tryz.func175 ?_
    refine SZ.mk e ((uA _ _).trans he.symm) ?_
    refine gx ?_
    repeat refine aq ?_
    refine ag (a5 ((ea-e).toNat) af) ?_
    refine ag (aa.pure (fV false ma (ea-e).toNat qO qO) af) ?_
    repeat refine aq ?_
    refine ag (a5 ((eb-e).toNat) af) ?_
    refine ag (aa.pure (fV false mb (eb-e).toNat qO qO) af) ?_
    repeat refine aq ?_
    rw[<-hx,<-hy]
    refine ao.no (hs2) ?_
    refine aa.pure (lB false false x y qO qO) ?_
    rw[cF,if_pos hlt]
    refine bo ?_
    refine aa.aO (hsub) (fun _=>rfl) ?_
    exact ab.pure (.p _ (fy _ _ _ _))
  ·have hsub:=tY false false x y qO qO
   rw[if_pos qO]at hsub
   have hc:¬cF x y<0:=by rw[cF,if_neg hlt];split<;>omega
   refine⟨na,x-y,?_,?_,?_⟩
   ·have hq:(x:Rat)=((x-y:Nat):Rat)+(y:Rat):=by rw[<-Rat.natCast_add];congr 1;omega
    rw[vx,vy,hn,hq]
    unfold dB;cases na<;>simp<;>grind
   ·have:=cY (show x-y<=x by omega);omega
   ·refine aW Tryz.func175 ?_
    refine SZ.mk e ((uA _ _).trans he.symm) ?_
    refine gx ?_
    repeat refine aq ?_
    refine ag (a5 ((ea-e).toNat) af) ?_
    refine ag (aa.pure (fV false ma (ea-e).toNat qO qO) af) ?_
    repeat refine aq ?_
    refine ag (a5 ((eb-e).toNat) af) ?_
    refine ag (aa.pure (fV false mb (eb-e).toNat qO qO) af) ?_
    repeat refine aq ?_
    rw[<-hx,<-hy]
    refine ao.no (hs2) ?_
    refine aa.pure (lB false false x y qO qO) ?_
    refine ao.no (decide_eq_false (by exact hc)) ?_
    refine aa.aO (hsub) (fun _=>rfl) ?_
    exact ab.pure (.p _ (fy _ _ _ _))
theorem H7 (na nb:Bool) (ma mb:Nat) (ea eb mode:Int) (ha:bitLen ma<=8192) (hb:bitLen mb<=8192) (hea: -8192<=ea/\ea<=8192) (heb: -8192<=eb/\eb<=8192):
  ae Tryz.prog 154 [kN na ma ea false,kN nb mb eb false,.int .i64 mode] (oR (BI (dB na ((ma:Rat)*p2 ea)) na (dB nb ((mb:Rat)*p2 eb)) nb mode)) []:=by
 obtain⟨ns,ms,h1,h2,h3⟩:=Nm na nb ma mb ea eb ha hb hea heb
 refine aW Tryz.func154 ?_
 refine aa.pure (h3) ?_
 rw[BI,h1]
 have hlr:(nl ms).length=az ms:=rfl
 refine SZ.mk (az ms:Int) (by simp[hlr]) ?_
 by_cases h0:ms=0
 ·have:=aw.2 h0
  refine bd ?_
  rw[if_pos (jg.2 (pj.2 h0))]
  have hla:(nl ma).length=az ma:=rfl
  refine SZ.mk (az ma:Int) (by simp[hla]) ?_
  have hpz:dB na ((ma:Rat)*p2 ea)=0↔ma=0:=jg.trans pj
  by_cases hma:ma=0
  ·have:=aw.2 hma
   refine ao.yes (jx qO) ?_
   by_cases hs:na=nb
   ·rw[if_pos ⟨hpz.2 hma,hs⟩]
    refine ao.yes (by simp[hs]) ?_
    refine aa.pure (cz 0 qO na) ?_
    exact eT (.p _ (.int _ _)) (.p _ (.int _ _))
   ·rw[if_neg fun h=>hs h.2]
    refine ao.no (by simp[hs]) ?_
    by_cases hm:mode=2
    ·rw[decide_eq_true hm]
     refine ao.yes (jx hm) ?_
     refine aa.pure (cz 0 qO true) ?_
     exact eT (.p _ (.int _ _)) (.p _ (.int _ _))
    ·rw[decide_eq_false hm]
     refine ao.no (iO hm) ?_
     refine aa.pure (cz 0 qO false) ?_
     exact eT (.p _ (.int _ _)) (.p _ (.int _ _))
  ·have:=mt aw.1 hma
   rw[if_neg fun h=>hma (hpz.1 h.1)]
   refine ao.no (iO qO) ?_
   by_cases hm:mode=2
   ·rw[decide_eq_true hm]
    refine ao.yes (jx hm) ?_
    refine aa.pure (cz 0 qO true) ?_
    exact eT (.p _ (.int _ _)) (.p _ (.int _ _))
   ·rw[decide_eq_false hm]
    refine ao.no (iO hm) ?_
    refine aa.pure (cz 0 qO false) ?_
    exact eT (.p _ (.int _ _)) (.p _ (.int _ _))
 ·have:=mt aw.1 h0
  refine bo ?_
  rw[if_neg (mt jg.1 (mt pj.1 h0))]
  refine aa.aO (ru ns ms (min ea eb) mode h0 qO qO) (fun _=>rfl) ?_
  exact eT (.p _ (.int _ _)) (.p _ (.int _ _))
theorem AX (na nb:Bool) (ma mb:Nat) (ea eb:Int) (ha:bitLen ma<=8192) (hb:bitLen mb<=8192) (hea: -8192<=ea/\ea<=8192) (heb: -8192<=eb/\eb<=8192):
  ae Tryz.prog 151 [kN na ma ea false,kN nb mb eb false] (.p (kN (na !=nb) (ma*mb) (ea+eb) false)) []:=by
 have n1:=a9 ma
 have n2:=a9 mb
 refine aW Tryz.func151 ?_
 cases na<;>cases nb
 ·refine gx ?_
  repeat refine aq ?_
  refine ag (ao.no rfl af) ?_
  repeat refine aq ?_
  refine ag (aa.pure (f8 false false ma mb qO qO) af) ?_
  repeat refine aq ?_
  refine ag (ai.bD (ea+eb) rfl qO af) ?_
  repeat refine aq ?_
  exact ab.pure (.p _ (fy _ _ _ _))
 ·refine gx ?_
  repeat refine aq ?_
  refine ag (ao.yes rfl af) ?_
  repeat refine aq ?_
  refine ag (aa.pure (f8 false false ma mb qO qO) af) ?_
  repeat refine aq ?_
  refine ag (ai.bD (ea+eb) rfl qO af) ?_
  repeat refine aq ?_
  exact ab.pure (.p _ (fy _ _ _ _))
 ·refine gx ?_
  repeat refine aq ?_
  refine ag (ao.yes rfl af) ?_
  repeat refine aq ?_
  refine ag (aa.pure (f8 false false ma mb qO qO) af) ?_
  repeat refine aq ?_
  refine ag (ai.bD (ea+eb) rfl qO af) ?_
  repeat refine aq ?_
  exact ab.pure (.p _ (fy _ _ _ _))
 ·refine gx ?_
  repeat refine aq ?_
  refine ag (ao.no rfl af) ?_
  repeat refine aq ?_
  refine ag (aa.pure (f8 false false ma mb qO qO) af) ?_
  repeat refine aq ?_
  refine ag (ai.bD (ea+eb) rfl qO af) ?_
  repeat refine aq ?_
  exact ab.pure (.p _ (fy _ _ _ _))
abbrev EP (l:List Nat):List PV:=l.map fun(x:Nat)=>.int .u64 x
theorem aF.ub {l:List Nat} {i:Int} {K:Nat->PV->Prop} (j:Nat) (hi:i=j) (hj:j<l.length) (hk:K j (.int .u64 ((l.getD j 0:Nat):Int))):aF (EP l) i K:=
 .mk j _ hi (by simp[List.getElem?_map,List.getElem?_eq_getElem hj,List.getD]) hk
theorem Is {p:Nat->Bool} {l:List Nat} {i:Nat} (hi:i<l.length):(l.take (i+1)).any p=((l.take i).any p||p (l.getD i 0)):=by
 rw[List.take_add_one,List.any_append,List.getElem?_eq_getElem hi];simp[List.getD,List.getElem?_eq_getElem hi]
theorem ME {p:Nat->Bool} {l:List Nat} {i:Nat} (hi:i<l.length) (h:p (l.getD i 0)=true):l.any p=true:=by
 rw[List.any_eq_true]
 exact⟨l.getD i 0,by simp[List.getD,List.getElem?_eq_getElem hi],h⟩
theorem J5 (f:FuncId) (p:Nat->Bool) (hp:∀x:Nat,x<18446744073709551616->ae Tryz.prog f [.int .u64 x] (.p (.bool (p x))) []) (m:Bool) (l:List Nat) (hl:∀x∈l,x<18446744073709551616) (hn:l.length<=100):
  ae Tryz.prog 148 [.fn f [],.sl m 1 (EP l)] (.p (.bool (l.any p))) []:=by
 refine aW Tryz.func148 ?_
 refine SZ.mk (l.length:Int) qS ?_
 refine aJ.mk Nat (fun i=>([(0,.p (.fn f [])),(7,.p (.sl m 1 (EP l))),(8,.p (.int .i64 l.length)),(9,.p (.int .i64 i))],[])) (fun i=>i<=l.length/\(l.take i).any p=false) (fun i=>l.length-i) 0 []
  ⟨Nat.zero_le _,qS⟩ aY ?_
 intro i ⟨h1,h2⟩
 have h1:i<=l.length:=h1
 by_cases hi:i<l.length
 ·refine bo ?_
  refine aF.ub i rfl hi ?_
  have hx:l.getD i 0<18446744073709551616:=hl _ (by simp[List.getD,List.getElem?_eq_getElem hi])
  refine aa.pure (hp _ hx) ?_
  refine iK.mk (fun h=>?_) (fun h=>?_)
  ·rw[ME hi h]
   exact ab.pure (.tf _)
  ·refine a5 (i+1) ?_
   exact⟨i+1,[],⟨hi,by rw[Is hi,h2,h];rfl⟩,cA,aY⟩
 ·refine bd ?_
  rw[show l.any p=false by rw[<-h2,List.take_of_length_le qO]]
  exact ab.pure (.tf _)
theorem tL (f:FuncId) (p:Nat->Bool) (hp:∀x:Nat,x<18446744073709551616->ae Tryz.prog f [.int .u64 x] (.p (.bool (p x))) []) {a b:Nat} (ha:a<18446744073709551616) (hb:b<18446744073709551616) (r:Bool) (hr:(p a||p b)=r):
  ae Tryz.prog 148 [.fn f [],.sl true 1 [.int .u64 a,.int .u64 b]] (.p (.bool r)) []:=by
 have:=J5 f p hp true [a,b] (by simp[ha,hb]) qS
 rwa[show[a,b].any p=r by rw[<-hr];simp]at this
theorem DK {a b:Nat} (ha:a<18446744073709551616) (hb:b<18446744073709551616) (r:Bool) (hr:(dC a||dC b)=r):ae Tryz.prog 148 [.fn 53 [],.sl true 1 [.int .u64 a,.int .u64 b]] (.p (.bool r)) []:=
 tL _ dC (fun(x:Nat) hx=>mj x hx _ rfl) ha hb r hr
theorem DR {a b:Nat} (ha:a<18446744073709551616) (hb:b<18446744073709551616) (r:Bool) (hr:(isInf a||isInf b)=r):ae Tryz.prog 148 [.fn 54 [],.sl true 1 [.int .u64 a,.int .u64 b]] (.p (.bool r)) []:=
 tL _ isInf (fun(x:Nat) hx=>cV x hx _ rfl) ha hb r hr
theorem Pu {a b:Nat} (ha:a<18446744073709551616) (hb:b<18446744073709551616) (r:Bool) (hr:(m4 a||m4 b)=r):ae Tryz.prog 148 [.fn 149 [],.sl true 1 [.int .u64 a,.int .u64 b]] (.p (.bool r)) []:=
 tL _ m4 (fun(x:Nat) hx=>EG x hx _ rfl) ha hb r hr
theorem Gw (a b:Nat) (mode:Int) (ha:a<18446744073709551616) (hb:b<18446744073709551616):ae Tryz.prog 119 [.int .u64 a,.int .u64 b,.int .i64 mode] (oR (tu a b mode)) []:=by
 refine aW Tryz.func119 ?_
 unfold tu
 refine bl.all rfl ?_
 cases hn:(dC a||dC b)with
 |true=>
  refine aa.pure (DK ha hb _ hn) ?_
  refine gv ?_
  exact eT (.p _ (.int _ _)) (.p _ (.int _ _))
 |false=>
  refine aa.pure (DK ha hb _ hn) ?_
  refine fI ?_
  rw[if_neg Bool.false_ne_true]
  cases hia:isInf a with
  |true=>
   refine aa.pure (cV a ha _ hia) ?_
   refine gv ?_
   cases hib:isInf b with
   |true=>
    refine aa.pure (cV b hb _ hib) ?_
    refine gv ?_
    by_cases he:a=b
    ·refine ao.no (uQ qO) ?_
     rw[if_neg (by simp[he])]
     refine aa.pure (cV a ha _ hia) ?_
     refine gv ?_
     exact eT (.p _ (.int _ _)) (.p _ (.int _ _))
    ·refine ao.yes (BA qO) ?_
     rw[if_pos (by simp[he])]
     refine aa.aO (yn) (fun _=>rfl) ?_
     exact eT (.p _ (.int _ _)) (.p _ (.int _ _))
   |false=>
    refine aa.pure (cV b hb _ hib) ?_
    refine fI ?_
    rw[if_neg qS]
    refine aa.pure (cV a ha _ hia) ?_
    refine gv ?_
    exact eT (.p _ (.int _ _)) (.p _ (.int _ _))
  |false=>
   refine aa.pure (cV a ha _ hia) ?_
   refine fI ?_
   rw[if_neg qS,if_neg qS]
   refine aa.pure (cV a ha _ hia) ?_
   refine fI ?_
   cases hib:isInf b with
   |true=>
    refine aa.pure (cV b hb _ hib) ?_
    refine gv ?_
    exact eT (.p _ (.int _ _)) (.p _ (.int _ _))
   |false=>
    refine aa.pure (cV b hb _ hib) ?_
    refine fI ?_
    rw[if_neg qS]
    refine aa.pure (mq a ha) ?_
    refine aa.pure (mq b hb) ?_
    have e1:=mO (lK a)
    have e2:=kS (dQ a)
    have e3:=mO (lK b)
    have e4:=kS (dQ b)
    have e5:=jb (dQ a)
    have e6:=jb (dQ b)
    refine aa.aO (H7 (ik a) (ik b) (fq (dQ a)) (fq (dQ b)) (eF (dQ a)) (eF (dQ b)) mode qO qO qO qO) (fun _=>rfl) ?_
    exact eT (.p _ (.int _ _)) (.p _ (.int _ _))
theorem uo {b:Nat} (hb:b<18446744073709551616):flip b%9223372036854775808=b%9223372036854775808:=by unfold flip;split<;>omega
theorem BV {b:Nat} (hb:b<18446744073709551616):dC (flip b)=dC b:=by
 unfold dC;rw[uo hb]
theorem xV {f:Nat}:m4 f=true↔dQ f=0:=by unfold m4 dQ;simp
theorem qx {c:Nat}:fq c=0↔c=0:=by unfold fq;split<;>omega
theorem J4 (a b:Nat):iM a*iM b=dB (ik a !=ik b) (((fq (dQ a)*fq (dQ b):Nat):Rat)*p2 (eF (dQ a)+eF (dQ b))):=by
 rw[ui,ui,IC,Nc,Rat.natCast_mul]
 congr 1;grind
theorem GM (a b:Nat) (mode:Int) (ha:a<18446744073709551616) (hb:b<18446744073709551616):ae Tryz.prog 116 [.int .u64 a,.int .u64 b,.int .i64 mode] (oR (uU a b mode)) []:=by
 refine aW Tryz.func116 ?_
 unfold uU
 refine aa.pure (kE a ha _ rfl) ?_
 refine aa.pure (kE b hb _ rfl) ?_
 refine ao.sym ?_
 obtain⟨ns,hns⟩:∃ns,ns=(ik a !=ik b):=⟨_,rfl⟩
 have hsg:∀c:Nat,c<9223372036854775808->ae Tryz.prog 145 [.int .u64 c,.bool (!(ik a==ik b))] (.p (.int .u64 (sg (ik a !=ik b) c))) []:=fun c hc=>cz c hc _
 refine bl.all rfl ?_
 cases hn:(dC a||dC b)with
 |true=>
  refine aa.pure (DK ha hb _ hn) ?_
  refine gv ?_
  exact eT (.p _ (.int _ _)) (.p _ (.int _ _))
 |false=>
  refine aa.pure (DK ha hb _ hn) ?_
  refine fI ?_
  rw[if_neg Bool.false_ne_true]
  refine bl.all rfl ?_
  cases hi:(isInf a||isInf b)with
  |true=>
   refine aa.pure (DR ha hb _ hi) ?_
   refine gv ?_
   refine bl.all rfl ?_
   cases hz:(m4 a||m4 b)with
   |true=>
    refine aa.pure (Pu ha hb _ hz) ?_
    refine gv ?_
    rw[if_pos qS]
    refine aa.aO (yn) (fun _=>rfl) ?_
    exact eT (.p _ (.int _ _)) (.p _ (.int _ _))
   |false=>
    refine aa.pure (Pu ha hb _ hz) ?_
    refine fI ?_
    rw[if_neg qS,if_pos rfl]
    refine bl.all rfl ?_
    refine aa.pure (DR ha hb _ hi) ?_
    refine gv ?_
    refine aa.pure (hsg 9218868437227405312 qO) ?_
    exact eT (.p _ (.int _ _)) (.p _ (.int _ _))
  |false=>
   refine aa.pure (DR ha hb _ hi) ?_
   refine fI ?_
   rw[if_neg qS,if_neg qS]
   refine bl.all rfl ?_
   refine aa.pure (DR ha hb _ hi) ?_
   refine fI ?_
   refine bl.all rfl ?_
   cases hz:(m4 a||m4 b)with
   |true=>
    refine aa.pure (Pu ha hb _ hz) ?_
    refine gv ?_
    rw[if_pos rfl]
    refine aa.pure (hsg 0 qO) ?_
    exact eT (.p _ (.int _ _)) (.p _ (.int _ _))
   |false=>
    refine aa.pure (Pu ha hb _ hz) ?_
    refine fI ?_
    rw[if_neg qS,J4]
    have e1:=mO (lK a)
    have e2:=kS (dQ a)
    have e3:=mO (lK b)
    have e4:=kS (dQ b)
    have e5:=jb (dQ a)
    have e6:=jb (dQ b)
    have za:fq (dQ a)≠0:=fun h=>by have:=xV.2 (qx.1 h);rw[this]at hz;simp at hz
    have zb:fq (dQ b)≠0:=fun h=>by have:=xV.2 (qx.1 h);rw[this]at hz;simp at hz
    have hbl:=tF (fq (dQ a)) (fq (dQ b))
    refine aa.pure (mq a ha) ?_
    refine aa.pure (mq b hb) ?_
    refine aa.pure (AX (ik a) (ik b) (fq (dQ a)) (fq (dQ b)) (eF (dQ a)) (eF (dQ b)) qO qO qO qO) ?_
    refine aa.aO (ru (ik a !=ik b) (fq (dQ a)*fq (dQ b)) (eF (dQ a)+eF (dQ b)) mode (Nat.mul_ne_zero za zb) qO qO) (fun _=>rfl) ?_
    exact eT (.p _ (.int _ _)) (.p _ (.int _ _))
theorem Jh {f:Nat}:iM f=0↔m4 f=true:=by rw[ui,jg,pj,qx,xV]
theorem wI (f:Nat) (hf:f<18446744073709551616):sg (ik f) (dQ f)=f:=by
 unfold sg dQ
 cases h:ik f with
 |true=>have:=Hi h;rw[if_pos rfl];omega
 |false=>have:=vw h;rw[if_neg Bool.false_ne_true];omega
theorem Kb {f:Nat}:isInf f=true↔dQ f=9218868437227405312:=by unfold isInf dQ;simp
theorem Ns (p:Rat) (np:Bool) (q:Rat) (nq:Bool) (mode:Int):w9 (BI p np q nq mode).1:=by
 unfold BI;split
 ·split
  ·exact v8 qO
  ·exact v8 qO
 ·exact D7 _ _
theorem Gt {f:Nat} (hf:f<18446744073709551616) (h:isInf f=true):w9 f:=⟨hf,by rw[Kb.1 h];omega⟩
theorem x4:w9 9221120237041090560:=⟨qO,qD⟩
theorem M5 {x y:Nat} (hx:x<18446744073709551616) (hy:y<18446744073709551616) (mode:Int):w9 (tu x y mode).1:=by
 unfold tu
 split
 ·exact x4
 split
 ·exact x4
 split
 ·rename_i h;exact Gt hx h
 split
 ·rename_i h;exact Gt hy h
 ·exact Ns _ _ _ _ _
theorem Mu (x y:Nat) (mode:Int):w9 (uU x y mode).1:=by
 unfold uU
 split
 ·exact x4
 split
 ·exact x4
 split
 ·exact v8 qO
 split
 ·exact v8 qO
 ·exact D7 _ _
theorem sn {neg:Bool} {c:Nat} (h:c<9223372036854775808):flip (sg neg c)=sg (!neg) c:=by
 unfold flip sg
 cases neg with
 |true=>rw[if_pos rfl,if_neg qO,if_neg qS];omega
 |false=>rw[if_neg Bool.false_ne_true,if_pos h,if_pos (by rfl)]
theorem flip_flip {x:Nat} (h:x<18446744073709551616):flip (flip x)=x:=by unfold flip;split<;>split<;>omega
theorem F5 {x:Nat} (h:x<18446744073709551616):dQ (flip x)=dQ x:=uo h
theorem uN {x:Nat} (h:x<18446744073709551616):ik (flip x)= !ik x:=by
 unfold ik flip
 by_cases h2:x<9223372036854775808
 ·rw[if_pos h2,decide_eq_true qO,decide_eq_false qO];rfl
 ·rw[if_neg h2,decide_eq_false qO,decide_eq_true qO];rfl
theorem ur {b:Nat} (hb:b<18446744073709551616):isInf (flip b)=isInf b:=by unfold isInf;rw[uo hb]
theorem y4 {x:Nat} (h:x<18446744073709551616):iM (flip x)= -iM x:=by
 unfold iM
 rw[uN h,F5 h]
 cases ik x<;>simp
def sw (m:Int):Int:=if m=2 then 3 else if m=3 then 2 else m
theorem K9 (mode:Int) (neg sm odd:Bool) (half:Int):goUp (sw mode) (!neg) sm odd half=goUp mode neg sm odd half:=by
 unfold sw
 by_cases h2:mode=2
 ·subst h2;rw[if_pos rfl];cases neg<;>rfl
 ·rw[if_neg h2]
  by_cases h3:mode=3
  ·subst h3;rw[if_pos rfl];cases neg<;>rfl
  ·rw[if_neg h3];unfold goUp;rw[if_neg h2,if_neg h2,if_neg h3,if_neg h3]
theorem MC (mode:Int) (neg:Bool):xT (!neg) (sw mode)=xT neg mode:=by
 unfold sw
 by_cases h2:mode=2
 ·subst h2;rw[if_pos rfl];cases neg<;>rfl
 ·rw[if_neg h2]
  by_cases h3:mode=3
  ·subst h3;rw[if_pos rfl];cases neg<;>rfl
  ·rw[if_neg h3];unfold xT
   by_cases h1:mode=1
   ·rw[if_pos (.inl h1),if_pos (.inl h1)]
   ·rw[if_neg (by simp[h1,h2,h3]),if_neg (by simp[h1,h2,h3])]
def yJ (r:Nat×Int):Nat×Int:=(flip r.1,r.2)
theorem Oe (neg:Bool) (c:Nat) (sm:Bool) (half mode:Int):out (!neg) c sm half (sw mode)=yJ (out neg c sm half mode):=by
 have hu:yP (!neg) c sm half (sw mode)=yP neg c sm half mode:=by rw[yP,yP,K9]
 rw[out,out,hu,MC]
 split
 ·rw[yJ,sn (Nl _ _)]
 ·rw[yJ,sn qO]
theorem N2 {q:Rat} (hq:q≠0) (mode:Int):rS (-q) (sw mode)=yJ (rS q mode):=by
 obtain⟨n,X,hX,hv⟩:∃n X,0<X/\q=dB n X:=by
  by_cases h:0<q
  ·exact⟨false,q,h,rfl⟩
  ·exact⟨true,-q,by grind,by unfold dB;rw[if_pos rfl];grind⟩
 have: -q=dB (!n) X:=by rw[hv];unfold dB;cases n<;>simp
 rw[this,hv,sC hX,sC hX,rJ,rJ,Oe]
def LI (r s:Nat×Int):Prop:=r.2=s.2/\r.1<18446744073709551616/\s.1<18446744073709551616/\(s.1=flip r.1\/s.1=r.1/\r.1=9221120237041090560\/dQ r.1=0/\dQ s.1=0)
theorem LI.z {n n':Bool} {g:Int}:LI (Go.Proofs.YtiakeknbdclaoaaGreat.sg n 0,g) (Go.Proofs.YtiakeknbdclaoaaGreat.sg n' 0,g):=by
 obtain⟨m1,m2,m3⟩:=jo (neg:=n) (c:=0) qO
 obtain⟨k1,k2,k3⟩:=jo (neg:=n') (c:=0) qO
 exact⟨rfl,m3,k3,.inr (.inr ⟨m1,k1⟩)⟩
theorem qy (x:Nat):dC x=decide (9218868437227405312<dQ x):=rfl
theorem qV (x:Nat):isInf x=decide (dQ x=9218868437227405312):=rfl
theorem CW (x:Nat):iM x=dB (ik x) (b7 (dQ x)):=rfl
structure dY (x:Nat) (q:Rat):Prop where
 lt:x<18446744073709551616
 nan:dC x=false
 inf:isInf x=false
 val:iM x=q
theorem dY.sg {neg:Bool} {c:Nat} (h:c<9218868437227405312):dY (sg neg c) (dB neg (b7 c)):=by
 obtain⟨m1,m2,m3⟩:=jo (neg:=neg) (c:=c) qO
 exact⟨m3,by rw[qy,m1];exact decide_eq_false qO,by rw[qV,m1];exact decide_eq_false qO,by rw[CW,m1,m2]⟩
theorem dY.m4 {x:Nat} {q:Rat} (h:dY x q):m4 x=true↔q=0:=by rw[<-h.val,Jh]
theorem lf {neg:Bool} {c:Nat} (h:c<9223372036854775808):pl (sg neg c)=if neg then-(c:Int)else c:=by
 obtain⟨m1,m2,m3⟩:=jo (neg:=neg) h
 rw[pl,m1,m2]
 cases neg with
 |true=>rfl
 |false=>rfl
theorem NQ {neg:Bool} {c:Nat} (h:c<=9218868437227405312):dC (sg neg c)=false:=by
 obtain⟨m1,m2,m3⟩:=jo (neg:=neg) (c:=c) qO
 rw[qy,m1];exact decide_eq_false qO
theorem Oh {neg sm:Bool} {c:Nat} {half mode:Int} (hg:goUp mode neg sm (decide (c%2=1)) half=false) (hl:xT neg mode=9218868437227405311):(out neg c sm half mode).1=sg neg (min c 9218868437227405311):=by
 unfold out yP
 rw[hg,if_neg Bool.false_ne_true,hl]
 split
 ·rw[Nat.min_eq_right qO]
 ·rw[Nat.min_eq_left qO]
theorem Ms {neg sm:Bool} {c:Nat} {half mode:Int} (hg:goUp mode neg sm (decide (c%2=1)) half=sm) (hl:xT neg mode=9218868437227405312):(out neg c sm half mode).1=sg neg (min (if sm then c+1 else c) 9218868437227405312):=by
 unfold out yP
 rw[hg,hl]
 generalize(if sm=true then c+1 else c)=d
 split
 ·rw[Nat.min_eq_right qO]
 ·rw[Nat.min_eq_left qO]
theorem F6 {n:Bool} {c:Nat} (h:c<9223372036854775808):iM (sg n c)=dB n (b7 c):=by
 obtain⟨m1,m2,m3⟩:=jo (neg:=n) h
 rw[CW,m1,m2]
theorem oM {q:Rat} {k:Nat} (h:Bz q k):q.abs<((2^k:Nat):Rat):=by
 rw[mD]
 have h1:q.num.natAbs<2^k:=Nat.lt_of_lt_of_le (cN _) (Nat.pow_le_pow_right qO h.n)
 have h2:((q.num.natAbs:Nat):Rat)<((2^k:Nat):Rat):=by exact_mod_cast h1
 have h3:=tw q
 have h4:(1:Rat)<=(q.den:Rat):=by have:=q.den_pos;exact_mod_cast this
 have h5:((q.num.natAbs:Nat):Rat)/(q.den:Rat)*(q.den:Rat)=((q.num.natAbs:Nat):Rat):=Rat.div_mul_cancel (by grind)
 obtain⟨Q,hQ⟩:∃Q,Q=((q.num.natAbs:Nat):Rat)/(q.den:Rat):=⟨_,rfl⟩
 rw[<-hQ]at h5⊢
 by_cases hn:0<=Q
 ·have:=Rat.mul_nonneg hn (show 0<=(q.den:Rat)-1 by grind)
  grind
 ·have:=dE k
  grind
theorem Jc:((2^1010:Nat):Rat)<=b7 9218868437227405311:=by
 have h1:=(mS (v:=4503599627370496) (t:=2032) qO (.inl qO)).1
 have h2:=fz (((2032:Nat):Int)-1074) 52
 rw[show((2032:Nat):Int)-1074+((52:Nat):Int)=((1010:Nat):Int) by omega,jz,show(2:Nat)^52=4503599627370496 by decide]at h2
 rw[h2,Rat.mul_comm,<-h1,iu]
 omega
def pV (x:Nat) (q:Rat):Prop:=if isInf x then ik x=true else iM x<=q
def qi (x:Nat) (q:Rat):Prop:=if isInf x then ik x=false else q<=iM x
instance (x:Nat) (q:Rat):Decidable (pV x q):=by unfold pV;exact inferInstance
instance (x:Nat) (q:Rat):Decidable (qi x q):=by unfold qi;exact inferInstance
structure j8 (x:Nat):Prop where
 lt:x<18446744073709551616
 nan:dC x=false
theorem j8.ex {x:Nat} (h:j8 x):∃n c,c<=9218868437227405312/\x=sg n c/\n=ik x/\c=dQ x:=
 ⟨ik x,dQ x,by have:=of_decide_eq_false ((qy x).symm.trans h.nan);omega,(wI x h.lt).symm,rfl,rfl⟩
theorem j8.sg {n:Bool} {c:Nat} (h:c<=9218868437227405312):j8 (sg n c):=⟨(jo qO).2.2,NQ h⟩
theorem dY.num {x:Nat} {q:Rat} (h:dY x q):j8 x:=⟨h.lt,h.nan⟩
theorem DN {n:Bool} {c:Nat} (h:c<9223372036854775808):isInf (sg n c)=decide (c=9218868437227405312):=by rw[qV,(jo h).1]
theorem lL {n:Bool} {c:Nat} {q:Rat} (h:c<=9218868437227405312):pV (sg n c) q↔if c=9218868437227405312 then n=true else dB n (b7 c)<=q:=by
 unfold pV
 rw[DN qO,(jo (neg:=n) (c:=c) qO).2.1,F6 qO]
 by_cases e:c=9218868437227405312
 ·rw[if_pos (decide_eq_true e),if_pos e]
 ·rw[if_neg (by simp[e]),if_neg e]
theorem HH {n:Bool} {c:Nat} {q:Rat} (h:c<=9218868437227405312):qi (sg n c) q↔if c=9218868437227405312 then n=false else q<=dB n (b7 c):=by
 unfold qi
 rw[DN qO,(jo (neg:=n) (c:=c) qO).2.1,F6 qO]
 by_cases e:c=9218868437227405312
 ·rw[if_pos (decide_eq_true e),if_pos e]
 ·rw[if_neg (by simp[e]),if_neg e]
theorem DO {n m:Bool} {c d:Nat}:dB n (b7 c)<=dB m (b7 d)↔(if n then-(c:Int)else c)<=(if m then-(d:Int)else d):=by
 have h1:=lF c
 have h2:=lF d
 unfold dB
 cases n<;>cases m<;>simp only[if_true,if_false,Bool.false_eq_true,reduceIte]
 ·rw[iu];omega
 ·constructor
  ·intro h
   have e1:b7 c=b7 0:=by rw[fG];grind
   have e2:b7 d=b7 0:=by rw[fG];grind
   have:=zG.1 e1
   have:=zG.1 e2
   omega
  ·intro h
   have e1:c=0:=qO
   have e2:d=0:=qO
   subst e1;subst e2
   rw[fG];grind
 ·constructor
  ·intro _;omega
  ·intro _;grind
 ·constructor
  ·intro h
   have:b7 d<=b7 c:=by grind
   have:=iu.1 this
   omega
  ·intro h
   have:b7 d<=b7 c:=iu.2 qO
   grind
theorem pV.mono {x z:Nat} {q:Rat} (hx:j8 x) (hz:j8 z) (h:pV x q) (hp:pl z<=pl x):pV z q:=by
 obtain⟨n,c,hc,e,_,_⟩:=hx.ex
 obtain⟨m,d,hd,e',_,_⟩:=hz.ex
 subst e;subst e'
 rw[lf qO,lf qO]at hp
 rw[lL hc]at h
 rw[lL hd]
 by_cases i1:c=9218868437227405312
 ·rw[if_pos i1]at h
  subst h
  rw[if_pos rfl]at hp
  have:m=true/\d=9218868437227405312:=by cases m<;>simp at hp<;>constructor<;>first|rfl|omega
  rw[if_pos this.2];exact this.1
 ·rw[if_neg i1]at h
  by_cases i2:d=9218868437227405312
  ·rw[if_pos i2]
   cases m with
   |true=>rfl
   |false=>exfalso;cases n<;>simp at hp<;>omega
  ·rw[if_neg i2]
   exact Rat.le_trans (DO.2 hp) h
theorem pV.le {x:Nat} {q r:Rat} (h:pV x q) (hq:q<=r):pV x r:=by
 unfold pV at h⊢
 split
 ·rename_i i;rw[if_pos i]at h;exact h
 ·rename_i i;rw[if_neg i]at h;exact Rat.le_trans h hq
theorem qi.ge {x:Nat} {q r:Rat} (h:qi x q) (hq:r<=q):qi x r:=by
 unfold qi at h⊢
 split
 ·rename_i i;rw[if_pos i]at h;exact h
 ·rename_i i;rw[if_neg i]at h;exact Rat.le_trans hq h
theorem sE {x:Nat} (h:x<18446744073709551616):pl (flip x)= -pl x:=by
 have e:=wI x h
 have hm:=lK x
 rw[<-e,sn hm,lf hm,lf hm]
 cases ik x<;>simp
theorem j8.flip {x:Nat} (h:j8 x):j8 (flip x):=⟨JQ h.lt,by rw[BV h.lt];exact h.nan⟩
theorem GN {x:Nat} {q:Rat} (h:x<18446744073709551616):qi (flip x) (-q)↔pV x q:=by
 unfold qi pV
 rw[ur h,uN h,y4 h]
 split
 ·cases ik x<;>simp
 ·constructor<;>intro h<;>grind
theorem tG {x:Nat} {q:Rat} (h:x<18446744073709551616):pV (flip x) (-q)↔qi x q:=by
 unfold qi pV
 rw[ur h,uN h,y4 h]
 split
 ·cases ik x<;>simp
 ·constructor<;>intro h<;>grind
theorem qi.mono {x z:Nat} {q:Rat} (hx:j8 x) (hz:j8 z) (h:qi x q) (hp:pl x<=pl z):qi z q:=by
 rw[<-tG hx.lt]at h
 rw[<-tG hz.lt]
 exact h.mono hx.flip hz.flip (by rw[sE hx.lt,sE hz.lt];omega)
theorem uj {x y:Nat} {q:Rat} (hx:j8 x) (hy:j8 y) (h1:pV x q) (h2:qi y q):pl x<=pl y:=by
 obtain⟨n,c,hc,e,_,_⟩:=hx.ex
 obtain⟨m,d,hd,e',_,_⟩:=hy.ex
 subst e;subst e'
 rw[lL hc]at h1
 rw[HH hd]at h2
 rw[lf qO,lf qO]
 by_cases i1:c=9218868437227405312
 ·rw[if_pos i1]at h1
  subst h1
  rw[if_pos rfl]
  cases m<;>simp<;>omega
 ·rw[if_neg i1]at h1
  by_cases i2:d=9218868437227405312
  ·rw[if_pos i2]at h2
   subst h2
   rw[if_neg Bool.false_ne_true]
   cases n<;>simp<;>omega
  ·rw[if_neg i2]at h2
   exact DO.1 (Rat.le_trans h1 h2)
theorem dY.JC {x:Nat} {p q:Rat} (h:dY x p):pV x q↔p<=q:=by unfold pV;rw[h.inf,if_neg Bool.false_ne_true,h.val]
theorem dY.LQ {x:Nat} {p q:Rat} (h:dY x p):qi x q↔q<=p:=by unfold qi;rw[h.inf,if_neg Bool.false_ne_true,h.val]
theorem dY.Mr {x y:Nat} {p q:Rat} (hx:dY x p) (hy:dY y q):pl x<=pl y↔p<=q:=by
 constructor
 ·intro h
  exact hx.JC.1 (pV.mono hy.num hx.num (hy.JC.2 Rat.le_refl) h)
 ·intro h
  exact uj hx.num hy.num (hx.JC.2 Rat.le_refl) (hy.LQ.2 h)
structure Rd (q:Rat) (x:Nat):Prop where
 num:j8 x
 le:pV x q
 max:∀z,j8 z->pV z q->pl z<=pl x
structure Ru (q:Rat) (x:Nat):Prop where
 num:j8 x
 ge:qi x q
 min:∀z,j8 z->qi z q->pl x<=pl z
theorem Rd.flip {q:Rat} {x:Nat} (h:Rd (-q) x):Ru q (flip x):=by
 refine⟨h.num.flip,?_,fun z hz hg=>?_⟩
 ·have:=(GN h.num.lt).2 h.le
  rwa[Rat.neg_neg]at this
 ·have:=h.max (Go.Proofs.YtiakeknbdclaoaaGreat.flip z) hz.flip ((tG hz.lt).2 hg)
  rw[sE hz.lt]at this
  rw[sE h.num.lt];omega
theorem Rd.mono {q r:Rat} {x y:Nat} (hx:Rd q x) (hy:Rd r y) (h:q<=r):pl x<=pl y:=hy.max x hx.num (hx.le.le h)
theorem Ru.mono {q r:Rat} {x y:Nat} (hx:Ru q x) (hy:Ru r y) (h:q<=r):pl x<=pl y:=hx.min y hy.num (hy.ge.ge h)
theorem Rd.zero {n:Bool}:Rd 0 (sg n 0):=by
 refine⟨.sg qO,?_,fun z hz hl=>?_⟩
 ·rw[lL qO,if_neg qO,fG,jg.2 rfl];exact Rat.le_refl
 ·refine uj hz (.sg qO) hl ?_
  rw[HH qO,if_neg qO,fG,jg.2 rfl];exact Rat.le_refl
theorem Ru.zero {n:Bool}:Ru 0 (sg n 0):=by
 have h:Rd (-0) (sg (!n) 0):=by rw[show(-0:Rat)=0 by grind];exact Rd.zero
 have:=h.flip
 rwa[sn qO,Bool.not_not]at this
theorem Rd.rS {q:Rat} (hq:q≠0):Rd q (rS q 2).1:=by
 obtain⟨n,Y,hY,hv⟩:∃n Y,0<Y/\q=dB n Y:=by
  by_cases h:0<q
  ·exact⟨false,q,h,rfl⟩
  ·exact⟨true,-q,by grind,by unfold dB;rw[if_pos rfl];grind⟩
 have hc:=L8 (X:=Y) (by grind)
 subst hv
 rw[sC hY,rJ]
 obtain⟨c,hcd⟩:∃c,c=cd Y:=⟨_,rfl⟩
 rw[<-hcd]at hc⊢
 obtain⟨sm,hsm⟩:∃sm,sm=decide (b7 c≠Y):=⟨_,rfl⟩
 rw[<-hsm]
 cases n with
 |false=>
  rw[Oh rfl rfl]
  refine⟨.sg qO,?_,fun z hz hl=>?_⟩
  ·rw[lL qO,if_neg qO,dB,if_neg Bool.false_ne_true,dB,if_neg Bool.false_ne_true]
   exact Rat.le_trans (iu.2 (Nat.min_le_left _ _)) hc.1
  ·obtain⟨m,d,hd,e,_,_⟩:=hz.ex
   subst e
   rw[lL hd]at hl
   rw[lf qO,lf qO,if_neg Bool.false_ne_true]
   cases m with
   |true=>rw[if_pos rfl];omega
   |false=>
    rw[if_neg Bool.false_ne_true]
    by_cases i:d=9218868437227405312
    ·rw[if_pos i]at hl;cases hl
    ·rw[if_neg i,dB,if_neg Bool.false_ne_true,dB,if_neg Bool.false_ne_true]at hl
     have:d<c+1:=nr.1 (by have:=hc.2;grind)
     omega
 |true=>
  rw[Ms (by show(true&&sm)=sm;simp) rfl]
  obtain⟨B,hB⟩:∃B,B=if sm then c+1 else c:=⟨_,rfl⟩
  have h1:Y<=b7 B:=by
   rw[hB,hsm]
   by_cases e:b7 c=Y
   ·rw[if_neg (by simp[e])];rw[e];exact Rat.le_refl
   ·rw[if_pos (by simp[e])];have:=hc.2;grind
  have h2:∀d,Y<=b7 d->B<=d:=fun d hd=>by
   rw[hB,hsm]
   by_cases e:b7 c=Y
   ·rw[if_neg (by simp[e])];exact iu.1 (by rw[e];exact hd)
   ·rw[if_pos (by simp[e])]
    have:c<d:=nr.1 (by have:=hc.1;grind)
    omega
  rw[<-hB]
  refine⟨.sg qO,?_,fun z hz hl=>?_⟩
  ·rw[lL qO]
   by_cases i:min B 9218868437227405312=9218868437227405312
   ·rw[if_pos i]
   ·rw[if_neg i,show min B 9218868437227405312=B by omega,dB,if_pos rfl,dB,if_pos rfl];grind
  ·obtain⟨m,d,hd,e,_,_⟩:=hz.ex
   subst e
   rw[lL hd]at hl
   rw[lf qO,lf qO,if_pos rfl]
   cases m with
   |true=>
    rw[if_pos rfl]
    by_cases i:d=9218868437227405312
    ·omega
    ·rw[if_neg i,dB,if_pos rfl,dB,if_pos rfl]at hl
     have:=h2 d (by grind)
     omega
   |false=>
    exfalso
    by_cases i:d=9218868437227405312
    ·rw[if_pos i]at hl;cases hl
    ·rw[if_neg i,dB,if_neg Bool.false_ne_true,dB,if_pos rfl]at hl
     have:=lF d
     grind
theorem Ru.rS {q:Rat} (hq:q≠0):Ru q (rS q 3).1:=by
 have h:=N2 hq 3
 have h2:(Go.Proofs.YtiakeknbdclaoaaGreat.rS q 3).1=Go.Proofs.YtiakeknbdclaoaaGreat.flip (Go.Proofs.YtiakeknbdclaoaaGreat.rS (-q) 2).1:=by
  rw[show(2:Int)=sw 3 from rfl,h,yJ]
  exact(flip_flip (D7 q 3).1).symm
 rw[h2]
 exact Rd.flip (Rd.rS (by grind))
theorem wj (q:Rat):Rd q (Bv q 2).1:=by
 unfold Bv;split
 ·rename_i h;subst h;exact Rd.zero (n:=false)
 ·rename_i h;exact .rS h
theorem v9 (q:Rat):Ru q (Bv q 3).1:=by
 unfold Bv;split
 ·rename_i h;subst h;exact Ru.zero (n:=false)
 ·rename_i h;exact .rS h
theorem Nr {x y:Nat} {p q:Rat} (hx:dY x p) (hy:dY y q):Rd (p+q) (tu x y 2).1:=by
 rw[tu,hx.nan,hy.nan,hx.inf,hy.inf,if_neg qS,if_neg qS,if_neg qS,if_neg qS,BI,hx.val,hy.val]
 by_cases h0:p+q=0
 ·rw[if_pos h0,h0]
  split
  ·exact Rd.zero (n:=ik x)
  ·exact Rd.zero (n:=decide ((2:Int)=2))
 ·rw[if_neg h0];exact .rS h0
theorem Nv {x y:Nat} {p q:Rat} (hx:dY x p) (hy:dY y q):Ru (p+q) (tu x y 3).1:=by
 rw[tu,hx.nan,hy.nan,hx.inf,hy.inf,if_neg qS,if_neg qS,if_neg qS,if_neg qS,BI,hx.val,hy.val]
 by_cases h0:p+q=0
 ·rw[if_pos h0,h0]
  split
  ·exact Ru.zero (n:=ik x)
  ·exact Ru.zero (n:=decide ((3:Int)=2))
 ·rw[if_neg h0];exact .rS h0
theorem xI {x y:Nat} {p q:Rat} (hx:dY x p) (hy:dY y q):Rd (p*q) (uU x y 2).1:=by
 rw[uU,hx.nan,hy.nan,hx.inf,hy.inf,if_neg qS,if_neg qS,if_neg qS,hx.val,hy.val]
 by_cases h0:p*q=0
 ·have:(m4 x||m4 y)=true:=by
   rcases Rat.mul_eq_zero.1 h0 with h1|h1
   ·rw[hx.m4.2 h1];rfl
   ·rw[hy.m4.2 h1];simp
  rw[if_pos this,h0]
  exact .zero
 ·have:¬(m4 x||m4 y)=true:=by
   intro h1
   rcases(Bool.or_eq_true _ _).mp h1 with h2|h2
   ·exact h0 (by rw[hx.m4.1 h2,Rat.zero_mul])
   ·exact h0 (by rw[hy.m4.1 h2,Rat.mul_zero])
  rw[if_neg this];exact .rS h0
theorem wF {x y:Nat} {p q:Rat} (hx:dY x p) (hy:dY y q):Ru (p*q) (uU x y 3).1:=by
 rw[uU,hx.nan,hy.nan,hx.inf,hy.inf,if_neg qS,if_neg qS,if_neg qS,hx.val,hy.val]
 by_cases h0:p*q=0
 ·have:(m4 x||m4 y)=true:=by
   rcases Rat.mul_eq_zero.1 h0 with h1|h1
   ·rw[hx.m4.2 h1];rfl
   ·rw[hy.m4.2 h1];simp
  rw[if_pos this,h0]
  exact .zero
 ·have:¬(m4 x||m4 y)=true:=by
   intro h1
   rcases(Bool.or_eq_true _ _).mp h1 with h2|h2
   ·exact h0 (by rw[hx.m4.1 h2,Rat.zero_mul])
   ·exact h0 (by rw[hy.m4.1 h2,Rat.mul_zero])
  rw[if_neg this];exact .rS h0
def dF (o:Int) (f:Nat):List Nat->Nat
 |[]=>f
 |x::l=>dF o (if(lU x f).2=true/\(lU x f).1=o then x else f) l
theorem uK {x y:Nat} (hx:j8 x) (hy:j8 y):lU x y=(sK (pl x) (pl y),true):=by
 rw[lU,hx.nan,hy.nan,if_neg qS]
theorem Hh {a b:Int} (h:a<=b):sK a b<=0:=by unfold sK;split;omega;split<;>omega
theorem CH {a b:Int}:sK a b= -1↔a<b:=by unfold sK;split;simp[*];split<;>omega
theorem Dr {a b:Int}:sK a b=1↔b<a:=by unfold sK;split;omega;split<;>simp[*]
theorem LD:∀{l:List Nat} {f:Nat},j8 f->(∀x∈l,j8 x)->j8 (dF (-1) f l)/\(dF (-1) f l∈f::l)/\∀x∈f::l,pl (dF (-1) f l)<=pl x:=by
 intro l
 induction l with
 |nil=>intro f hf _;exact⟨hf,by simp[dF],fun x hx=>by simp at hx;subst hx;exact Int.le_refl _⟩
 |cons y l ih=>
  intro f hf hl
  have hy:j8 y:=hl y List.mem_cons_self
  rw[dF,uK hy hf]
  by_cases h:sK (pl y) (pl f)= -1
  ·rw[if_pos ⟨rfl,h⟩]
   obtain⟨i1,i2,i3⟩:=ih hy fun x hx=>hl x (List.mem_cons_of_mem _ hx)
   refine⟨i1,List.mem_cons_of_mem _ i2,fun x hx=>?_⟩
   rcases List.mem_cons.1 hx with e|e
   ·subst e
    have:=i3 y List.mem_cons_self
    have:=CH.1 h
    omega
   ·exact i3 x e
  ·rw[if_neg (fun e=>h e.2)]
   obtain⟨i1,i2,i3⟩:=ih hf fun x hx=>hl x (List.mem_cons_of_mem _ hx)
   refine⟨i1,?_,fun x hx=>?_⟩
   ·rcases List.mem_cons.1 i2 with e|e
    ·rw[e];exact List.mem_cons_self
    ·exact List.mem_cons_of_mem _ (List.mem_cons_of_mem _ e)
   ·rcases List.mem_cons.1 hx with e|e
    ·subst e;exact i3 _ List.mem_cons_self
    ·rcases List.mem_cons.1 e with e|e
     ·subst e
      have:=i3 f List.mem_cons_self
      have:=mt CH.2 h
      omega
     ·exact i3 x (List.mem_cons_of_mem _ e)
theorem Kq:∀{l:List Nat} {f:Nat},j8 f->(∀x∈l,j8 x)->j8 (dF 1 f l)/\(dF 1 f l∈f::l)/\∀x∈f::l,pl x<=pl (dF 1 f l):=by
 intro l
 induction l with
 |nil=>intro f hf _;exact⟨hf,by simp[dF],fun x hx=>by simp at hx;subst hx;exact Int.le_refl _⟩
 |cons y l ih=>
  intro f hf hl
  have hy:j8 y:=hl y List.mem_cons_self
  rw[dF,uK hy hf]
  by_cases h:sK (pl y) (pl f)=1
  ·rw[if_pos ⟨rfl,h⟩]
   obtain⟨i1,i2,i3⟩:=ih hy fun x hx=>hl x (List.mem_cons_of_mem _ hx)
   refine⟨i1,List.mem_cons_of_mem _ i2,fun x hx=>?_⟩
   rcases List.mem_cons.1 hx with e|e
   ·subst e
    have:=i3 y List.mem_cons_self
    have:=Dr.1 h
    omega
   ·exact i3 x e
  ·rw[if_neg (fun e=>h e.2)]
   obtain⟨i1,i2,i3⟩:=ih hf fun x hx=>hl x (List.mem_cons_of_mem _ hx)
   refine⟨i1,?_,fun x hx=>?_⟩
   ·rcases List.mem_cons.1 i2 with e|e
    ·rw[e];exact List.mem_cons_self
    ·exact List.mem_cons_of_mem _ (List.mem_cons_of_mem _ e)
   ·rcases List.mem_cons.1 hx with e|e
    ·subst e;exact i3 _ List.mem_cons_self
    ·rcases List.mem_cons.1 e with e|e
     ·subst e
      have:=i3 f List.mem_cons_self
      have:=mt Dr.2 h
      omega
     ·exact i3 x (List.mem_cons_of_mem _ e)
abbrev fC:=Nat×Nat
abbrev Pa:=Nat->Nat->Int->Nat×Int
noncomputable def HT (op:Pa) (i j:fC):fC:=
 (dF (-1) (op i.1 j.1 2).1 [(op i.1 j.2 2).1,(op i.2 j.1 2).1,(op i.2 j.2 2).1],dF 1 (op i.1 j.1 3).1 [(op i.1 j.2 3).1,(op i.2 j.1 3).1,(op i.2 j.2 3).1])
noncomputable def jH (i j:fC):fC:=HT uU i j
noncomputable def vu (i j:fC):fC:=((tu i.1 j.1 2).1,(tu i.2 j.2 3).1)
noncomputable def OJ (q:Rat):fC:=((Bv q 2).1,(Bv q 3).1)
def kK (i:fC):Bool:=(lU i.1 i.2).2&&decide ((lU i.1 i.2).1<=0)
def HK (i:fC) (a:Rat):Bool:=decide (pV i.1 a)&&decide (qi i.2 a)
structure gV (i:fC) (A B:Rat):Prop where
 lo:dY i.1 A
 hi:dY i.2 B
 le:A<=B
structure EO (i:fC) (a:Rat):Prop where
 n1:j8 i.1
 n2:j8 i.2
 le:pV i.1 a
 ge:qi i.2 a
theorem EO.right {i:fC} {a:Rat} (h:EO i a):kK i=true:=by
 rw[kK,uK h.n1 h.n2,Bool.true_and]
 exact decide_eq_true (Hh (uj h.n1 h.n2 h.le h.ge))
theorem EO.has {i:fC} {a:Rat} (h:EO i a):HK i a=true:=by
 rw[HK,decide_eq_true h.le,decide_eq_true h.ge];rfl
theorem gV.P1 {i:fC} {A B a:Rat} (h:gV i A B) (h1:A<=a) (h2:a<=B):EO i a:=⟨h.lo.num,h.hi.num,h.lo.JC.2 h1,h.hi.LQ.2 h2⟩
structure um (ps:List Rat) (z:Nat):Prop where
 some:∃p∈ps,Rd p z
 all:∀p∈ps,∀d,Rd p d->pl z<=pl d
structure t8 (ps:List Rat) (z:Nat):Prop where
 some:∃p∈ps,Ru p z
 all:∀p∈ps,∀d,Ru p d->pl d<=pl z
theorem um.num {ps:List Rat} {z:Nat} (h:um ps z):j8 z:=let⟨_,_,r⟩:=h.some;r.num
theorem t8.num {ps:List Rat} {z:Nat} (h:t8 ps z):j8 z:=let⟨_,_,r⟩:=h.some;r.num
theorem um.le {ps:List Rat} {z:Nat} {a:Rat} (h:um ps z) (hp:∃p∈ps,p<=a):pV z a:=by
 obtain⟨p,hp,ha⟩:=hp
 have r:=wj p
 exact(r.le.mono r.num h.num (h.all p hp _ r)).le ha
theorem t8.ge {ps:List Rat} {z:Nat} {a:Rat} (h:t8 ps z) (hp:∃p∈ps,a<=p):qi z a:=by
 obtain⟨p,hp,ha⟩:=hp
 have r:=v9 p
 exact(r.ge.mono r.num h.num (h.all p hp _ r)).ge ha
theorem um.N0 {p0 p1 p2 p3:Rat} {d0 d1 d2 d3:Nat} (h0:Rd p0 d0) (h1:Rd p1 d1) (h2:Rd p2 d2) (h3:Rd p3 d3):um [p0,p1,p2,p3] (dF (-1) d0 [d1,d2,d3]):=by
 obtain⟨b1,b2,b3⟩:=LD (f:=d0) (l:=[d1,d2,d3]) h0.num (fun x hx=>by simp at hx;rcases hx with e|e|e<;>subst e;exact h1.num;exact h2.num;exact h3.num)
 generalize dF (-1) d0 [d1,d2,d3]=z at*
 refine⟨?_,fun p hp d hd=>?_⟩
 ·simp only[List.mem_cons,List.not_mem_nil,or_false]at b2
  rcases b2 with e|e|e|e<;>subst e
  ·exact⟨p0,qS,h0⟩
  ·exact⟨p1,qS,h1⟩
  ·exact⟨p2,qS,h2⟩
  ·exact⟨p3,qS,h3⟩
 ·simp only[List.mem_cons,List.not_mem_nil,or_false]at hp
  rcases hp with e|e|e|e<;>subst e
  ·exact Int.le_trans (b3 d0 qS) (h0.mono hd Rat.le_refl)
  ·exact Int.le_trans (b3 d1 qS) (h1.mono hd Rat.le_refl)
  ·exact Int.le_trans (b3 d2 qS) (h2.mono hd Rat.le_refl)
  ·exact Int.le_trans (b3 d3 qS) (h3.mono hd Rat.le_refl)
theorem t8.N0 {p0 p1 p2 p3:Rat} {d0 d1 d2 d3:Nat} (h0:Ru p0 d0) (h1:Ru p1 d1) (h2:Ru p2 d2) (h3:Ru p3 d3):t8 [p0,p1,p2,p3] (dF 1 d0 [d1,d2,d3]):=by
 obtain⟨b1,b2,b3⟩:=Kq (f:=d0) (l:=[d1,d2,d3]) h0.num (fun x hx=>by simp at hx;rcases hx with e|e|e<;>subst e;exact h1.num;exact h2.num;exact h3.num)
 generalize dF 1 d0 [d1,d2,d3]=z at*
 refine⟨?_,fun p hp d hd=>?_⟩
 ·simp only[List.mem_cons,List.not_mem_nil,or_false]at b2
  rcases b2 with e|e|e|e<;>subst e
  ·exact⟨p0,qS,h0⟩
  ·exact⟨p1,qS,h1⟩
  ·exact⟨p2,qS,h2⟩
  ·exact⟨p3,qS,h3⟩
 ·simp only[List.mem_cons,List.not_mem_nil,or_false]at hp
  rcases hp with e|e|e|e<;>subst e
  ·exact Int.le_trans (hd.mono h0 Rat.le_refl) (b3 d0 qS)
  ·exact Int.le_trans (hd.mono h1 Rat.le_refl) (b3 d1 qS)
  ·exact Int.le_trans (hd.mono h2 Rat.le_refl) (b3 d2 qS)
  ·exact Int.le_trans (hd.mono h3 Rat.le_refl) (b3 d3 qS)
theorem Rd.lo {p:Rat} {z:Nat} (h:Rd p z):um [p] z:=⟨⟨p,qS,h⟩,fun q hq d hd=>by simp at hq;subst hq;exact h.mono hd Rat.le_refl⟩
theorem Ru.hi {p:Rat} {z:Nat} (h:Ru p z):t8 [p] z:=⟨⟨p,qS,h⟩,fun q hq d hd=>by simp at hq;subst hq;exact hd.mono h Rat.le_refl⟩
theorem Hf {ps qs:List Rat} {i:fC} {a:Rat} (h:um ps i.1) (h':t8 qs i.2) (hp:∃p∈ps,p<=a) (hq:∃q∈qs,a<=q):EO i a:=⟨h.num,h'.num,h.le hp,h'.ge hq⟩
section
section
variable {x y:fC} {A B C D:Rat}
theorem Cn (hx:gV x A B) (hy:gV y C D):um [A+C] (vu x y).1:=(Nr hx.lo hy.lo).lo
theorem Cg (hx:gV x A B) (hy:gV y C D):t8 [B+D] (vu x y).2:=(Nv hx.hi hy.hi).hi
theorem xR (hx:gV x A B) (hy:gV y C D):um [A*C,A*D,B*C,B*D] (jH x y).1:=.N0 (xI hx.lo hy.lo) (xI hx.lo hy.hi) (xI hx.hi hy.lo) (xI hx.hi hy.hi)
theorem xY (hx:gV x A B) (hy:gV y C D):t8 [A*C,A*D,B*C,B*D] (jH x y).2:=.N0 (wF hx.lo hy.lo) (wF hx.lo hy.hi) (wF hx.hi hy.lo) (wF hx.hi hy.hi)
theorem Bf {e b c d:Rat} (h1:c<=b) (h2:b<=d):e*c<=e*b\/e*d<=e*b:=by
 by_cases h:0<=e
 ·left;have:=Rat.mul_nonneg h (show 0<=b-c by grind);grind
 ·right;have:=Rat.mul_nonneg (show 0<= -e by grind) (show 0<=d-b by grind);grind
theorem Co {e b c d:Rat} (h1:c<=b) (h2:b<=d):e*b<=e*c\/e*b<=e*d:=by
 by_cases h:0<=e
 ·right;have:=Rat.mul_nonneg h (show 0<=d-b by grind);grind
 ·left;have:=Rat.mul_nonneg (show 0<= -e by grind) (show 0<=b-c by grind);grind
theorem NK {a b A B C D:Rat} (h1:A<=a) (h2:a<=B) (h3:C<=b) (h4:b<=D):∃p∈[A*C,A*D,B*C,B*D],p<=a*b:=by
 rcases Bf (e:=b) h1 h2 with h|h
 ·rcases Bf (e:=A) h3 h4 with g|g
  ·exact⟨A*C,qS,by grind⟩
  ·exact⟨A*D,qS,by grind⟩
 ·rcases Bf (e:=B) h3 h4 with g|g
  ·exact⟨B*C,qS,by grind⟩
  ·exact⟨B*D,qS,by grind⟩
theorem MQ {a b A B C D:Rat} (h1:A<=a) (h2:a<=B) (h3:C<=b) (h4:b<=D):∃p∈[A*C,A*D,B*C,B*D],a*b<=p:=by
 rcases Co (e:=b) h1 h2 with h|h
 ·rcases Co (e:=A) h3 h4 with g|g
  ·exact⟨A*C,qS,by grind⟩
  ·exact⟨A*D,qS,by grind⟩
 ·rcases Co (e:=B) h3 h4 with g|g
  ·exact⟨B*C,qS,by grind⟩
  ·exact⟨B*D,qS,by grind⟩
variable {x y:fC} {A B C D a b:Rat} (hx:gV x A B) (hy:gV y C D) (h1:A<=a) (h2:a<=B) (h3:C<=b) (h4:b<=D)
include hx hy h1 h2 h3 h4
theorem HE:EO (vu x y) (a+b):=Hf (Cn hx hy) (Cg hx hy) ⟨A+C,qS,by grind⟩ ⟨B+D,qS,by grind⟩
theorem xX:EO (jH x y) (a*b):=Hf (xR hx hy) (xY hx hy) (NK h1 h2 h3 h4) (MQ h1 h2 h3 h4)
end
abbrev oo (i:fC):PV:=.agg [.int .u64 (i.1:Int),.int .u64 (i.2:Int)]
abbrev Nf (l:List fC):List PV:=l.map oo
structure ow (i:fC):Prop where
 lo:i.1<18446744073709551616
 hi:i.2<18446744073709551616
theorem iA (i:fC):ct (oo i):=.agg _ fun c hc=>by
 simp at hc
 rcases hc with rfl|rfl<;>exact .int _ _
end
def kW (i:fC):Bool:= !isInf i.1&& !isInf i.2
theorem EO.fin {i:fC} {a:Rat} (h:EO i a) (hf:kW i=true):∃A B,gV i A B/\A<=a/\a<=B:=by
 rw[kW,Bool.and_eq_true,Bool.not_eq_true',Bool.not_eq_true']at hf
 have f1:dY i.1 (iM i.1):=⟨h.n1.lt,h.n1.nan,hf.1,rfl⟩
 have f2:dY i.2 (iM i.2):=⟨h.n2.lt,h.n2.nan,hf.2,rfl⟩
 have l1:=f1.JC.1 h.le
 have l2:=f2.LQ.1 h.ge
 exact⟨_,_,⟨f1,f2,Rat.le_trans l1 l2⟩,l1,l2⟩
theorem gV.kW {i:fC} {A B:Rat} (h:gV i A B):kW i=true:=by rw[Go.Proofs.YtiakeknbdclaoaaGreat.kW,h.lo.inf,h.hi.inf];rfl
noncomputable def jE (l m:Nat->fC):Nat->Option fC
 |0=>if kW (jH (l 0) (m 0))then some (jH (l 0) (m 0))else none
 |k+1=>match jE l m k with
  |none=>none
  |some s=>if kW (jH (l (k+1)) (m (k+1)))then(if kW (vu s (jH (l (k+1)) (m (k+1))))then some (vu s (jH (l (k+1)) (m (k+1))))else none)else none
def nw (a b:Nat->Rat):Nat->Rat
 |0=>0
 |k+1=>nw a b k+a k*b k
theorem xU {l m:Nat->fC} {A B C D a b:Nat->Rat} {n:Nat} (hl:∀k,k<=n->gV (l k) (A k) (B k)) (hm:∀k,k<=n->gV (m k) (C k) (D k)) (ha:∀k,k<=n->A k<=a k/\a k<=B k) (hb:∀k,k<=n->C k<=b k/\b k<=D k):
  ∀k,k<=n->∀s,jE l m k=some s->∃L H,gV s L H/\L<=nw a b (k+1)/\nw a b (k+1)<=H:=by
 intro k
 induction k with
 |zero=>
  intro hk s hs
  rw[jE]at hs
  split at hs
  ·rename_i hf
   cases hs
   have:=(xX (hl 0 hk) (hm 0 hk) (ha 0 hk).1 (ha 0 hk).2 (hb 0 hk).1 (hb 0 hk).2).fin hf
   rw[nw,nw,Rat.zero_add];exact this
  ·cases hs
 |succ k ih=>
  intro hk s hs
  rw[jE]at hs
  split at hs
  ·cases hs
  ·rename_i s0 h0
   obtain⟨L,H,h1,h2,h3⟩:=ih qO s0 h0
   split at hs
   ·rename_i hp
    split at hs
    ·rename_i hf
     cases hs
     obtain⟨P,Q,g1,g2,g3⟩:=(xX (hl _ hk) (hm _ hk) (ha _ hk).1 (ha _ hk).2 (hb _ hk).1 (hb _ hk).2).fin hp
     have:=(HE h1 g1 h2 h3 g2 g3).fin hf
     rw[nw];exact this
    ·cases hs
   ·cases hs
theorem o9 (f:Nat) (hf:f<18446744073709551616) (b:Bool) (hb:isInf f=b):ae Tryz.prog 118 [.int .u64 f] (.p (.bool b)) []:=by
 refine aW Tryz.func118 ?_
 refine ai.uc f rfl rfl hf ?_
 cases b with
 |true=>
  have:=of_decide_eq_true hb
  refine ao.yes (jx qO) ?_
  exact ab.pure (.tf _)
 |false=>
  have:=of_decide_eq_false hb
  refine ao.no (iO qO) ?_
  exact ab.pure (.tf _)
theorem AW (i:fC) (hi:ow i):ae Tryz.prog 63 [oo i] (.p (.bool (kK i))) []:=by
 refine aW Tryz.func63 ?_
 have c:=AB i.1 i.2 hi.lo hi.hi
 have hr:kK i=((lU i.1 i.2).2&&decide ((lU i.1 i.2).1<=0)):=rfl
 obtain⟨⟨o,is⟩,he⟩:∃r,r=lU i.1 i.2:=⟨_,rfl⟩
 rw[<-he]at c hr
 rw[hr]
 refine aa.aO (c) (fun _=>rfl) ?_
 cases is with
 |true=>
  refine gv ?_
  refine ao.sym ?_
  rw[Bool.true_and]
  exact ab.pure (.p _ (.bool _))
 |false=>
  refine fI ?_
  exact ab.pure (.tf _)
theorem Dy (q:Rat) {k:Nat} (hq:Bz q k) (hk:k<=65536):ae Tryz.prog 17 [aB q] (.p (oo (OJ q))) []:=by
 refine aW Tryz.func17 ?_
 refine aa.aO (xP q 2 hq hk) (fun _=>rfl) ?_
 refine aa.aO (xP q 3 hq hk) (fun _=>rfl) ?_
 exact ab.pure (.p _ (iA (OJ q)))
structure zo (f:FuncId) (op:Pa):Prop where
 call:∀(x y:Nat) (mode:Int),x<18446744073709551616->y<18446744073709551616->ae Tryz.prog f [.int .u64 x,.int .u64 y,.int .i64 mode] (oR (op x y mode)) []
 lt:∀(x y:Nat) (mode:Int),x<18446744073709551616->y<18446744073709551616->(op x y mode).1<18446744073709551616
theorem DF:zo 119 tu:=⟨fun x y m hx hy=>Gw x y m hx hy,fun x y m hx hy=>(M5 hx hy m).1⟩
theorem Ll:zo 116 uU:=⟨fun x y m hx hy=>GM x y m hx hy,fun x y m hx hy=>(Mu x y m).1⟩
theorem jf {f:FuncId} {op:Pa} (h:zo f op) (x y:Nat) (mode:Int) (hx:x<18446744073709551616) (hy:y<18446744073709551616):
  ae Tryz.prog 120 [.fn f [],.int .u64 x,.int .u64 y,.int .i64 mode] (.p (.int .u64 ((op x y mode).1:Nat))) []:=by
 refine aW Tryz.func120 ?_
 refine aa.aO (h.call x y mode hx hy) (fun _=>rfl) ?_
 exact ab.pure (.p _ (.int _ _))
theorem IX (i j:fC) (hi:ow i) (hj:ow j):ae Tryz.prog 62 [oo i,oo j] (.p (oo (vu i j))) []:=by
 refine aW Tryz.func62 ?_
 refine cS ?_
 repeat refine aq ?_
 refine ag (aa.pure (jf DF i.1 j.1 2 hi.lo hj.lo) af) ?_
 repeat refine aq ?_
 refine ag (aa.pure (jf DF i.2 j.2 3 hi.hi hj.hi) af) ?_
 repeat refine aq ?_
 refine cX ?_
 exact ab.pure (.p _ (iA (vu i j)))
theorem Ek (o:Int) (x:Nat):∀(l:List Nat) (f:Nat),dF o f (l++[x])=(if(lU x (dF o f l)).2=true/\(lU x (dF o f l)).1=o then x else dF o f l):=by
 intro l
 induction l with
 |nil=>intro f;rfl
 |cons y l ih=>intro f;exact ih _
theorem FC {o:Int} {l:List Nat} {f i:Nat} (h:i<l.length):dF o f (l.take (i+1))=(if(lU (l.getD i 0) (dF o f (l.take i))).2=true/\(lU (l.getD i 0) (dF o f (l.take i))).1=o then l.getD i 0 else dF o f (l.take i)):=by
 have e:l.take (i+1)=l.take i++[l.getD i 0]:=by rw[List.take_add_one,List.getElem?_eq_getElem h];simp[List.getD,List.getElem?_eq_getElem h]
 rw[e,Ek]
theorem Ku {o:Int}:∀{l:List Nat} {f:Nat},f<18446744073709551616->(∀x∈l,x<18446744073709551616)->dF o f l<18446744073709551616:=by
 intro l
 induction l with
 |nil=>intro f hf _;exact hf
 |cons y l ih=>
  intro f hf hl
  rw[dF]
  refine ih ?_ fun x hx=>hl x (List.mem_cons_of_mem _ hx)
  split
  ·exact hl y List.mem_cons_self
  ·exact hf
theorem Ec (m:Bool) (o:Int) (f:Nat) (l:List Nat) (hf:f<18446744073709551616) (hl:∀x∈l,x<18446744073709551616) (hn:l.length<=1000):
  ae Tryz.prog 153 [.int .i64 o,.sl m 1 (EP (f::l))] (.p (.int .u64 ((dF o f l:Nat):Int))) []:=by
 refine aW Tryz.func153 ?_
 refine aF.ub 0 rfl qS ?_
 refine SZ.mk ((l.length+1:Nat):Int) qS ?_
 refine cm.mk qS ?_
 refine fO.mk 1 (l.length+1) rfl qS qO qS ?_
 refine dp.mk (EP l) (by simp;exact List.take_of_length_le qS) ?_
 refine SZ.mk (l.length:Int) qS ?_
 refine aJ.mk Nat (fun i=>([(0,.p (.int .i64 o)),(5,.p (.int .u64 ((dF o f (l.take i):Nat):Int))),(14,.p (.sl m 1 (EP l))),(15,.p (.int .i64 l.length)),(16,.p (.int .i64 i))],[])) (fun i=>i<=l.length) (fun i=>l.length-i) 0 []
  (Nat.zero_le _) aY ?_
 intro i (h1:i<=l.length)
 by_cases hi:i<l.length
 ·refine bo ?_
  refine aF.ub i rfl hi ?_
  have hx:l.getD i 0<18446744073709551616:=hl _ (by rw[List.getD,List.getElem?_eq_getElem hi];exact List.getElem_mem hi)
  have hs:=FC (o:=o) (f:=f) hi
  have hg:dF o f (l.take i)<18446744073709551616:=Ku hf fun x hx=>hl x (List.mem_of_mem_take hx)
  have c:=AB (l.getD i 0) (dF o f (l.take i)) hx hg
  obtain⟨x,hxd⟩:∃x,x=l.getD i 0:=⟨_,rfl⟩
  obtain⟨g,hgd⟩:∃g,g=dF o f (l.take i):=⟨_,rfl⟩
  rw[<-hxd,<-hgd]at hs c
  rw[<-hxd,<-hgd]
  obtain⟨⟨z,is⟩,hr⟩:∃r,r=lU x g:=⟨_,rfl⟩
  rw[<-hr]at hs c
  refine aa.aO (c) (fun _=>rfl) ?_
  cases is with
  |true=>
   refine gv ?_
   by_cases hz:z=o
   ·refine ao.yes (jx hz) ?_
    rw[if_pos ⟨rfl,hz⟩]at hs
    refine a5 (i+1) ?_
    exact⟨i+1,[],hi,cA,aY (ss:=⟨rfl,congrArg (fun(n:Nat)=>AV.p (.int .u64 (n:Int))) hs,rfl,rfl,rfl,trivial⟩)⟩
   ·refine ao.no (iO hz) ?_
    rw[if_neg (fun e=>hz e.2)]at hs
    refine a5 (i+1) ?_
    exact⟨i+1,[],hi,cA,aY (ss:=⟨rfl,congrArg (fun(n:Nat)=>AV.p (.int .u64 (n:Int))) hs,rfl,rfl,rfl,trivial⟩)⟩
  |false=>
   refine fI ?_
   rw[if_neg (fun e=>by cases e.1)]at hs
   refine a5 (i+1) ?_
   exact⟨i+1,[],hi,cA,aY (ss:=⟨rfl,congrArg (fun(n:Nat)=>AV.p (.int .u64 (n:Int))) hs,rfl,rfl,rfl,trivial⟩)⟩
 ·refine bd ?_
  have:i=l.length:=qO
  subst this
  rw[List.take_length]
  exact ab.pure (.p _ (.int _ _))
theorem z8 {f:FuncId} {op:Pa} (h:zo f op) (m1 m2 m3:Bool) (i j:fC) (hi:ow i) (hj:ow j) (mode o:Int):
  ae Tryz.prog 152 [.int .i64 mode,.int .i64 o,.f5 m1 (.fn f []),.f5 m2 (oo i),.f5 m3 (oo j)] (.p (.int .u64 ((dF o (op i.1 j.1 mode).1 [(op i.1 j.2 mode).1,(op i.2 j.1 mode).1,(op i.2 j.2 mode).1]:Nat):Int))) []:=by
 refine aW Tryz.func152 ?_
 refine cS ?_
 repeat refine aq ?_
 refine ag (aa.pure (jf h i.1 j.1 mode hi.lo hj.lo) af) ?_
 repeat refine aq ?_
 refine ag (aa.pure (jf h i.1 j.2 mode hi.lo hj.hi) af) ?_
 repeat refine aq ?_
 refine ag (aa.pure (jf h i.2 j.1 mode hi.hi hj.lo) af) ?_
 repeat refine aq ?_
 refine ag (aa.pure (jf h i.2 j.2 mode hi.hi hj.hi) af) ?_
 repeat refine aq ?_
 refine e9.mk _ _ (bl.all rfl (aa.pure (Ec true o _ [(op i.1 j.2 mode).1,(op i.2 j.1 mode).1,(op i.2 j.2 mode).1] (h.lt _ _ _ hi.lo hj.lo) (fun x hx=>by
  simp at hx
  rcases hx with e|e|e<;>subst e
  ·exact h.lt _ _ _ hi.lo hj.hi
  ·exact h.lt _ _ _ hi.hi hj.lo
  ·exact h.lt _ _ _ hi.hi hj.hi) qS) (And.intro rfl rfl))) rfl ?_
 repeat refine aq ?_
 refine cX ?_
 exact ab.pure (.p _ (.int _ _))
theorem Kw {f:FuncId} {op:Pa} (h:zo f op) (i j:fC) (hi:ow i) (hj:ow j):ae Tryz.prog 117 [.fn f [],oo i,oo j] (.p (oo (HT op i j))) []:=by
 refine aW Tryz.func117 ?_
 refine aa.pure (pvs:=[.int .i64 2,.int .i64 (-1),.f5 true (.fn f []),.f5 true (oo i),.f5 true (oo j)]) (z8 h true true true i j hi hj 2 (-1)) ?_
 refine aa.pure (pvs:=[.int .i64 3,.int .i64 1,.f5 true (.fn f []),.f5 true (oo i),.f5 true (oo j)]) (z8 h true true true i j hi hj 3 1) ?_
 exact ab.pure (.p _ (iA (HT op i j)))
theorem ze (i j:fC) (hi:ow i) (hj:ow j):ae Tryz.prog 60 [oo i,oo j] (.p (oo (jH i j))) []:=by
 refine aW Tryz.func60 ?_
 refine aa.pure (Kw Ll i j hi hj) ?_
 exact ab.pure (.p _ (iA (jH i j)))
def vO (f:Nat) (a:Rat):Int:=if isInf f then(if ik f then-1 else 1)else if dC f then 0 else nF (iM f) a
theorem CI {f:Nat} (hf:f<18446744073709551616) (h:isInf f=true):f=9218868437227405312↔ik f=false:=by
 have h1:=of_decide_eq_true h
 unfold ik
 rw[decide_eq_false_iff_not]
 omega
def OT (x y z:PV) (a:Rat):Prop:=∀f:Nat,ae Tryz.prog 36 [aB (iM f),.agg [x,y,z]] (.p (.int .i64 (nF (iM f) a))) []
theorem AG (f:Nat) (a:Rat) (hf:f<18446744073709551616) {u v z:PV} (hc:OT u v z a):ae Tryz.prog 64 [.int .u64 f,.agg [u,v,z]] (.p (.int .i64 (vO f a))) []:=by
 refine aW Tryz.func64 ?_
 unfold vO
 cases h:isInf f with
 |true=>
  refine aa.pure (o9 f hf _ h) ?_
  refine gv ?_
  rw[if_pos rfl]
  cases hn:ik f with
  |true=>
   have:f≠9218868437227405312:=fun e=>by rw[(CI hf h).1 e]at hn;cases hn
   refine ao.no (iO qO) ?_
   exact ab.pure (.p _ (.int _ _))
  |false=>
   have:=(CI hf h).2 hn
   refine ao.yes (jx qO) ?_
   exact ab.pure (.p _ (.int _ _))
 |false=>
  refine aa.pure (o9 f hf _ h) ?_
  refine fI ?_
  rw[if_neg Bool.false_ne_true]
  cases hn:dC f with
  |true=>
   refine aa.aO (Hr f hf (.inl hn)) (fun _=>rfl) ?_
   refine ir ?_
   exact ab.pure (.p _ (.int _ _))
  |false=>
   refine aa.aO (pR f hf hn h) (fun _=>rfl) ?_
   refine cJ ?_
   refine aa.pure (hc f) ?_
   exact ab.pure (.p _ (.int _ _))
theorem Em {p q:Rat}:(nF p q<=0)↔p<=q:=by
 unfold nF
 split
 ·rename_i h;exact⟨fun _=>by grind,fun _=>qO⟩
 ·rename_i h;split
  ·rename_i e;exact⟨fun _=>by rw[e];exact Rat.le_refl,fun _=>qO⟩
  ·rename_i e;exact⟨fun h=>qO,fun h2=>(e (by grind)).elim⟩
theorem Fi {p q:Rat}:(0<=nF p q)↔q<=p:=by
 unfold nF
 split
 ·rename_i h;exact⟨fun h2=>qO,fun h2=>by grind⟩
 ·rename_i h;split
  ·rename_i e;exact⟨fun _=>by rw[e];exact Rat.le_refl,fun _=>qO⟩
  ·rename_i e;exact⟨fun _=>by grind,fun _=>qO⟩
theorem LC {x:Nat} {a:Rat} (h:dC x=false):decide (vO x a<=0)=decide (pV x a):=by
 apply decide_eq_decide.2
 unfold vO pV
 rw[h]
 cases isInf x with
 |true=>rw[if_pos rfl,if_pos rfl];cases ik x<;>simp
 |false=>rw[if_neg Bool.false_ne_true,if_neg Bool.false_ne_true,if_neg Bool.false_ne_true];exact Em
theorem Lk {x:Nat} {a:Rat} (h:dC x=false):decide (vO x a>=0)=decide (qi x a):=by
 apply decide_eq_decide.2
 unfold vO qi
 rw[h]
 cases isInf x with
 |true=>rw[if_pos rfl,if_pos rfl];cases ik x<;>simp
 |false=>rw[if_neg Bool.false_ne_true,if_neg Bool.false_ne_true,if_neg Bool.false_ne_true];exact Fi
theorem Er {i:fC} (h:kK i=true):dC i.1=false/\dC i.2=false:=by
 rw[kK,lU,Bool.and_eq_true]at h
 have h:=h.1
 split at h
 ·cases h
 ·rename_i e;simpa using e
theorem EF (i:fC) (a:Rat) (hi:ow i) {u v z:PV} (hc:OT u v z a):ae Tryz.prog 22 [oo i,.agg [u,v,z]] (.p (.bool (kK i&&HK i a))) []:=by
 refine aW Tryz.func22 ?_
 have c:=AW i hi
 cases hr:kK i with
 |false=>
  rw[hr]at c
  refine aa.pure (c) ?_
  refine fI ?_
  exact ab.pure (.tf _)
 |true=>
  rw[hr]at c
  obtain⟨n1,n2⟩:=Er hr
  have e1:=LC (a:=a) n1
  have e2:=Lk (a:=a) n2
  refine aa.pure (c) ?_
  refine gv ?_
  refine aa.pure (AG i.1 a hi.lo hc) ?_
  rw[HK,Bool.true_and]
  cases h1:decide (pV i.1 a)with
  |false=>
   rw[h1]at e1
   refine ao.no (e1) ?_
   exact ab.pure (.tf _)
  |true=>
   rw[h1]at e1
   refine ao.yes (e1) ?_
   refine aa.pure (AG i.2 a hi.hi hc) ?_
   cases h2:decide (qi i.2 a)with
   |false=>
    rw[h2]at e2
    refine ao.no (e2) ?_
    exact ab.pure (.tf _)
   |true=>
    rw[h2]at e2
    refine ao.yes (e2) ?_
    exact ab.pure (.tf _)
theorem yq (i:fC) (a:Rat) (hi:ow i) {k:Nat} (ha:Bz a k) (hk:k<=65536):ae Tryz.prog 22 [oo i,aB a] (.p (.bool (kK i&&HK i a))) []:=
 EF i a hi fun f=>fJ (iM f) a (wL f).sz ha.sz qO
theorem gV.ok {i:fC} {A B:Rat} (h:gV i A B):ow i:=⟨h.lo.lt,h.hi.lt⟩
abbrev OA (r:fC×Int):AV:=.bK [.p (oo r.1),.p (.int .i64 r.2)]
abbrev Al (n:Nat) (L:Nat->fC):List PV:=Nf ((List.range n).map L)
theorem sj {n k:Nat} {L:Nat->fC} (h:k<n):(Al n L)[k]?=some (oo (L k)):=by
 rw[List.getElem?_map,List.getElem?_map,List.getElem?_range h];rfl
theorem oI (n:Nat) (L:Nat->fC):Al n L++[oo (L n)]=Al (n+1) L:=by
 rw[Al,Al,List.range_succ,List.map_append,Nf,Nf,List.map_append];rfl
noncomputable def Fv (L M:Nat->fC) (n m:Nat):fC×Int:=
 if n≠m\/n=0 then((0,0),3)else match jE L M (n-1)with
  |none=>((0,0),10)
  |some s=>(s,0)
theorem qF {L M:Nat->fC} {k:Nat} (h:jE L M k=none):∀j,k<=j->jE L M j=none:=by
 intro j hj
 induction j with
 |zero=>rwa[show k=0 by omega]at h
 |succ j ih=>
  by_cases e:k=j+1
  ·rwa[e]at h
  ·rw[jE,ih qO]
theorem vQ {L M:Nat->fC} {n m:Nat} (h:n≠m\/n=0):Fv L M n m=((0,0),3):=if_pos h
theorem qz {L M:Nat->fC} {n:Nat} (h0:n≠0) (h:jE L M (n-1)=none):Fv L M n n=((0,0),10):=by
 rw[Fv,if_neg qO,h]
theorem qB {L M:Nat->fC} {n:Nat} {s:fC} (h0:n≠0) (h:jE L M (n-1)=some s):Fv L M n n=(s,0):=by
 rw[Fv,if_neg qO,h]
theorem w6 (i:fC) (h1:j8 i.1) (h2:j8 i.2) (b:Bool) (hb:kW i=b):ae Tryz.prog 61 [oo i] (.p (.bool (!b))) []:=by
 obtain⟨x,y⟩:=i
 have h1:j8 x:=h1
 have h2:j8 y:=h2
 rw[show kW (x,y)=(!isInf x&& !isInf y)from rfl]at hb
 refine aW Tryz.func61 ?_
 by_cases hz:x=0/\y=0
 ·obtain⟨rfl,rfl⟩:=hz
  refine ao.no qD ?_
  rw[show isInf 0=false by decide]at hb
  subst hb
  exact ab.pure (.tf _)
 ·have hne:(!((((x:Nat):Int)==0)&&((((y:Nat):Int)==0)&&true)))=true:=by
   have:¬((x:Int)=0/\(y:Int)=0):=fun e=>hz ⟨qO,qO⟩
   simp only[Bool.and_true,Bool.not_eq_true',Bool.and_eq_false_iff,beq_eq_false_iff_ne]
   omega
  refine ao.yes (hne) ?_
  have c1:=o9 x h1.lt _ rfl
  have c2:=o9 y h2.lt _ rfl
  cases f1:isInf x with
  |true=>
   rw[f1]at c1 hb
   refine aa.pure (c1) ?_
   refine gv ?_
   subst hb
   exact ab.pure (.tf _)
  |false=>
   rw[f1]at c1 hb
   refine aa.pure (c1) ?_
   refine fI ?_
   refine aa.pure (c2) ?_
   subst hb
   cases f2:isInf y<;>exact ab.pure (.p _ (.bool _))
structure OM (L M:Nat->fC) (n:Nat) (A B C D:Nat->Rat):Prop where
 l:∀k,k<n->gV (L k) (A k) (B k)
 m:∀k,k<n->gV (M k) (C k) (D k)
structure NW (L M:Nat->fC) (k:Nat) (s:fC):Prop where
 n1:j8 s.1
 n2:j8 s.2
 fin:kW s=true->jE L M k=some s
 JS:kW s=false->jE L M k=none
theorem JH {L M:Nat->fC} {k:Nat} {s:fC} (hs:jE L M k=some s) (hp:kW (jH (L (k+1)) (M (k+1)))=false):jE L M (k+1)=none:=by
 rw[jE,hs]
 exact if_neg (by rw[hp];exact Bool.false_ne_true)
section
section
variable {L M:Nat->fC} {n:Nat} {A B C D:Nat->Rat} (h:OM L M n A B C D)
include h
theorem Hs (h0:0<n):NW L M 0 (jH (L 0) (M 0)) where
 n1:=(xR (h.l 0 h0) (h.m 0 h0)).num
 n2:=(xY (h.l 0 h0) (h.m 0 h0)).num
 fin:=fun hf=>by rw[jE,if_pos hf]
 JS:=fun hf=>by rw[jE,if_neg (by rw[hf];exact Bool.false_ne_true)]
theorem Kf {k:Nat} (hk:k<n):j8 (jH (L k) (M k)).1/\j8 (jH (L k) (M k)).2:=⟨(xR (h.l k hk) (h.m k hk)).num,(xY (h.l k hk) (h.m k hk)).num⟩
theorem Jl {k:Nat} {s:fC} (hk:k+1<n) (hs:jE L M k=some s) (hp:kW (jH (L (k+1)) (M (k+1)))=true):NW L M (k+1) (vu s (jH (L (k+1)) (M (k+1)))):=by
 obtain⟨P,Q,g1,_,_⟩:=xU (l:=L) (m:=M) (n:=n-1) (a:=A) (b:=C) (fun k hk=>h.l k qO) (fun k hk=>h.m k qO) (fun k hk=>⟨Rat.le_refl,(h.l k qO).le⟩) (fun k hk=>⟨Rat.le_refl,(h.m k qO).le⟩) k qO s hs
 obtain⟨P',Q',g2,_,_⟩:=(xX (h.l _ hk) (h.m _ hk) Rat.le_refl (h.l _ hk).le Rat.le_refl (h.m _ hk).le).fin hp
 refine⟨(Cn g1 g2).num,(Cg g1 g2).num,fun hf=>?_,fun hf=>?_⟩
 ·rw[jE,hs]
  show(if _ then _ else _)=_
  rw[if_pos hp,if_pos hf]
 ·rw[jE,hs]
  show(if _ then _ else _)=_
  rw[if_pos hp,if_neg (by rw[hf];exact Bool.false_ne_true)]
end
theorem IP {s:fC} (h1:j8 s.1) (h2:j8 s.2):ow s:=⟨h1.lt,h2.lt⟩
theorem zE (b1 b2:Bool) (L M:Nat->fC) (n m:Nat) {A B C D:Nat->Rat} (h:OM L M n A B C D) (hb:n<=1000):ae Tryz.prog 21 [.sl b1 2 (Al n L),.sl b2 2 (Al m M)] (OA (Fv L M n m)) []:=by
 refine aW Tryz.func21 ?_
 refine SZ.mk (n:Int) qS ?_
 refine SZ.mk (m:Int) qS ?_
 by_cases hnm:n=m
 ·subst hnm
  refine ao.no (uQ rfl) ?_
  refine SZ.mk (n:Int) qS ?_
  by_cases h0:n=0
  ·refine ao.yes (jx qO) ?_
   rw[vQ (.inr h0)]
   exact eT (.p _ (iA (0,0))) (.p _ (.int _ _))
  ·refine ao.no (iO qO) ?_
   have hn:0<n:=qO
   refine cS ?_
   repeat refine aq ?_
   refine ag (aF.mk 0 (oo (L 0)) rfl (sj hn) af) ?_
   repeat refine aq ?_
   refine ag (aF.mk 0 (oo (M 0)) rfl (sj hn) af) ?_
   repeat refine aq ?_
   refine ag (aa.pure (ze (L 0) (M 0) (h.l 0 hn).ok (h.m 0 hn).ok) af) ?_
   repeat refine aq ?_
   refine cX ?_
   have z0:=Hs h hn
   refine aJ.mk (Nat×fC) (fun(k,s)=>([(0,.p (.sl b1 2 (Al n L))),(1,.p (.sl b2 2 (Al n M))),(4,.aC 0 0),(5,.p (.int .i64 0)),(6,.aC 1 0),(7,.p (.int .i64 ((k+1:Nat):Int)))],[.box 49 [.p (.int .u64 0),.p (.int .u64 0)],.box 49 [.p (.int .u64 (s.1:Int)),.p (.int .u64 (s.2:Int))]]))
    (fun(k,s)=>k<n/\NW L M k s) (fun x=>n-x.1) (0,jH (L 0) (M 0)) [0,1] ⟨hn,z0⟩ aY ?_
   intro⟨k,s⟩ ⟨hk,hs⟩
   have hk:k<n:=hk
   refine SZ.mk (n:Int) qS ?_
   cases hf:kW s with
   |false=>
    have hnone:=hs.JS hf
    have cf:=w6 s hs.n1 hs.n2 _ hf
    by_cases hk1:k+1<n
    ·refine bo ?_
     refine aa.pure (cf) ?_
     refine cJ ?_
     refine aa.pure (cf) ?_
     refine gv ?_
     rw[qz h0 (qF hnone _ qO)]
     exact eT (.p _ (iA (0,0))) (.p _ (.int _ _))
    ·refine bd ?_
     refine aa.pure (cf) ?_
     refine gv ?_
     rw[qz h0 (qF hnone _ qO)]
     exact eT (.p _ (iA (0,0))) (.p _ (.int _ _))
   |true=>
    have hsome:=hs.fin hf
    have cf:=w6 s hs.n1 hs.n2 _ hf
    by_cases hk1:k+1<n
    ·refine bo ?_
     refine aa.pure (cf) ?_
     refine ir ?_
     refine cS ?_
     repeat refine aq ?_
     refine ag (aF.mk (k+1) (oo (L (k+1))) rfl (sj hk1) af) ?_
     repeat refine aq ?_
     refine ag (aF.mk (k+1) (oo (M (k+1))) rfl (sj hk1) af) ?_
     repeat refine aq ?_
     refine ag (aa.pure (ze (L (k+1)) (M (k+1)) (h.l _ hk1).ok (h.m _ hk1).ok) af) ?_
     repeat refine aq ?_
     refine cX ?_
     have hpn:=Kf h hk1
     cases hp:kW (jH (L (k+1)) (M (k+1)))with
     |false=>
      refine aa.pure (w6 _ hpn.1 hpn.2 _ hp) ?_
      refine gv ?_
      rw[qz h0 (qF (JH hsome hp) _ qO)]
      exact eT (.p _ (iA (0,0))) (.p _ (.int _ _))
     |true=>
      refine aa.pure (w6 _ hpn.1 hpn.2 _ hp) ?_
      refine fI ?_
      refine aa.pure (IX s (jH (L (k+1)) (M (k+1))) (IP hs.n1 hs.n2) (IP hpn.1 hpn.2)) ?_
      refine a5 (k+1+1) ?_
      exact⟨(k+1,vu s (jH (L (k+1)) (M (k+1)))),[0,1],⟨hk1,Jl h hk1 hsome hp⟩,cA,aY⟩
    ·refine bd ?_
     refine aa.pure (cf) ?_
     refine fI ?_
     have:n-1=k:=qO
     rw[qB h0 (by rw[this];exact hsome)]
     exact eT (.p _ (iA s)) (.p _ (.int _ _))
 ·refine ao.yes (BA qO) ?_
  rw[vQ (.inl hnm)]
  exact eT (.p _ (iA (0,0))) (.p _ (.int _ _))
end
end
theorem wg (m:Bool) (a:Nat) (ha:az a<=1099511627776):ae Tryz.prog 128 [bF m a] (.p (.bool true)) []:=by
 refine aW Tryz.func128 ?_
 refine SZ.mk (az a:Int) qS ?_
 by_cases h0:a=0
 ·refine ao.yes (jx (by rw[aw.2 h0];rfl)) ?_
  exact ab.pure (.tf _)
 ·have h1:az a≠0:=mt aw.1 h0
  refine ao.no (iO qO) ?_
  refine SZ.mk (az a:Int) qS ?_
  refine a5 (az a-1) ?_
  refine aF.lb (az a-1) rfl (by show az a-1<az a;omega) ?_
  have h2:(nl a).getD (az a-1) 0≠0:=pq h0
  refine ao.yes (BA qO) ?_
  exact ab.pure (.tf _)
theorem gj (q:Rat) {k:Nat} (hq:Sz q k) (hk:k<=137438953472):ae Tryz.prog 76 [aB q] (.p (.bool true)) []:=by
 refine aW Tryz.func76 ?_
 have hn:az q.num.natAbs<=137438953472:=by have:=hq.1;omega
 have hd:az q.den<=137438953472:=by have:=hq.2;omega
 have hd0:az q.den≠0:=fun h=>q.den_nz (aw.1 h)
 refine aa.pure (wg false q.num.natAbs qO) ?_
 refine cJ ?_
 refine aa.pure (wg false q.den qO) ?_
 refine cJ ?_
 refine SZ.mk (az q.den:Int) qS ?_
 refine ao.no (iO qO) ?_
 refine SZ.mk (az q.num.natAbs:Int) qS ?_
 have n1:az 1<=549755813888:=Nat.le_trans (a9 1) qD
 by_cases h0:q=0
 ·subst h0
  refine ao.yes (jx (by rw[show(0:Rat).num.natAbs=0 from rfl,aw.2 rfl];rfl)) ?_
  have c1:=lB false false 1 1 n1 n1
  rw[show cF 1 1=0 by decide]at c1
  refine gx ?_
  repeat refine aq ?_
  refine ag (ao.yes rfl af) ?_
  repeat refine aq ?_
  refine ag (aa.pure (Ci) af) ?_
  refine ag (aa.pure (c1) af) ?_
  refine ag (ao.yes rfl af) ?_
  repeat refine aq ?_
  exact ab.pure (.tf _)
 ·have hnz:az q.num.natAbs≠0:=fun h=>h0 (Rat.num_eq_zero.1 (by have:=aw.1 h;omega))
  refine ao.no (iO qO) ?_
  have c1:=Iw false false q.num.natAbs q.den hn hd
  rw[show Nat.gcd q.num.natAbs q.den=1 from q.reduced]at c1
  have c2:=lB false false 1 1 n1 n1
  rw[show cF 1 1=0 by decide]at c2
  refine aa.pure (c1) ?_
  refine aa.pure (Ci) ?_
  refine aa.pure (c2) ?_
  refine ir ?_
  exact ab.pure (.tf _)
theorem bn.all {b:PV->Bool} {es:List (PV×PV)} {K:Prop} (h:es.all (fun e=>b e.1)=true) (hk:K):bn b es K:=
 .mk (fun e he=>List.all_eq_true.1 h e he) hk
theorem dZ.add {es:List (PV×PV)} {k v:PV} {K:List (PV×PV)->Prop} (h:es.all (fun e=> !PV.iZ k e.1)=true) (hk:K (es++[(k,v)])):dZ es k v K:=
 .new _ (fun e he=>by have:=List.all_eq_true.1 h e he;simpa using this) rfl hk
theorem eo.at {es:List (PV×PV)} {k:PV} {K:Option PV->Prop} (i:Nat) (e:PV×PV) (h:es[i]?=some e) (he:PV.iZ k e.1=true) (hf:es.zipIdx.all (fun x=>Nat.beq x.2 i|| !PV.iZ k x.1.1)=true) (hk:K (some e.2)):eo es k K:=
 .yes i e h he (fun j e' hj hj'=>by
  have:=List.all_eq_true.1 hf (e',j) (List.mem_zipIdx_iff_getElem?.2 hj')
  simpa[hj]using this) hk
theorem eo.none {es:List (PV×PV)} {k:PV} {K:Option PV->Prop} (h:es.all (fun e=> !PV.iZ k e.1)=true) (hk:K Option.none):eo es k K:=
 .no (fun e he=>by have:=List.all_eq_true.1 h e he;simpa using this) hk
section

def fN:Nat->(Nat->Rat)->Rat->Rat
 |0,c,_=>c 0
 |n+1,c,X=>c 0+X*fN n (fun i=>c (i+1)) X
theorem g8:∀(n:Nat) {c d:Nat->Rat} (X:Rat),(∀i,i<=n->c i=d i)->fN n c X=fN n d X:=by
 intro n
 induction n with
 |zero=>intro c d X h;exact h 0 (Nat.le_refl _)
 |succ n ih=>intro c d X h;simp only[fN];rw[h 0 (Nat.zero_le _),ih X fun i hi=>h (i+1) qO]
theorem DD:∀(n:Nat) (c d:Nat->Rat) (X:Rat),fN n (fun i=>c i-d i) X=fN n c X-fN n d X:=by
 intro n
 induction n with
 |zero=>intro c d X;rfl
 |succ n ih=>intro c d X;simp only[fN];rw[ih];grind
theorem Dc:∀(n:Nat) (c d:Nat->Rat) (X:Rat),fN n (fun i=>c i+d i) X=fN n c X+fN n d X:=by
 intro n
 induction n with
 |zero=>intro c d X;rfl
 |succ n ih=>intro c d X;simp only[fN];rw[ih];grind
theorem uB:∀(n:Nat) (a:Rat) (c:Nat->Rat) (X:Rat),fN n (fun i=>a*c i) X=a*fN n c X:=by
 intro n
 induction n with
 |zero=>intro a c X;rfl
 |succ n ih=>intro a c X;simp only[fN];rw[ih];grind
theorem pA:∀(n:Nat) (c:Nat->Rat) (X:Rat),c (n+1)=0->fN (n+1) c X=fN n c X:=by
 intro n
 induction n with
 |zero=>intro c X h;simp only[fN];rw[h];grind
 |succ n ih=>
  intro c X h
  rw[fN,ih (fun i=>c (i+1)) X h]
  rfl
theorem Ae (r X:Rat):∀(m:Nat) (u v:Nat->Rat),(∀i,i<=m->v i=u i-r*u (i+1))->v (m+1)=u (m+1)->fN (m+1) v X=u 0+(X-r)*fN m (fun i=>u (i+1)) X:=by
 intro m
 induction m with
 |zero=>
  intro u v h1 h2
  simp only[fN]
  rw[h1 0 (Nat.le_refl _),h2]
  grind
 |succ m ih=>
  intro u v h1 h2
  rw[fN,ih (fun i=>u (i+1)) (fun i=>v (i+1)) (fun i hi=>h1 (i+1) qO) h2,h1 0 (Nat.zero_le _)]
  simp only[fN]
  grind
theorem K7 (r X:Rat):∀(k:Nat) (c:Nat->Rat),fN (k+1) c X-fN (k+1) c r=(X-r)*fN k (fun i=>fN (k-i) (fun j=>c (i+1+j)) r) X:=by
 intro k
 induction k with
 |zero=>
  intro c
  show c 0+X*c 1-(c 0+r*c 1)=(X-r)*c 1
  grind
 |succ k ih=>
  intro c
  have h:=ih (fun i=>c (i+1))
  have e1:∀Y,fN (k+1+1) c Y=c 0+Y*fN (k+1) (fun i=>c (i+1)) Y:=fun Y=>rfl
  have e3:fN (k+1) (fun i=>fN (k+1-i) (fun j=>c (i+1+j)) r) X=fN (k+1-0) (fun j=>c (0+1+j)) r+X*fN k (fun i=>fN (k+1-(i+1)) (fun j=>c (i+1+1+j)) r) X:=rfl
  have e:fN k (fun i=>fN (k+1-(i+1)) (fun j=>c (i+1+1+j)) r) X=fN k (fun i=>fN (k-i) (fun j=>c (i+1+j+1)) r) X:=g8 k X fun i hi=>by
   show fN (k+1-(i+1)) _ r=_
   rw[show k+1-(i+1)=k-i by omega]
   exact g8 _ _ fun j _=>by show c (i+1+1+j)=c (i+1+j+1);congr 1;omega
  have e0:fN (k+1-0) (fun j=>c (0+1+j)) r=fN (k+1) (fun i=>c (i+1)) r:=g8 _ _ fun j _=>by show c (0+1+j)=c (j+1);congr 1;omega
  rw[e1,e1,e3,e,e0]
  grind
def pr (r:Nat->Rat) (X:Rat):Nat->Rat
 |0=>1
 |k+1=>pr r X k*(X-r k)
theorem KT {r:Nat->Rat} {X:Rat}:∀{k l:Nat},l<k->X=r l->pr r X k=0:=by
 intro k
 induction k with
 |zero=>intro l h;omega
 |succ k ih=>
  intro l h e
  rw[pr]
  by_cases h1:l=k
  ·subst h1;rw[e];grind
  ·rw[ih qO e];grind
theorem OG {r:Nat->Rat} {X:Rat}:∀{k:Nat},(∀l,l<k->X≠r l)->pr r X k≠0:=by
 intro k
 induction k with
 |zero=>intro _;rw[pr];decide
 |succ k ih=>
  intro h
  rw[pr]
  have h1:=ih fun l hl=>h l qO
  have h2:=h k (Nat.lt_succ_self k)
  intro e
  rcases Rat.mul_eq_zero.1 e with e|e
  ·exact h1 e
  ·exact h2 (by grind)
def j9 (r:Nat->Rat) (k:Nat):Prop:=∀i j,i<k->j<k->r i=r j->i=j
theorem j9.mono {r:Nat->Rat} {j k:Nat} (h:j9 r k) (hj:j<=k):j9 r j:=fun a b ha hb=>h a b qO qO
theorem vD (X:Rat):∀(k:Nat) (c r:Nat->Rat),j9 r k->(∀l,l<k->fN k c (r l)=0)->fN k c X=c k*pr r X k:=by
 intro k
 induction k with
 |zero=>intro c r _ _;simp only[fN,pr];grind
 |succ k ih=>
  intro c r hi hz
  have hk:=hz k (Nat.lt_succ_self k)
  have hq:∀Y,fN (k+1) c Y=(Y-r k)*fN k (fun i=>fN (k-i) (fun j=>c (i+1+j)) (r k)) Y:=fun Y=>by
   have:=K7 (r k) Y k c
   rw[hk]at this
   grind
  have hz':∀l,l<k->fN k (fun i=>fN (k-i) (fun j=>c (i+1+j)) (r k)) (r l)=0:=fun l hl=>by
   have h1:=hz l qO
   rw[hq]at h1
   rcases Rat.mul_eq_zero.1 h1 with e|e
   ·have:r l=r k:=by grind
    have:=hi l k qO qO this
    omega
   ·exact e
  have:=ih _ r (hi.mono qO) hz'
  rw[hq,this,pr]
  have e:fN (k-k) (fun j=>c (k+1+j)) (r k)=c (k+1):=by rw[Nat.sub_self];rfl
  simp only[e]
  grind
theorem A4:∀(k:Nat) (c r:Nat->Rat),j9 r (k+1)->(∀l,l<k+1->fN k c (r l)=0)->∀i,i<=k->c i=0:=by
 intro k
 induction k with
 |zero=>
  intro c r _ hz i hi
  have:=hz 0 qO
  rw[show i=0 by omega];exact this
 |succ k ih=>
  intro c r hi hz
  have hroots:=vD (r (k+1)) (k+1) c r (hi.mono qO) fun l hl=>hz l qO
  rw[hz (k+1) qO]at hroots
  have hne:pr r (r (k+1)) (k+1)≠0:=OG fun l hl e=>by have:=hi (k+1) l qO qO e;omega
  have htop:c (k+1)=0:=by
   rcases Rat.mul_eq_zero.1 hroots.symm with e|e
   ·exact e
   ·exact(hne e).elim
  have hlow:=ih c r (hi.mono qO) fun l hl=>by rw[<-pA k c _ htop];exact hz l qO
  intro i hle
  by_cases e:i=k+1
  ·rw[e];exact htop
  ·exact hlow i qO
theorem Nx {k:Nat} {c d r:Nat->Rat} (hi:j9 r (k+1)) (h:∀l,l<k+1->fN k c (r l)=fN k d (r l)):∀i,i<=k->c i=d i:=fun i hk=>by
 have:=A4 k (fun i=>c i-d i) r hi (fun l hl=>by rw[DD,h l hl];grind) i hk
 grind
def sF (k:Nat) (a:Rat) (g:Rat->Rat):Prop:=∃c:Nat->Rat,c k=a/\∀X,fN k c X=g X
theorem sF.sub {k:Nat} {a b:Rat} {g h:Rat->Rat} (hg:sF k a g) (hh:sF k b h):sF k (a-b) (fun X=>g X-h X):=by
 obtain⟨c,h1,h2⟩:=hg
 obtain⟨d,h3,h4⟩:=hh
 exact⟨fun i=>c i-d i,by show c k-d k=a-b;rw[h1,h3],fun X=>by rw[DD,h2,h4]⟩
theorem sF.addTop {k:Nat} {a b:Rat} {g h:Rat->Rat} (hg:sF k a g) (hh:sF (k+1) b h):sF (k+1) b (fun X=>g X+h X):=by
 obtain⟨c,h1,h2⟩:=hg
 obtain⟨d,h3,h4⟩:=hh
 refine⟨fun i=>(if i<=k then c i else 0)+d i,by show(if k+1<=k then c (k+1)else 0)+d (k+1)=b;rw[if_neg qO,h3];grind,fun X=>?_⟩
 rw[Dc,h4,pA k _ X (if_neg qO),g8 k (d:=c) X fun i hi=>if_pos hi,h2]
theorem sF.Jm {k:Nat} {a:Rat} {g:Rat->Rat} (hg:sF k a g) (r:Rat):sF (k+1) a (fun X=>g X*(X-r)):=by
 obtain⟨c,h1,h2⟩:=hg
 obtain⟨u,hu⟩:∃u:Nat->Rat,u=fun i=>match i with|0=>0|i+1=>c i:=⟨_,rfl⟩
 refine⟨fun i=>if i<=k then u i-r*u (i+1)else u i,?_,fun X=>?_⟩
 ·show(if k+1<=k then _ else u (k+1))=a
  rw[if_neg qO,hu];exact h1
 ·rw[Ae r X k u _ (fun i hi=>if_pos hi) (if_neg qO),hu]
  show 0+(X-r)*fN k (fun i=>c i) X=_
  rw[show fN k (fun i=>c i) X=g X from h2 X]
  grind
theorem sF.smul {k:Nat} {a:Rat} {g:Rat->Rat} (hg:sF k a g) (b:Rat):sF k (b*a) (fun X=>b*g X):=by
 obtain⟨c,h1,h2⟩:=hg
 exact⟨fun i=>b*c i,by show b*c k=b*a;rw[h1],fun X=>by rw[uB,h2]⟩
theorem sF.pr (r:Nat->Rat):∀k,sF k 1 (fun X=>pr r X k):=by
 intro k
 induction k with
 |zero=>exact⟨fun _=>1,rfl,fun X=>rfl⟩
 |succ k ih=>exact ih.Jm (r k)
def nf (x c:Nat->Rat) (X:Rat):Nat->Rat
 |0=>c 0
 |m+1=>nf x c X m+c (m+1)*pr x X (m+1)
theorem sF.nf (x c:Nat->Rat):∀k,sF k (c k) (fun X=>nf x c X k):=by
 intro k
 induction k with
 |zero=>exact⟨fun _=>c 0,rfl,fun X=>rfl⟩
 |succ k ih=>
  have h:=(sF.pr x (k+1)).smul (c (k+1))
  rw[show c (k+1)*1=c (k+1) by grind]at h
  exact ih.addTop h
theorem Gg {x y c d:Nat->Rat} {X:Rat}:∀{k:Nat},(∀i,i<=k->x i=y i)->(∀i,i<=k->c i=d i)->nf x c X k=nf y d X k:=by
 have hp:∀{k:Nat},(∀i,i<k->x i=y i)->pr x X k=pr y X k:=by
  intro k
  induction k with
  |zero=>intro _;rfl
  |succ k ih=>intro h;rw[pr,pr,ih fun i hi=>h i qO,h k (Nat.lt_succ_self k)]
 intro k
 induction k with
 |zero=>intro _ h;exact h 0 (Nat.le_refl _)
 |succ k ih=>intro h1 h2;rw[nf,nf,ih (fun i hi=>h1 i qO) (fun i hi=>h2 i qO),hp fun i hi=>h1 i qO,h2 (k+1) (Nat.le_refl _)]
theorem sF.roots {k:Nat} {a:Rat} {g:Rat->Rat} (h:sF k a g) {r:Nat->Rat} (hi:j9 r k) (hz:∀l,l<k->g (r l)=0) (X:Rat):g X=a*Go.Proofs.YtiakeknbdclaoaaGreat.pr r X k:=by
 obtain⟨c,h1,h2⟩:=h
 rw[<-h2,<-h1]
 exact vD X k c r hi fun l hl=>by rw[h2];exact hz l hl
end
section

theorem I0 (y:Nat->Rat) (X:Rat):∀k,pr y X (k+1)=(X-y 0)*pr (fun l=>y (l+1)) X k:=by
 intro k
 induction k with
 |zero=>simp only[pr];grind
 |succ k ih=>rw[pr,ih,pr];grind
section
variable (x f:Nat->Rat)
abbrev vV (k:Nat):Nat->Rat:=iter (jl x) k f
theorem HI {k i:Nat} (h:k<i):vV x f (k+1) i=(vV x f k i-vV x f k (i-1))/(x i-x (i-(k+1))):=if_pos h
theorem Hn {k i:Nat} (h:i<=k):vV x f (k+1) i=vV x f k i:=if_neg qO
theorem Gn:∀{k j:Nat},j<=k->vV x f k j=vV x f j j:=by
 intro k
 induction k with
 |zero=>intro j h;rw[Nat.le_zero.1 h]
 |succ k ih=>
  intro j h
  by_cases e:j=k+1
  ·rw[e]
  ·rw[Hn x f qO,ih qO]
def Oj (a k:Nat) (X:Rat):Rat:=nf (fun l=>x (a+l)) (fun j=>vV x f j (a+j)) X k
theorem C7 (a k:Nat):sF k (vV x f k (a+k)) (Oj x f a k):=sF.nf (fun l=>x (a+l)) (fun j=>vV x f j (a+j)) k
theorem Oc {n:Nat} (hd:j9 x (n+1)):∀(k a:Nat),a+k<=n->∀l,l<=k->Oj x f a k (x (a+l))=f (a+l):=by
 intro k
 induction k with
 |zero=>
  intro a _ l hl
  rw[Nat.le_zero.1 hl]
  rfl
 |succ k ih=>
  intro a ha l hl
  have e:∀X,Oj x f a (k+1) X=Oj x f a k X+vV x f (k+1) (a+(k+1))*pr (fun l=>x (a+l)) X (k+1):=fun X=>rfl
  by_cases h1:l=k+1
  ·subst h1
   have hD:=((C7 x f (a+1) k).sub (C7 x f a k)).roots (r:=fun l=>x (a+1+l)) (fun i j hi hj h=>by have:=hd _ _ qO qO h;omega) (fun l hl=>by
    rw[ih (a+1) qO l qO,show a+1+l=a+(l+1) by omega,ih a qO (l+1) qO]
    grind) (x (a+(k+1)))
   have hT:=ih (a+1) qO k (Nat.le_refl _)
   rw[show a+1+k=a+(k+1) by omega]at hT
   rw[hT]at hD
   have hs:vV x f (k+1) (a+(k+1))=(vV x f k (a+(k+1))-vV x f k (a+k))/(x (a+(k+1))-x a):=by
    have:=HI x f (k:=k) (i:=a+(k+1)) qO
    rwa[show a+(k+1)-1=a+k by omega,show a+(k+1)-(k+1)=a by omega]at this
   have hne:x (a+(k+1))-x a≠0:=Ic fun h=>by have:=hd _ _ qO qO h;omega
   have hp:=I0 (fun l=>x (a+l)) (x (a+(k+1))) k
   have hp2:pr (fun l=>x (a+(l+1))) (x (a+(k+1))) k=pr (fun l=>x (a+1+l)) (x (a+(k+1))) k:=by
    congr 1;funext l;congr 1;omega
   simp only[Nat.add_zero]at hp
   rw[hp2]at hp
   rw[show a+1+k=a+(k+1) by omega]at hD
   rw[e,hp,hs]
   generalize pr (fun l=>x (a+1+l)) (x (a+(k+1))) k=Q at hD⊢
   generalize vV x f k (a+(k+1))-vV x f k (a+k)=U at hD⊢
   generalize Oj x f a k (x (a+(k+1)))=V at hD⊢
   generalize x (a+(k+1))-x a=W at hne⊢
   have:U/W*(W*Q)=U*Q:=by
    rw[<-Rat.mul_assoc,Rat.div_mul_cancel hne]
   rw[this]
   grind
  ·rw[e,ih a qO l qO,KT (l:=l) qO rfl]
   grind
def NP (T:Nat->Rat) (X:Rat):Nat->Rat
 |0=>0
 |q+1=>NP T X q+T q*pr x X q
theorem Nj (T:Nat->Rat) (X:Rat):∀m,nf x T X m=NP x T X (m+1):=by
 intro m
 induction m with
 |zero=>simp only[nf,NP,pr];grind
 |succ m ih=>rw[nf,ih];rfl
theorem expand (n:Nat) (T:Nat->Rat) (X:Rat):∀d,d<=n->(∀i,i<n-d->iter (fun r=>ew x n (n-1-r)) d T i=T i)/\
  NP x T X (n-d)+pr x X (n-d)*fN d (fun i=>iter (fun r=>ew x n (n-1-r)) d T (n-d+i)) X=nf x T X n:=by
 intro d
 induction d with
 |zero=>
  intro _
  refine⟨fun i _=>rfl,?_⟩
  rw[Nj]
  simp only[Nat.sub_zero,fN,iter,NP,Nat.add_zero]
  grind
 |succ d ih=>
  intro hd
  obtain⟨h1,h2⟩:=ih qO
  obtain⟨k,hk⟩:∃k,k=n-1-d:=⟨_,rfl⟩
  obtain⟨c,hc⟩:∃c,c=iter (fun r=>ew x n (n-1-r)) d T:=⟨_,rfl⟩
  rw[<-hc]at h1 h2
  have hit:iter (fun r=>ew x n (n-1-r)) (d+1) T=ew x n k c:=by rw[iter,<-hc,<-hk]
  rw[hit]
  have e1:n-(d+1)=k:=qO
  have e2:n-d=k+1:=qO
  rw[e1]
  rw[e2]at h1 h2
  refine⟨fun i hi=>?_,?_⟩
  ·rw[ew,if_neg qO];exact h1 i qO
  ·rw[Ae (x k) X d (fun i=>c (k+i)) (fun i=>ew x n k c (k+i)) (fun i hi=>if_pos ⟨qO,qO⟩) (show ew x n k c (k+(d+1))=c (k+(d+1))from if_neg qO)]
   ·rw[<-h2]
    have e3:fN d (fun i=>c (k+(i+1))) X=fN d (fun i=>c (k+1+i)) X:=g8 d X fun i _=>by show c (k+(i+1))=c (k+1+i);congr 1;omega
    rw[e3,show c (k+0)=T k from h1 k qO]
    simp only[NP,pr]
    grind
theorem Br {n:Nat} (hd:j9 x (n+1)) {l:Nat} (hl:l<=n):fN n (vt x n f) (x l)=f l:=by
 have h:=(expand x n (vV x f n) (x l) n (Nat.le_refl _)).2
 rw[Nat.sub_self]at h
 have e:fN n (vt x n f) (x l)=fN n (fun i=>iter (fun r=>ew x n (n-1-r)) n (vV x f n) (0+i)) (x l):=g8 n _ fun i _=>by
  rw[Nat.zero_add];rfl
 rw[e]
 have h2:=Oc x f hd n 0 qO l hl
 rw[Nat.zero_add]at h2
 rw[<-h2,Oj]
 have h3:nf x (vV x f n) (x l) n=nf (fun l=>x (0+l)) (fun j=>vV x f j (0+j)) (x l) n:=Gg (fun i _=>by rw[Nat.zero_add]) fun i hi=>by rw[Nat.zero_add];exact Gn x f hi
 rw[<-h3,<-h]
 simp only[NP,pr]
 grind
end
def sm:Nat->(Nat->Rat)->Rat
 |0,_=>0
 |n+1,f=>sm n f+f n
theorem aX {f g:Nat->Rat}:∀{n:Nat},(∀i,i<n->f i=g i)->sm n f=sm n g:=by
 intro n
 induction n with
 |zero=>intro _;rfl
 |succ n ih=>intro h;rw[sm,sm,ih fun i hi=>h i qO,h n (Nat.lt_succ_self n)]
theorem FV (f g:Nat->Rat):∀n,sm n (fun i=>f i+g i)=sm n f+sm n g:=by
 intro n
 induction n with
 |zero=>simp only[sm];grind
 |succ n ih=>simp only[sm];rw[ih];grind
theorem nX (f g:Nat->Rat):∀n,sm n (fun i=>f i-g i)=sm n f-sm n g:=by
 intro n
 induction n with
 |zero=>simp only[sm];grind
 |succ n ih=>simp only[sm];rw[ih];grind
theorem c8 (a:Rat) (f:Nat->Rat):∀n,sm n (fun i=>a*f i)=a*sm n f:=by
 intro n
 induction n with
 |zero=>simp only[sm];grind
 |succ n ih=>simp only[sm];rw[ih];grind
theorem lG (f:Nat->Rat):∀n,sm (n+1) f=f 0+sm n (fun i=>f (i+1)):=by
 intro n
 induction n with
 |zero=>simp only[sm];grind
 |succ n ih=>rw[sm,ih,sm];grind
theorem fF {f:Nat->Rat}:∀{n:Nat},(∀i,i<n->f i=0)->sm n f=0:=by
 intro n
 induction n with
 |zero=>intro _;rfl
 |succ n ih=>intro h;rw[sm,ih fun i hi=>h i qO,h n (Nat.lt_succ_self n)];grind
theorem Ox (k n:Nat) (a b:Nat->Rat):sm (n+1) (fun j=>if k<j then a (j-1)*b j else 0)=sm (n+1) (fun i=>if k<=i/\i<n then a i*b (i+1)else 0):=by
 rw[lG,sm,if_neg qO,if_neg qO]
 have:sm n (fun i=>if k<i+1 then a (i+1-1)*b (i+1)else 0)=sm n (fun i=>if k<=i/\i<n then a i*b (i+1)else 0):=aX fun i hi=>by
  by_cases h:k<=i
  ·rw[if_pos (show k<i+1 by omega),if_pos ⟨h,hi⟩];rfl
  ·rw[if_neg (show ¬k<i+1 by omega),if_neg qO]
 rw[this]
 grind
theorem qU {n j:Nat} (hj:j<n) (b:Nat->Rat):sm n (fun i=>b i*(if i=j then 1 else 0))=b j:=by
 induction n with
 |zero=>omega
 |succ n ih=>
  rw[sm]
  by_cases e:n=j
  ·subst e
   rw[if_pos rfl,fF fun i hi=>by rw[if_neg qO];grind]
   grind
  ·rw[if_neg e,ih qO];grind
theorem C3 {F:Nat->(Nat->Rat)->(Nat->Rat)} {N t:Nat} (h:∀r c B,(∀i,i<N->Bz (c i) B)->∀i,i<N->Bz (F r c i) (2*B+t)):∀(r:Nat) (c:Nat->Rat) (b:Nat),(∀i,i<N->Bz (c i) b)->∀i,i<N->Bz (iter F r c i) (bs t b r):=by
 intro r
 induction r with
 |zero=>intro c b hc;exact hc
 |succ r ih=>intro c b hc;exact h r _ _ (ih c b hc)
theorem Mw (t b:Nat):∀(i j:Nat),bs t (bs t b i) j=bs t b (i+j):=by
 intro i j
 induction j with
 |zero=>rfl
 |succ j ih=>show 2*bs t (bs t b i) j+t=2*bs t b (i+j)+t;rw[ih]
theorem NG {n s b:Nat} {x f:Nat->Rat} (hx:∀i,i<n+1->Bz (x i) s) (hf:∀i,i<n+1->Bz (f i) b):∀i,i<n+1->Bz (vt x n f i) (bs (2*s+2) b (n+n)):=by
 rw[<-Mw]
 refine C3 (N:=n+1) (fun r c B hc i hi=>?_) n _ _ (C3 (N:=n+1) (fun r c B hc i hi=>?_) n f b hf)
 ·unfold ew
  split
  ·rename_i h;exact((hc i hi).sub ((hx _ qO).mul (hc (i+1) qO))).mono qO
  ·exact(hc i hi).mono qO
 ·unfold jl
  split
  ·exact(((hc i hi).sub (hc (i-1) qO)).div ((hx i hi).sub (hx _ qO))).mono qO
  ·exact(hc i hi).mono qO
end
theorem vA {N:Nat} {g:Nat->Rat}:(aH N g).Nodup↔j9 g N:=by
 constructor
 ·intro h i j hi hj e
  exact vF h (by rw[bT];exact hi) (by rw[bT];exact hj) (by rw[fh hi,fh hj,e])
 ·intro h
  refine List.pairwise_iff_getElem.2 fun i j hi hj hij e=>?_
  rw[bT]at hi hj
  have:=h i j hi hj (by simpa[aH]using e)
  omega
def fl {α:Type} (n:Nat) (f:Nat->α):List α:=(List.range n).map f
@[simp] theorem Ok {α:Type} {n:Nat} {f:Nat->α}:(fl n f).length=n:=by simp[fl]
theorem dM {α:Type} {n:Nat} {f:Nat->α} {i:Nat} (h:i<n):(fl n f)[i]?=some (f i):=by simp[fl,h]
theorem cu {α:Type} {n:Nat} {f:Nat->α} {i:Nat} {v:α}:(fl n f)[i]?=some v↔i<n/\f i=v:=by
 constructor
 ·intro h
  have hi:i<n:=by have:=(List.getElem?_eq_some_iff.1 h).1;simpa using this
  rw[dM hi]at h
  exact⟨hi,by simpa using h⟩
 ·rintro⟨hi,rfl⟩;exact dM hi
theorem gF {α:Type} {n:Nat} {f:Nat->α} {i:Nat} {v:α}:(fl n f).set i v=fl n (a8 f i v):=by
 apply List.ext_getElem qS
 intro k h1 h2
 simp only[List.getElem_set,fl,List.getElem_map,List.getElem_range,a8]
 by_cases e:i=k
 ·rw[if_pos e,if_pos e.symm]
 ·rw[if_neg e,if_neg (Ne.symm e)]
theorem oH {α:Type} {n:Nat} {f:Nat->α}:fl (n+1) f=fl n f++[f n]:=by simp[fl,List.range_succ]
theorem aU {α:Type} {n:Nat} {f g:Nat->α} (h:∀i,i<n->f i=g i):fl n f=fl n g:=List.map_congr_left fun i hi=>h i (by simpa using hi)
theorem wO {α β:Type} {n:Nat} {f:Nat->α} {g:α->β}:(fl n f).map g=fl n fun i=>g (f i):=by simp[fl]
theorem dX {α:Type} {n:Nat} {f:Nat->α} {x:α} (h:x∈fl n f):∃i,i<n/\f i=x:=by
 simp only[fl,List.mem_map,List.mem_range]at h;exact h
theorem Cs {n:Nat} {g:Nat->Rat}:aH n g=fl n g:=rfl
theorem jR (k:Nat) (f:Nat->Rat) (q:Rat) (h:q=f k):a7 (aH k f)++[aB q]=a7 (aH (k+1) f):=by
 subst h;rw[a7,a7,aH,aH,List.range_succ,List.map_append,List.map_append];rfl
abbrev cn (m m':Bool) (n w:Nat) (A:Nat->Nat->Rat):PV:=.sl m 1 (fl n fun i=>ar m' (aH w (A i)))
theorem aF.mf {m':Bool} {n w:Nat} {A:Nat->Nat->Rat} {i:Int} {K:Nat->PV->Prop} (j:Nat) (hi:i=j) (hj:j<n) (hk:K j (ar m' (aH w (A j)))):aF (fl n fun i=>ar m' (aH w (A i))) i K:=
 .mk j _ hi (dM hj) hk
theorem eY {n w:Nat} {A:Nat->Nat->Rat}:ct (cn false false n w A):=
 .sl _ _ fun e he c hc=>by
  obtain⟨i,_,rfl⟩:=dX he
  simp only[PV.cells,List.mem_singleton]at hc
  subst hc
  exact .sl _ _ (au _)
abbrev cO (p c n:Nat) (s:Nat->Nat):List AV:=fl n fun i=>.vec (.r p (s i)) 3 0 c
abbrev c9 (n w:Nat) (G:Nat->Nat->Rat):List (Option (List PV)):=fl n fun k=>some (a7 (aH w (G k)))
theorem bJ.cO {p c n:Nat} {s:Nat->Nat} {i:Int} {K:AV->Prop} (j:Nat) (hi:i=j) (hj:j<n) (hk:K (.vec (.r p (s j)) 3 0 c)):bJ (cO p c n s) i K:=.mk j _ hi (dM hj) hk
theorem eH.c9 {n w:Nat} {G:Nat->Nat->Rat} {k:Nat} {K:List PV->Prop} (hk:k<n) (hK:K (a7 (aH w (G k)))):eH (c9 n w G) k K:=.mk _ (dM hk) hK
theorem rE.c9 {n w:Nat} {G:Nat->Nat->Rat} {k:Nat} {f:Nat->Rat} {K:List (Option (List PV))->Prop} (hk:k<n) (hK:K (c9 n w (a8 G k f))):rE (c9 n w G) k (some (a7 (aH w f))) K:=
 .mk _ (by simpa using hk) (by rw[gF];exact aU fun i _=>by unfold a8;split<;>rfl) hK
theorem cm.cO {p c n i:Nat} {s:Nat->Nat} {K:Prop} (h:i<n) (hk:K):cm i (cO p c n s).length K:=.mk (by simpa using h) hk
theorem rR.cO {p c n i k:Nat} {s:Nat->Nat} {K:List AV->Prop} (hk:K (cO p c n (a8 s i k))):rR ((cO p c n s).set i (.vec (.r p k) 3 0 c)) K:=
 .mk _ (by rw[gF];exact aU fun j _=>by unfold a8;split<;>rfl) hk
theorem fU {ρ:Hd->Hd} {n:Nat} {f:Nat->AV}:AV.de ρ (fl n f)=fl n fun i=>(f i).dm ρ:=by rw[AV.bP,wO]
theorem gb {hs:List Nat} {P:Hp} {p p' q c k:Nat} (hp:hs.getD p 0=p'+1000*(q+1)) (hp':p'<1000) (hl:aD P p=k+1):AV.de (dy hs P) (cO p c (k+1) id)=cO p' c k id++[.vec (.t q) 3 0 c]:=by
 rw[fU,oH]
 have eb:Nat.blt (hs.getD p 0) 1000=false:=by
  cases hb:Nat.blt (hs.getD p 0) 1000 with
  |false=>rfl
  |true=>have:=cD.1 hb;omega
 have e1:hs.getD p 0%1000=p':=qO
 have e2:hs.getD p 0/1000-1=q:=qO
 congr 1
 ·refine aU fun i hi=>?_
  have e4:Nat.blt (i+1) (k+1)=true:=cD.2 qO
  simp only[AV.dm,dy,eb,hl,id,e4,cond_false,cond_true,e1]
 ·have e4:Nat.blt (k+1) (k+1)=false:=by
   cases hb:Nat.blt (k+1) (k+1)with
   |false=>rfl
   |true=>have:=cD.1 hb;omega
  simp only[AV.dm,dy,eb,hl,id,e4,cond_false,e2]
theorem aS {hs:List Nat} {P:Hp} {p c n:Nat} {s:Nat->Nat} (p':Nat) (hp:hs.getD p 0=p') (hp':p'<1000):AV.de (dy hs P) (cO p c n s)=cO p' c n s:=by
 rw[fU]
 refine aU fun i hi=>?_
 have eb:Nat.blt p' 1000=true:=cD.2 hp'
 simp only[AV.dm,dy,hp,eb,cond_true]
theorem eW {n w:Nat} {G:Nat->Nat->Rat}:c9 (n+1) w G=c9 n w G++[some (a7 (aH w (G n)))]:=oH
theorem aN {P:Hp} {p c n:Nat} {s:Nat->Nat} (h:∀i,i<n->s i<aD P p):∀x∈cO p c n s,∀h,x.aT h->look P h≠ .free:=by
 intro x hx g hg
 obtain⟨i,hi,rfl⟩:=dX hx
 simp only[AV.aT]at hg
 subst hg
 exact kI (h i hi)
theorem D5 {H:Hp} {p n w:Nat} {T:TypeId} {G:Nat->Nat->Rat} (hH:H.getD p .free= .bu T 3 (c9 n w G)) {k:Nat} (hk:k<n):look H (.r p k)= .vec T 3 (a7 (aH w (G k))):=by
 simp only[look,hH,aA.row,dM hk]
theorem ie.cO {H:Hp} {p n N w:Nat} {T:TypeId} {G:Nat->Nat->Rat} {s:Nat->Nat} {K:List PV->Prop} (hH:H.getD p .free= .bu T 3 (c9 N w G)) (hs:∀i,i<n->s i<N) (hk:K (fl n fun i=>ar true (aH w (G (s i))))):ie (look H) (cO p w n s) n K:=
 .mk _ qS qS (fun i c q e1 e2=>by
  obtain⟨hi,rfl⟩:=cu.1 e1
  obtain⟨_,rfl⟩:=cu.1 e2
  have:=py.vec (L:=look H) (h:=.r p (s i)) (W:=3) (off:=0) (len:=w) (D5 hH (hs i hi)) (by simp[aH])
  rw[List.drop_zero,List.take_of_length_le (by simp[aH])]at this
  exact this) hk
theorem yR {H:Hp} {h p n N w:Nat} {T T':TypeId} {G:Nat->Nat->Rat} {s:Nat->Nat} (hB:look H h= .rows T (cO p w n s)) (hH:H.getD p .free= .bu T' 3 (c9 N w G)) (hs:∀i,i<n->s i<N):Conv [] H (.vec h 1 0 n) (.p (cn false false n w fun i=>G (s i))):=by
 refine Conv.EL (h:=h) hB qS qS (fun d hd=>by obtain⟨i,_,rfl⟩:=dX hd;rfl) qS fun i c d e1 e2=>?_
 obtain⟨hi,rfl⟩:=cu.1 e1
 obtain⟨_,rfl⟩:=cu.1 e2
 exact .JE (D5 hH (hs i hi)) qS (by simp[aH]) (au _) (by rw[List.drop_zero];exact List.take_of_length_le (by simp[aH]))
abbrev lr (q:Rat):List AV:=[.p (.bool (decide (q.num<0))),.p (cg q.num.natAbs),.p (cg q.den)]
structure GV where
 k:Nat
 n:Nat
 r:Nat
 A:Nat->Rat
 B:Nat->Rat
 G:Nat->Rat
 H:Nat->Rat
def aE (k n:Nat):Nat:=if k=1\/k=2 then 2*n-1 else if k=6 then 0 else n
def aV (k n:Nat):Nat:=if k=5\/k=7 then n else 0
def bE (k n r:Nat):Nat:=if k=6\/k=7 then n*r else 0
def GV.la (g:GV):Nat:=aE g.k g.n
def GV.lb (g:GV):Nat:=aV g.k g.n
def GV.lh (g:GV):Nat:=bE g.k g.n g.r
abbrev lz:Nat->Bool:=fun _=>false
abbrev pK (m:Nat->Bool) (g:GV):List PV:=[.int .i64 g.k,.int .i64 g.n,.int .i64 g.r,ar (m 0) (aH g.la g.A),ar (m 1) (aH g.lb g.B),ar (m 2) (aH g.lh g.G),ar (m 3) (aH g.lh g.H)]
abbrev dP (m:Nat->Bool) (g:GV):PV:=.agg (pK m g)
theorem cw (g:GV):ct (dP lz g):=.agg _ fun c hc=>by
 simp only[pK,List.mem_cons,List.not_mem_nil,or_false]at hc
 rcases hc with rfl|rfl|rfl|rfl|rfl|rfl|rfl<;>first|exact .int _ _|exact .sl _ _ (au _)
theorem fY (a n:Int) (hn:0<n) (hn':n<4611686018427387904):ae Tryz.prog 70 [.int .i64 a,.int .i64 n] (.p (.int .i64 (a%n))) []:=by
 refine aW Tryz.func70 ?_
 have hw:=eN (a:=a) hn
 have hb:=jK a hn
 obtain⟨r,hr⟩:∃r,r=a.tmod n:=⟨_,rfl⟩
 rw[<-hr]at hw hb
 refine yk.mk qO ?_
 refine SZ.mk r hr.symm ?_
 by_cases h:r<0
 ·refine bo ?_
  refine ai.bD (r+n) rfl qO ?_
  rw[if_pos h]at hw
  rw[<-hw]
  exact ab.pure (.p _ (.int _ _))
 ·refine bd ?_
  rw[if_neg h]at hw
  rw[<-hw]
  exact ab.pure (.p _ (.int _ _))
theorem rH (a n:Int) (hn:0<n) (hn':n<4611686018427387904):ae Tryz.prog 68 [.int .i64 a,.int .i64 n] (.p (.int .i64 (a%n))) []:=by
 refine aW Tryz.func68 ?_
 have hw:=eN (a:=a) hn
 have hb:=jK a hn
 obtain⟨r,hr⟩:∃r,r=a.tmod n:=⟨_,rfl⟩
 rw[<-hr]at hw hb
 refine yk.mk qO ?_
 refine SZ.mk r hr.symm ?_
 by_cases h:r<0
 ·refine bo ?_
  refine ai.bD (r+n) rfl qO ?_
  rw[if_pos h]at hw
  rw[<-hw]
  exact ab.pure (.p _ (.int _ _))
 ·refine bd ?_
  rw[if_neg h]at hw
  rw[<-hw]
  exact ab.pure (.p _ (.int _ _))
theorem ng {k:Nat} (h1:1<=k) (h7:k<=7):k=1\/k=2\/k=3\/k=4\/k=5\/k=6\/k=7:=qO
theorem tj (k:Nat) (h1:1<=k) (h7:k<=7):ae Tryz.prog 71 [.int .i64 k] (.p (.bool (decide (k=6\/k=7)))) []:=by
 refine aW Tryz.func71 ?_
 by_cases e6:k=6
 ·refine bo ?_
  rw[decide_eq_true (.inl e6)]
  exact ab.pure (.tf _)
 ·refine bd ?_
  by_cases e7:k=7
  ·refine bo ?_
   rw[decide_eq_true (.inr e7)]
   exact ab.pure (.tf _)
  ·refine bd ?_
   rw[decide_eq_false qO]
   exact ab.pure (.tf _)
theorem kP (k n r:Nat) (h1:1<=k) (h7:k<=7) (hn1:1<=n) (hn:n<=8) (hr:r<=3) (a b c d:PV):
  ae Tryz.prog 72 [.agg [.int .i64 k,.int .i64 n,.int .i64 r,a,b,c,d]] (.bK [.p (.int .i64 (aE k n)),.p (.int .i64 (aV k n)),.p (.int .i64 (bE k n r))]) []:=by
 have hnr:n*r<=24:=Nat.mul_le_mul hn hr
 have hnz:((n*r:Nat):Int)=(n:Int)*(r:Int):=Int.natCast_mul n r
 refine aW Tryz.func72 ?_
 rcases ng h1 h7 with rfl|rfl|rfl|rfl|rfl|rfl|rfl
 ·refine ir ?_
  refine a5 (2*n) ?_
  refine a5 (2*n-1) ?_
  exact yl (.p _ (.int _ _)) (.p _ (.int _ _)) (.p _ (.int _ _))
 ·refine cJ ?_
  refine ir ?_
  refine a5 (2*n) ?_
  refine a5 (2*n-1) ?_
  exact yl (.p _ (.int _ _)) (.p _ (.int _ _)) (.p _ (.int _ _))
 ·refine cJ ?_
  refine cJ ?_
  refine ir ?_
  exact yl (.p _ (.int _ _)) (.p _ (.int _ _)) (.p _ (.int _ _))
 ·refine cJ ?_
  refine cJ ?_
  refine cJ ?_
  refine ir ?_
  exact yl (.p _ (.int _ _)) (.p _ (.int _ _)) (.p _ (.int _ _))
 ·refine cJ ?_
  refine cJ ?_
  refine cJ ?_
  refine cJ ?_
  refine ir ?_
  refine gx ?_
  repeat refine aq ?_
  exact yl (.p _ (.int _ _)) (.p _ (.int _ _)) (.p _ (.int _ _))
 ·refine cJ ?_
  refine cJ ?_
  refine cJ ?_
  refine cJ ?_
  refine cJ ?_
  refine ir ?_
  refine gx ?_
  repeat refine aq ?_
  refine ag (a5 (n*r) af) ?_
  repeat refine aq ?_
  exact yl (.p _ (.int _ _)) (.p _ (.int _ _)) (.p _ (.int _ _))
 ·refine cJ ?_
  refine cJ ?_
  refine cJ ?_
  refine cJ ?_
  refine cJ ?_
  refine cJ ?_
  refine gx ?_
  repeat refine aq ?_
  refine ag (a5 (n*r) af) ?_
  repeat refine aq ?_
  exact yl (.p _ (.int _ _)) (.p _ (.int _ _)) (.p _ (.int _ _))
theorem E3 {neg:Bool} {a d:Nat} (ha:a<=20) (hd:d≠0): -20<=iW neg a d/\iW neg a d<=20:=by
 have h0:(0:Rat)<(d:Rat):=by exact_mod_cast Nat.pos_of_ne_zero hd
 have h1:(1:Rat)<=(d:Rat):=by exact_mod_cast Nat.pos_of_ne_zero hd
 have e:iW neg a d*(d:Rat)=((cZ neg a:Int):Rat):=by
  rw[iW,Rat.mkRat_eq_div]
  grind
 have s1:(-20:Int)<=cZ neg a/\cZ neg a<=20:=by unfold cZ;cases neg<;>simp<;>omega
 have s2:(-20:Rat)<=((cZ neg a:Int):Rat):=by have:=Rat.intCast_le_intCast.2 s1.1;rw[show(-20:Rat)=((-20:Int):Rat)from rfl];exact this
 have s3:((cZ neg a:Int):Rat)<=20:=by have:=s1.2;exact_mod_cast this
 generalize iW neg a d=q at e
 generalize((cZ neg a:Int):Rat)=s at e s2 s3
 generalize(d:Rat)=D at e h0 h1
 constructor
 ·by_cases c: -20<=q
  ·exact c
  ·have c:q< -20:=Rat.not_le.1 c
   have:=Rat.mul_lt_mul_of_pos_right c h0
   grind
 ·by_cases c:q<=20
  ·exact c
  ·have c:20<q:=Rat.not_le.1 c
   have:=Rat.mul_lt_mul_of_pos_right c h0
   grind
theorem oP (n:Int): -20<=tT n/\tT n<=20:=E3 qO qO
def f9 (f:Nat->Rat) (j:Nat) (b:Rat):Nat->Rat
 |0=>b
 |i+1=>if f i=f9 f j b i then f9 f j b i+(((100+j:Nat):Int):Rat)else f9 f j b i
theorem Aw {f:Nat->Rat} (hf:∀i,-20<=f i/\f i<=20) {j:Nat} {b:Rat} (hb: -20<=b/\b<=20):∀i,(f9 f j b i=b/\∀t,t<i->f t≠b)\/f9 f j b i=b+(((100+j:Nat):Int):Rat):=by
 intro i
 have big:(100:Rat)<=(((100+j:Nat):Int):Rat):=by
  have:(100:Int)<=((100+j:Nat):Int):=qO
  exact_mod_cast this
 induction i with
 |zero=>exact .inl ⟨rfl,fun t ht=>absurd ht (Nat.not_lt_zero _)⟩
 |succ i ih=>
  simp only[f9]
  rcases ih with⟨ih,hn⟩|ih
  ·rw[ih]
   by_cases c:f i=b
   ·rw[if_pos c];exact .inr rfl
   ·rw[if_neg c]
    exact .inl ⟨rfl,fun t ht=>by
     by_cases e:t=i
     ·rw[e];exact c
     ·exact hn t qO⟩
  ·rw[ih,if_neg]
   ·exact .inr rfl
   ·have:=(hf i).2
    have:=hb.1
    generalize(((100+j:Nat):Int):Rat)=z at big
    grind
theorem KG {f:Nat->Rat} (hf:∀i,-20<=f i/\f i<=20) {j:Nat} {b:Rat} (hb: -20<=b/\b<=20) {i t:Nat} (ht:t<i):f t≠f9 f j b i:=by
 rcases Aw hf (j:=j) hb i with⟨h,hn⟩|h
 ·rw[h];exact hn t ht
 ·have big:(100:Rat)<=(((100+j:Nat):Int):Rat):=by
   have:(100:Int)<=((100+j:Nat):Int):=qO
   exact_mod_cast this
  rw[h]
  have:=(hf t).2
  have:=hb.1
  generalize(((100+j:Nat):Int):Rat)=z at big
  grind
theorem x8 {f:Nat->Rat} (hf:∀i,-20<=f i/\f i<=20) {j:Nat} (hj:j<28) {b:Rat} (hb: -20<=b/\b<=20) (hz:Bz b 5) (i:Nat):Bz (f9 f j b i) 13:=by
 rcases Aw hf (j:=j) hb i with⟨h,_⟩|h
 ·rw[h];exact hz.mono qO
 ·rw[h];exact(hz.add (mw (k:=7) (cj (by rw[Int.natAbs_natCast];omega)) qO)).mono qO
def CF (kind:Int):Nat:=(1+kind%7).toNat
def gQ (n most:Int):Nat:=(1+n%most).toNat
def yi (k:Nat) (n:Int):Nat:=if k=6\/k=7 then(1+n.tdiv 8%2).toNat else 0
def yh (k n r:Nat) (f:Nat->Rat):GV:=
 ⟨k,n,r,f,fun j=>f9 f j (f (aE k n+j)) (aE k n),fun t=>f (aE k n+aV k n+t),fun t=>f (aE k n+aV k n+bE k n r+t)⟩
theorem xm {k n r:Nat} (hn1:1<=n) (hn:n<=8) (hr:r<=3):aE k n<=15/\aV k n<=8/\bE k n r<=24/\aV k n<=n:=by
 have hnr:n*r<=24:=Nat.mul_le_mul hn hr
 unfold aE aV bE
 refine⟨?_,?_,?_,?_⟩<;>(repeat' split)<;>omega
abbrev f6:PV:=.raw (.slice none 0 0)
def rL:List AV:=[.p (.int .i64 0),.p (.int .i64 0),.p (.int .i64 0),.p f6,.p f6,.p f6,.p f6]
def lD (k N r:Nat):List AV:=[.p (.int .i64 k),.p (.int .i64 N),.p (.int .i64 r),.vec 2 3 (0+0) (aE k N-0),.vec 2 3 (0+aE k N) (aE k N+aV k N-aE k N),
 .vec 2 3 (0+(aE k N+aV k N)) (aE k N+aV k N+bE k N r-(aE k N+aV k N)),.vec 2 3 (0+(aE k N+aV k N+bE k N r)) (aE k N+aV k N+2*bE k N r-(aE k N+aV k N+bE k N r))]
theorem fu {H:Hp} {h:Hd} {T:TypeId} {N off len l:Nat} {F g:Nat->Rat} (hB:look H h= .vec T 3 (a7 (aH N F))) (hl:off+len<=N) (hlen:len=l) (hg:∀t,t<l->F (off+t)=g t):Conv [] H (.vec h 3 off len) (.p (ar false (aH l g))):=by
 subst hlen
 refine .JE hB qS (by simpa[aH]using hl) (au _) ?_
 apply List.ext_getElem
 ·simp[aH];omega
 ·intro i h1 h2
  have hi:i<len:=by simpa[aH]using h2
  simp[aH,a7,hg i hi]
theorem ko (m:Bool) (kind n most:Int) (ns:List Int) (hkind:nB kind) (hn:nB n) (hns:kR ns) (hm1:1<=most) (hm8:most<=8):
  ae Tryz.prog 29 [.int .i64 kind,.int .i64 n,.sl m 1 (dn ns),.int .i64 most] (.p (dP lz (yh (CF kind) (gQ n most) (yi (CF kind) n) (aZ ns)))) []:=by
 have hkz:((CF kind:Nat):Int)=1+kind%7:=by unfold CF;omega
 have hmz:=Int.emod_nonneg n (show most≠0 by omega)
 have hmz2:=Int.emod_lt_of_pos n (show(0:Int)<most by omega)
 have hnz:((gQ n most:Nat):Int)=1+n%most:=by unfold gQ;omega
 obtain⟨k,hk⟩:∃k,k=CF kind:=⟨_,rfl⟩
 obtain⟨N,hN⟩:∃N,N=gQ n most:=⟨_,rfl⟩
 obtain⟨r,hr⟩:∃r,r=yi k n:=⟨_,rfl⟩
 rw[<-hk]at hkz⊢
 rw[<-hN]at hnz⊢
 rw[<-hr]
 have k1:1<=k:=qO
 have k7:k<=7:=qO
 have n1:1<=N:=qO
 have n8:N<=8:=qO
 have hr3:r<=3:=by rw[hr];unfold yi;split<;>omega
 obtain⟨ca,cb,ch,cbn⟩:=xm (k:=k) (r:=r) n1 n8 hr3
 have hf:∀i,-20<=aZ ns i/\aZ ns i<=20:=fun i=>oP _
 have hfb:∀i,Bz (aZ ns i) 5:=gN ns
 refine aW Tryz.func29 ?_
 refine aa.pure (fY kind 7 qO qO) ?_
 refine kJ (k:Int) ?_
 refine aa.pure (fY n most qO qO) ?_
 refine kJ (N:Int) ?_
 refine aa.pure (tj k k1 k7) ?_
 by_cases hl:k=6\/k=7
 ·rw[decide_eq_true hl]
  refine gv ?_
  have hq: -9223372036854775808<=n.tdiv 8/\n.tdiv 8<9223372036854775808:=by
   unfold nB at hn
   rw[Int.tdiv_eq_ediv,show Int.sign 8=1 from rfl];split<;>omega
  refine yk.mk qO ?_
  refine ai.bD (n.tdiv 8) rfl hq ?_
  refine aa.pure (fY (n.tdiv 8) 2 qO qO) ?_
  have hrz:1+n.tdiv 8%2=(r:Int):=by rw[hr];unfold yi;rw[if_pos hl];omega
  refine ai.bD (r:Int) hrz qO ?_
  have hc:=kP k N r k1 k7 n1 n8 hr3 f6 f6 f6 f6
  refine aa.aO (hc) (fun _=>rfl) ?_
  refine a5 (aE k N+aV k N) ?_
  refine a5 (2*bE k N r) ?_
  refine a5 (aE k N+aV k N+2*bE k N r) ?_
  refine aa.fresh (pvs:=[.sl m 1 (dn ns),.int .i64 ((aE k N+aV k N+2*bE k N r:Nat):Int)]) (pO m ns hns (aE k N+aV k N+2*bE k N r) qO) ?_
  refine cS ?_
  repeat refine aq ?_
  refine ag (SZ.mk (aE k N:Int) rfl<|cm.mk qS<|fO.mk (0) (aE k N) rfl rfl qO qO af) ?_
  repeat refine aq ?_
  refine ag (a5 (aE k N+aV k N) af) ?_
  repeat refine aq ?_
  refine ag (a5 (aE k N+aV k N) af) ?_
  refine ag (SZ.mk ((aE k N+aV k N:Nat):Int) rfl<|cm.mk qS<|fO.mk (aE k N) (aE k N+aV k N) rfl rfl qO qO af) ?_
  repeat refine aq ?_
  refine ag (a5 (aE k N+aV k N) af) ?_
  repeat refine aq ?_
  refine ag (a5 (aE k N+aV k N) af) ?_
  repeat refine aq ?_
  refine ag (a5 (aE k N+aV k N+bE k N r) af) ?_
  repeat refine aq ?_
  refine ag (a5 (aE k N+aV k N) af) ?_
  repeat refine aq ?_
  refine ag (a5 (aE k N+aV k N+bE k N r) af) ?_
  refine ag (SZ.mk ((aE k N+aV k N+bE k N r:Nat):Int) rfl<|cm.mk qS<|fO.mk (aE k N+aV k N) (aE k N+aV k N+bE k N r) rfl rfl qO qO af) ?_
  repeat refine aq ?_
  refine ag (a5 (aE k N+aV k N) af) ?_
  repeat refine aq ?_
  refine ag (a5 (aE k N+aV k N+bE k N r) af) ?_
  refine ag (fO.mk (aE k N+aV k N+bE k N r) (aE k N+aV k N+2*bE k N r) rfl rfl qO qO af) ?_
  repeat refine aq ?_
  refine cX ?_
  refine aJ.mk (Nat×(Nat->Rat)) (fun(j,F)=>([(8,.aC 0 0),(9,.aC 1 0),(10,.p (.int .i64 (aE k N))),(11,.p (.int .i64 (aV k N))),(14,.p (.int .i64 j))],
    [.box 26 rL,.box 26 (lD k N r),.vec 31 3 (a7 (aH (aE k N+aV k N+2*bE k N r) F))]))
   (fun(j,F)=>j<=aV k N/\∀t,t<aE k N+aV k N+2*bE k N r->F t=if aE k N<=t/\t<aE k N+j then f9 (aZ ns) (t-aE k N) (aZ ns t) (aE k N)else aZ ns t) (fun x=>aV k N-x.1) (0,aZ ns) [0,1,2]
   ⟨Nat.zero_le _,fun t _=>by rw[if_neg qO]⟩ aY ?_
  intro⟨j,F⟩ ⟨j1,j2⟩
  by_cases hj:j<aV k N
  ·refine bo ?_
   refine aJ.mk (Nat×(Nat->Rat)) (fun(i,F)=>([(8,.aC 0 0),(9,.aC 1 0),(10,.p (.int .i64 (aE k N))),(11,.p (.int .i64 (aV k N))),(14,.p (.int .i64 j)),(15,.p (.int .i64 i))],
     [.box 26 rL,.box 26 (lD k N r),.vec 31 3 (a7 (aH (aE k N+aV k N+2*bE k N r) F))]))
    (fun(i,F')=>i<=aE k N/\∀t,t<aE k N+aV k N+2*bE k N r->F' t=if t=aE k N+j then f9 (aZ ns) j (aZ ns (aE k N+j)) i else F t) (fun x=>aE k N-x.1) (0,F) [0,1,2]
    ⟨Nat.zero_le _,fun t ht=>by
     split
     ·rename_i e;rw[j2 t ht,if_neg qO,e];rfl
     ·rfl⟩ aY ?_
   intro⟨i,F'⟩ ⟨i1,i2⟩
   by_cases hi:i<aE k N
   ·refine bo ?_
    have eA:F' i=aZ ns i:=by rw[i2 i qO,if_neg qO,j2 i qO,if_neg qO]
    have eB:F' (aE k N+j)=f9 (aZ ns) j (aZ ns (aE k N+j)) i:=by rw[i2 _ qO,if_pos rfl]
    have zA:Bz (aZ ns i) 13:=(hfb i).mono qO
    have zB:=x8 hf (j:=j) qO (hf (aE k N+j)) (hfb _) i
    refine gx ?_
    repeat refine aq ?_
    refine ag (aK.mk i rfl qO af) ?_
    refine ag (aF.rv (i+(0+0)) (aZ ns i) rfl qO eA af) ?_
    repeat refine aq ?_
    refine ag (aK.mk j rfl qO af) ?_
    refine ag (aF.rv (j+(0+aE k N)) (f9 (aZ ns) j (aZ ns (aE k N+j)) i) rfl qO (by rw[<-eB];congr 1;omega) af) ?_
    repeat refine aq ?_
    refine ag (aa.pure (oG _ _ zA zB qO) af) ?_
    repeat refine aq ?_
    by_cases heq:aZ ns i=f9 (aZ ns) j (aZ ns (aE k N+j)) i
    ·refine iK.mk (fun _=>?_) (fun hb=>absurd heq (of_decide_eq_false hb))
     have zO:Bz (((100+j:Nat):Int):Rat) 7:=mw (k:=7) (cj (by rw[Int.natAbs_natCast];omega)) qO
     refine cS ?_
     repeat refine aq ?_
     refine ag (aK.mk j rfl qO af) ?_
     refine ag (aF.rv (j+(0+aE k N)) (f9 (aZ ns) j (aZ ns (aE k N+j)) i) rfl qO (by rw[<-eB];congr 1;omega) af) ?_
     repeat refine aq ?_
     refine ag (a5 (100+j) af) ?_
     refine ag (aa.pure (eO ((100+j:Nat):Int) qO) af) ?_
     refine ag (aa.pure (jn _ _ zB zO qO) af) ?_
     refine ag (aK.mk j rfl qO af) ?_
     refine ag (cm.rf qO<|dp.rf af) ?_
     refine cX ?_
     refine a5 (i+1) ?_
     refine⟨(i+1,_),[0,1,2],⟨hi,fun t ht=>?_⟩,cA,aY ⟨rfl,rfl,rfl,trivial⟩ (ss:=⟨rfl,rfl,rfl,rfl,rfl,rfl,trivial⟩)⟩
     by_cases e:t=aE k N+j
     ·have e':t=j+(0+aE k N):=qO
      rw[if_pos e,e',ah];simp only[f9];rw[if_pos heq]
     ·rw[if_neg e,aj _ _ qO,i2 t ht,if_neg e]
    ·refine iK.mk (fun hb=>absurd (of_decide_eq_true hb) heq) (fun _=>?_)
     refine a5 (i+1) ?_
     refine⟨(i+1,F'),[0,1,2],⟨hi,fun t ht=>?_⟩,cA,aY⟩
     rw[i2 t ht]
     by_cases e:t=aE k N+j
     ·rw[if_pos e,if_pos e];simp only[f9];rw[if_neg heq]
     ·rw[if_neg e,if_neg e]
   ·refine bd ?_
    obtain rfl:i=aE k N:=qO
    refine a5 (j+1) ?_
    refine⟨(j+1,F'),[0,1,2],⟨hj,fun t ht=>?_⟩,cA,aY⟩
    rw[i2 t ht]
    by_cases e:t=aE k N+j
    ·rw[if_pos e,if_pos qO,e,show aE k N+j-aE k N=j by omega]
    ·rw[if_neg e,j2 t ht]
     by_cases e2:aE k N<=t/\t<aE k N+j
     ·rw[if_pos e2,if_pos qO]
     ·rw[if_neg e2,if_neg qO]
  ·refine bd ?_
   obtain rfl:j=aV k N:=qO
   have hL:look [.box 26 rL,.box 26 (lD k N r),.vec 31 3 (a7 (aH (aE k N+aV k N+2*bE k N r) F))] (2:Nat)= .vec 31 3 (a7 (aH (aE k N+aV k N+2*bE k N r) F)):=rfl
   refine ab.pure (.ov (ps:=pK lz (yh k N r (aZ ns))) (fun d hd=>by simp at hd;rcases hd with rfl|rfl|rfl|rfl|rfl|rfl|rfl<;>rfl) rfl fun i c d e1 e2=>?_)
   match i,e1,e2 with
   |0,e1,e2=>cases e1;cases e2;exact .p _ (.int _ _)
   |1,e1,e2=>cases e1;cases e2;exact .p _ (.int _ _)
   |2,e1,e2=>cases e1;cases e2;exact .p _ (.int _ _)
   |3,e1,e2=>
    cases e1;cases e2
    exact fu (N:=aE k N+aV k N+2*bE k N r) (F:=F) rfl qO (Nat.sub_zero _) fun t ht=>by
     have ht:t<aE k N:=ht
     rw[j2 _ qO,if_neg qO];show aZ ns (0+0+t)=aZ ns t;congr 1;omega
   |4,e1,e2=>
    cases e1;cases e2
    exact fu (N:=aE k N+aV k N+2*bE k N r) (F:=F) rfl qO (by show _=aV k N;omega) fun t ht=>by
     have ht:t<aV k N:=ht
     rw[j2 _ qO,if_pos qO]
     show f9 _ (0+aE k N+t-aE k N) _ _=f9 _ t (aZ ns (aE k N+t)) _
     rw[show 0+aE k N+t=aE k N+t by omega,show aE k N+t-aE k N=t by omega]
   |5,e1,e2=>
    cases e1;cases e2
    exact fu (N:=aE k N+aV k N+2*bE k N r) (F:=F) rfl qO (by show _=bE k N r;omega) fun t ht=>by
     have ht:t<bE k N r:=ht
     rw[j2 _ qO,if_neg qO];show aZ ns _=aZ ns (aE k N+aV k N+t);congr 1;omega
   |6,e1,e2=>
    cases e1;cases e2
    exact fu (N:=aE k N+aV k N+2*bE k N r) (F:=F) rfl qO (by show _=bE k N r;omega) fun t ht=>by
     have ht:t<bE k N r:=ht
     rw[j2 _ qO,if_neg qO];show aZ ns _=aZ ns (aE k N+aV k N+bE k N r+t);congr 1;omega
 ·rw[decide_eq_false hl]
  refine fI ?_
  have hr0:r=0:=by rw[hr];unfold yi;rw[if_neg hl]
  subst hr0
  have hc:=kP k N 0 k1 k7 n1 n8 hr3 f6 f6 f6 f6
  refine aa.aO (hc) (fun _=>rfl) ?_
  refine a5 (aE k N+aV k N) ?_
  refine a5 (2*bE k N 0) ?_
  refine a5 (aE k N+aV k N+2*bE k N 0) ?_
  refine aa.fresh (pvs:=[.sl m 1 (dn ns),.int .i64 ((aE k N+aV k N+2*bE k N 0:Nat):Int)]) (pO m ns hns (aE k N+aV k N+2*bE k N 0) qO) ?_
  refine cS ?_
  repeat refine aq ?_
  refine ag (SZ.mk (aE k N:Int) rfl<|cm.mk qS<|fO.mk (0) (aE k N) rfl rfl qO qO af) ?_
  repeat refine aq ?_
  refine ag (a5 (aE k N+aV k N) af) ?_
  repeat refine aq ?_
  refine ag (a5 (aE k N+aV k N) af) ?_
  refine ag (SZ.mk ((aE k N+aV k N:Nat):Int) rfl<|cm.mk qS<|fO.mk (aE k N) (aE k N+aV k N) rfl rfl qO qO af) ?_
  repeat refine aq ?_
  refine ag (a5 (aE k N+aV k N) af) ?_
  repeat refine aq ?_
  refine ag (a5 (aE k N+aV k N) af) ?_
  repeat refine aq ?_
  refine ag (a5 (aE k N+aV k N+bE k N 0) af) ?_
  repeat refine aq ?_
  refine ag (a5 (aE k N+aV k N) af) ?_
  repeat refine aq ?_
  refine ag (a5 (aE k N+aV k N+bE k N 0) af) ?_
  refine ag (SZ.mk ((aE k N+aV k N+bE k N 0:Nat):Int) rfl<|cm.mk qS<|fO.mk (aE k N+aV k N) (aE k N+aV k N+bE k N 0) rfl rfl qO qO af) ?_
  repeat refine aq ?_
  refine ag (a5 (aE k N+aV k N) af) ?_
  repeat refine aq ?_
  refine ag (a5 (aE k N+aV k N+bE k N 0) af) ?_
  refine ag (fO.mk (aE k N+aV k N+bE k N 0) (aE k N+aV k N+2*bE k N 0) rfl rfl qO qO af) ?_
  repeat refine aq ?_
  refine cX ?_
  refine aJ.mk (Nat×(Nat->Rat)) (fun(j,F)=>([(8,.aC 0 0),(9,.aC 1 0),(10,.p (.int .i64 (aE k N))),(11,.p (.int .i64 (aV k N))),(14,.p (.int .i64 j))],
    [.box 26 rL,.box 26 (lD k N 0),.vec 31 3 (a7 (aH (aE k N+aV k N+2*bE k N 0) F))]))
   (fun(j,F)=>j<=aV k N/\∀t,t<aE k N+aV k N+2*bE k N 0->F t=if aE k N<=t/\t<aE k N+j then f9 (aZ ns) (t-aE k N) (aZ ns t) (aE k N)else aZ ns t) (fun x=>aV k N-x.1) (0,aZ ns) [0,1,2]
   ⟨Nat.zero_le _,fun t _=>by rw[if_neg qO]⟩ aY ?_
  intro⟨j,F⟩ ⟨j1,j2⟩
  by_cases hj:j<aV k N
  ·refine bo ?_
   refine aJ.mk (Nat×(Nat->Rat)) (fun(i,F)=>([(8,.aC 0 0),(9,.aC 1 0),(10,.p (.int .i64 (aE k N))),(11,.p (.int .i64 (aV k N))),(14,.p (.int .i64 j)),(15,.p (.int .i64 i))],
     [.box 26 rL,.box 26 (lD k N 0),.vec 31 3 (a7 (aH (aE k N+aV k N+2*bE k N 0) F))]))
    (fun(i,F')=>i<=aE k N/\∀t,t<aE k N+aV k N+2*bE k N 0->F' t=if t=aE k N+j then f9 (aZ ns) j (aZ ns (aE k N+j)) i else F t) (fun x=>aE k N-x.1) (0,F) [0,1,2]
    ⟨Nat.zero_le _,fun t ht=>by
     split
     ·rename_i e;rw[j2 t ht,if_neg qO,e];rfl
     ·rfl⟩ aY ?_
   intro⟨i,F'⟩ ⟨i1,i2⟩
   by_cases hi:i<aE k N
   ·refine bo ?_
    have eA:F' i=aZ ns i:=by rw[i2 i qO,if_neg qO,j2 i qO,if_neg qO]
    have eB:F' (aE k N+j)=f9 (aZ ns) j (aZ ns (aE k N+j)) i:=by rw[i2 _ qO,if_pos rfl]
    have zA:Bz (aZ ns i) 13:=(hfb i).mono qO
    have zB:=x8 hf (j:=j) qO (hf (aE k N+j)) (hfb _) i
    refine gx ?_
    repeat refine aq ?_
    refine ag (aK.mk i rfl qO af) ?_
    refine ag (aF.rv (i+(0+0)) (aZ ns i) rfl qO eA af) ?_
    repeat refine aq ?_
    refine ag (aK.mk j rfl qO af) ?_
    refine ag (aF.rv (j+(0+aE k N)) (f9 (aZ ns) j (aZ ns (aE k N+j)) i) rfl qO (by rw[<-eB];congr 1;omega) af) ?_
    repeat refine aq ?_
    refine ag (aa.pure (oG _ _ zA zB qO) af) ?_
    repeat refine aq ?_
    by_cases heq:aZ ns i=f9 (aZ ns) j (aZ ns (aE k N+j)) i
    ·refine iK.mk (fun _=>?_) (fun hb=>absurd heq (of_decide_eq_false hb))
     have zO:Bz (((100+j:Nat):Int):Rat) 7:=mw (k:=7) (cj (by rw[Int.natAbs_natCast];omega)) qO
     refine cS ?_
     repeat refine aq ?_
     refine ag (aK.mk j rfl qO af) ?_
     refine ag (aF.rv (j+(0+aE k N)) (f9 (aZ ns) j (aZ ns (aE k N+j)) i) rfl qO (by rw[<-eB];congr 1;omega) af) ?_
     repeat refine aq ?_
     refine ag (a5 (100+j) af) ?_
     refine ag (aa.pure (eO ((100+j:Nat):Int) qO) af) ?_
     refine ag (aa.pure (jn _ _ zB zO qO) af) ?_
     refine ag (aK.mk j rfl qO af) ?_
     refine ag (cm.rf qO<|dp.rf af) ?_
     refine cX ?_
     refine a5 (i+1) ?_
     refine⟨(i+1,_),[0,1,2],⟨hi,fun t ht=>?_⟩,cA,aY ⟨rfl,rfl,rfl,trivial⟩ (ss:=⟨rfl,rfl,rfl,rfl,rfl,rfl,trivial⟩)⟩
     by_cases e:t=aE k N+j
     ·have e':t=j+(0+aE k N):=qO
      rw[if_pos e,e',ah];simp only[f9];rw[if_pos heq]
     ·rw[if_neg e,aj _ _ qO,i2 t ht,if_neg e]
    ·refine iK.mk (fun hb=>absurd (of_decide_eq_true hb) heq) (fun _=>?_)
     refine a5 (i+1) ?_
     refine⟨(i+1,F'),[0,1,2],⟨hi,fun t ht=>?_⟩,cA,aY⟩
     rw[i2 t ht]
     by_cases e:t=aE k N+j
     ·rw[if_pos e,if_pos e];simp only[f9];rw[if_neg heq]
     ·rw[if_neg e,if_neg e]
   ·refine bd ?_
    obtain rfl:i=aE k N:=qO
    refine a5 (j+1) ?_
    refine⟨(j+1,F'),[0,1,2],⟨hj,fun t ht=>?_⟩,cA,aY⟩
    rw[i2 t ht]
    by_cases e:t=aE k N+j
    ·rw[if_pos e,if_pos qO,e,show aE k N+j-aE k N=j by omega]
    ·rw[if_neg e,j2 t ht]
     by_cases e2:aE k N<=t/\t<aE k N+j
     ·rw[if_pos e2,if_pos qO]
     ·rw[if_neg e2,if_neg qO]
  ·refine bd ?_
   obtain rfl:j=aV k N:=qO
   have hL:look [.box 26 rL,.box 26 (lD k N 0),.vec 31 3 (a7 (aH (aE k N+aV k N+2*bE k N 0) F))] (2:Nat)= .vec 31 3 (a7 (aH (aE k N+aV k N+2*bE k N 0) F)):=rfl
   refine ab.pure (.ov (ps:=pK lz (yh k N 0 (aZ ns))) (fun d hd=>by simp at hd;rcases hd with rfl|rfl|rfl|rfl|rfl|rfl|rfl<;>rfl) rfl fun i c d e1 e2=>?_)
   match i,e1,e2 with
   |0,e1,e2=>cases e1;cases e2;exact .p _ (.int _ _)
   |1,e1,e2=>cases e1;cases e2;exact .p _ (.int _ _)
   |2,e1,e2=>cases e1;cases e2;exact .p _ (.int _ _)
   |3,e1,e2=>
    cases e1;cases e2
    exact fu (N:=aE k N+aV k N+2*bE k N 0) (F:=F) rfl qO (Nat.sub_zero _) fun t ht=>by
     have ht:t<aE k N:=ht
     rw[j2 _ qO,if_neg qO];show aZ ns (0+0+t)=aZ ns t;congr 1;omega
   |4,e1,e2=>
    cases e1;cases e2
    exact fu (N:=aE k N+aV k N+2*bE k N 0) (F:=F) rfl qO (by show _=aV k N;omega) fun t ht=>by
     have ht:t<aV k N:=ht
     rw[j2 _ qO,if_pos qO]
     show f9 _ (0+aE k N+t-aE k N) _ _=f9 _ t (aZ ns (aE k N+t)) _
     rw[show 0+aE k N+t=aE k N+t by omega,show aE k N+t-aE k N=t by omega]
   |5,e1,e2=>
    cases e1;cases e2
    exact fu (N:=aE k N+aV k N+2*bE k N 0) (F:=F) rfl qO (by show _=bE k N 0;omega) fun t ht=>by
     have ht:t<bE k N 0:=ht
     rw[j2 _ qO,if_neg qO];show aZ ns _=aZ ns (aE k N+aV k N+t);congr 1;omega
   |6,e1,e2=>
    cases e1;cases e2
    exact fu (N:=aE k N+aV k N+2*bE k N 0) (F:=F) rfl qO (by show _=bE k N 0;omega) fun t ht=>by
     have ht:t<bE k N 0:=ht
     rw[j2 _ qO,if_neg qO];show aZ ns _=aZ ns (aE k N+aV k N+bE k N 0+t);congr 1;omega
def xS (N:Nat) (ns:List Int):Prop:=1<ns.length/\ns.getD 1 0%4=0/\1<N
instance (N:Nat) (ns:List Int):Decidable (xS N ns):=inferInstanceAs (Decidable (_/\_/\_))
def BQ (g:GV) (ns:List Int):GV:=if xS g.n ns then{g with A:=a8 g.A (g.n-1) (g.A 0)}else g
theorem kp {q:Rat} {k:Nat} (h:Bz q k) (hk:k<=1099511627776):ae Tryz.prog 69 [aB q] (.p (aB q)) []:=Gv q h hk
theorem uD (m:Bool) (n most:Int) (ns:List Int) (like:Bool) (hn:nB n) (hns:kR ns) (hm1:1<=most) (hm8:most<=8):
  ae Tryz.prog 28 [.int .i64 n,.sl m 1 (dn ns),.bool like,.int .i64 most] (.p (dP lz (BQ (yh (if like then 7 else 5) (gQ n most) (yi (if like then 7 else 5) n) (aZ ns)) ns))) []:=by
 cases like with
 |true=>
  obtain⟨g,hg⟩:∃g,g=yh 7 (gQ n most) (yi 7 n) (aZ ns):=⟨_,rfl⟩
  have hm:=ko m 6 n most ns (by unfold nB;omega) hn hns hm1 hm8
  have e13:CF 6=7:=qD
  rw[e13,<-hg]at hm
  have gn:g.n=gQ n most:=by rw[hg];rfl
  have gk:g.k=7:=by rw[hg];rfl
  have gA:g.A=aZ ns:=by rw[hg];rfl
  have hmz:=Int.emod_nonneg n (show most≠0 by omega)
  have hmz2:=Int.emod_lt_of_pos n (show(0:Int)<most by omega)
  have hnz:((gQ n most:Nat):Int)=1+n%most:=by unfold gQ;omega
  rw[<-gn]at hnz
  have n1:1<=g.n:=qO
  have n8:g.n<=8:=qO
  have hla:g.la=g.n:=by unfold GV.la aE;rw[gk];rfl
  have bA:∀i,Bz (g.A i) 5:=by rw[gA];exact gN ns
  show ae _ _ _ (.p (dP lz (BQ (yh 7 (gQ n most) (yi 7 n) (aZ ns)) ns))) []
  rw[<-hg]
  have conv:ae Tryz.prog 28 [.int .i64 n,.sl m 1 (dn ns),.bool true,.int .i64 most] (.p (dP lz (BQ g ns))) []:=by
   refine aW Tryz.func28 ?_
   refine gv ?_
   refine aa.pure (hm) ?_
   refine SZ.mk (ns.length:Int) qS ?_
   have fin0:¬xS g.n ns->BQ g ns=g:=fun h=>if_neg h
   by_cases c1:1<ns.length
   ·refine bo ?_
    refine aF.ib 1 rfl c1 ?_
    refine aa.pure (rH (ns.getD 1 0) 4 qO qO) ?_
    by_cases c2:ns.getD 1 0%4=0
    ·refine ao.yes (decide_eq_true c2) ?_
     by_cases c3:1<g.n
     ·refine bo ?_
      have ht:BQ g ns={g with A:=a8 g.A (g.n-1) (g.A 0)}:=if_pos ⟨c1,c2,c3⟩
      rw[ht]
      have hlen:(a7 (aH g.la g.A)).length=g.la:=by simp[aH]
      refine cG.mk (by simp[aH];omega) (by simp[aH];omega) ?_
      refine cS ?_
      repeat refine aq ?_
      refine ag (a5 (g.n-1) af) ?_
      repeat refine aq ?_
      refine ag (aK.mk 0 rfl qO af) ?_
      refine ag (aF.rv (0+0) (g.A 0) rfl qO rfl af) ?_
      refine ag (aa.pure (kp (bA 0) qO) af) ?_
      refine ag (aK.mk (g.n-1) rfl qO af) ?_
      refine ag (cm.rf qO<|dp.rf af) ?_
      repeat refine aq ?_
      refine cX ?_
      refine ab.pure (.ov (ps:=pK lz {g with A:=a8 g.A (g.n-1) (g.A 0)}) (fun d hd=>by simp at hd;rcases hd with rfl|rfl|rfl|rfl|rfl|rfl|rfl<;>rfl) rfl fun i c d e1 e2=>?_)
      match i,e1,e2 with
      |0,e1,e2=>cases e1;cases e2;exact .p _ (.int _ _)
      |1,e1,e2=>cases e1;cases e2;exact .p _ (.int _ _)
      |2,e1,e2=>cases e1;cases e2;exact .p _ (.int _ _)
      |3,e1,e2=>cases e1;cases e2;exact fu (N:=g.la) (F:=a8 g.A (g.n-1+0) (g.A 0)) rfl qO hlen fun t _=>by rw[Nat.zero_add];rfl
      |4,e1,e2=>cases e1;cases e2;exact .p _ (.sl _ _ (au _))
      |5,e1,e2=>cases e1;cases e2;exact .p _ (.sl _ _ (au _))
      |6,e1,e2=>cases e1;cases e2;exact .p _ (.sl _ _ (au _))
     ·refine bd ?_
      rw[fin0 fun h=>c3 h.2.2]
      exact ab.pure (.p _ (cw g))
    ·refine ao.no (decide_eq_false c2) ?_
     rw[fin0 fun h=>c2 h.2.1]
     exact ab.pure (.p _ (cw g))
   ·refine bd ?_
    rw[fin0 fun h=>c1 h.1]
    exact ab.pure (.p _ (cw g))
  exact conv
 |false=>
  obtain⟨g,hg⟩:∃g,g=yh 5 (gQ n most) (yi 5 n) (aZ ns):=⟨_,rfl⟩
  have hm:=ko m 4 n most ns (by unfold nB;omega) hn hns hm1 hm8
  have e13:CF 4=5:=qD
  rw[e13,<-hg]at hm
  have gn:g.n=gQ n most:=by rw[hg];rfl
  have gk:g.k=5:=by rw[hg];rfl
  have gA:g.A=aZ ns:=by rw[hg];rfl
  have hmz:=Int.emod_nonneg n (show most≠0 by omega)
  have hmz2:=Int.emod_lt_of_pos n (show(0:Int)<most by omega)
  have hnz:((gQ n most:Nat):Int)=1+n%most:=by unfold gQ;omega
  rw[<-gn]at hnz
  have n1:1<=g.n:=qO
  have n8:g.n<=8:=qO
  have hla:g.la=g.n:=by unfold GV.la aE;rw[gk];rfl
  have bA:∀i,Bz (g.A i) 5:=by rw[gA];exact gN ns
  show ae _ _ _ (.p (dP lz (BQ (yh 5 (gQ n most) (yi 5 n) (aZ ns)) ns))) []
  rw[<-hg]
  have conv:ae Tryz.prog 28 [.int .i64 n,.sl m 1 (dn ns),.bool false,.int .i64 most] (.p (dP lz (BQ g ns))) []:=by
   refine aW Tryz.func28 ?_
   refine fI ?_
   refine aa.pure (hm) ?_
   refine SZ.mk (ns.length:Int) qS ?_
   have fin0:¬xS g.n ns->BQ g ns=g:=fun h=>if_neg h
   by_cases c1:1<ns.length
   ·refine bo ?_
    refine aF.ib 1 rfl c1 ?_
    refine aa.pure (rH (ns.getD 1 0) 4 qO qO) ?_
    by_cases c2:ns.getD 1 0%4=0
    ·refine ao.yes (decide_eq_true c2) ?_
     by_cases c3:1<g.n
     ·refine bo ?_
      have ht:BQ g ns={g with A:=a8 g.A (g.n-1) (g.A 0)}:=if_pos ⟨c1,c2,c3⟩
      rw[ht]
      have hlen:(a7 (aH g.la g.A)).length=g.la:=by simp[aH]
      refine cG.mk (by simp[aH];omega) (by simp[aH];omega) ?_
      refine cS ?_
      repeat refine aq ?_
      refine ag (a5 (g.n-1) af) ?_
      repeat refine aq ?_
      refine ag (aK.mk 0 rfl qO af) ?_
      refine ag (aF.rv (0+0) (g.A 0) rfl qO rfl af) ?_
      refine ag (aa.pure (kp (bA 0) qO) af) ?_
      refine ag (aK.mk (g.n-1) rfl qO af) ?_
      refine ag (cm.rf qO<|dp.rf af) ?_
      repeat refine aq ?_
      refine cX ?_
      refine ab.pure (.ov (ps:=pK lz {g with A:=a8 g.A (g.n-1) (g.A 0)}) (fun d hd=>by simp at hd;rcases hd with rfl|rfl|rfl|rfl|rfl|rfl|rfl<;>rfl) rfl fun i c d e1 e2=>?_)
      match i,e1,e2 with
      |0,e1,e2=>cases e1;cases e2;exact .p _ (.int _ _)
      |1,e1,e2=>cases e1;cases e2;exact .p _ (.int _ _)
      |2,e1,e2=>cases e1;cases e2;exact .p _ (.int _ _)
      |3,e1,e2=>cases e1;cases e2;exact fu (N:=g.la) (F:=a8 g.A (g.n-1+0) (g.A 0)) rfl qO hlen fun t _=>by rw[Nat.zero_add];rfl
      |4,e1,e2=>cases e1;cases e2;exact .p _ (.sl _ _ (au _))
      |5,e1,e2=>cases e1;cases e2;exact .p _ (.sl _ _ (au _))
      |6,e1,e2=>cases e1;cases e2;exact .p _ (.sl _ _ (au _))
     ·refine bd ?_
      rw[fin0 fun h=>c3 h.2.2]
      exact ab.pure (.p _ (cw g))
    ·refine ao.no (decide_eq_false c2) ?_
     rw[fin0 fun h=>c2 h.2.1]
     exact ab.pure (.p _ (cw g))
   ·refine bd ?_
    rw[fin0 fun h=>c1 h.1]
    exact ab.pure (.p _ (cw g))
  exact conv
theorem xq {q:Rat} {b:Nat} (h:Bz q b):∀k,Bz (q^k) (b*k+1)
 |0=>by rw[Rat.pow_zero,Nat.mul_zero];exact dv
 |k+1=>by
  have:=(xq h k).mul h
  rw[Rat.pow_succ]
  exact this.mono (by rw[Nat.mul_succ];omega)
def ln (g:GV) (i j:Nat):Rat:=sm g.r fun t=>g.G (i*g.r+t)*g.H (j*g.r+t)
def aQ (g:GV) (i j:Nat):Rat:=
 if g.k=1 then g.A (i+g.n-1-j)else if g.k=2 then g.A (i+j)else if g.k=3 then g.A ((i+g.n-j)%g.n)else if g.k=4 then g.A i^j
 else if g.k=5 then 1/(g.A i-g.B j)else if g.k=6 then sm (min i j+1) fun m=>ln g (i-m) (j-m)else ln g i j/(g.A i-g.B j)
structure Wf (g:GV) (b c:Nat):Prop where
 k1:1<=g.k
 k7:g.k<=7
 n1:1<=g.n
 n6:g.n<=6
 r2:g.r<=2
 r1:g.k=6\/g.k=7->1<=g.r
 r0:g.k<=5->g.r=0
 bA:∀i,i<g.la->Bz (g.A i) b
 bB:∀i,i<g.lb->Bz (g.B i) c
 bG:∀i,i<g.lh->Bz (g.G i) b
 bH:∀i,i<g.lh->Bz (g.H i) b
 ne:∀i j,i<g.la->j<g.lb->g.A i≠g.B j
 bc:b<=c
 c4:c<=100
abbrev jF (m:Nat->Bool) (g:GV):List AV:=[.p (.int .i64 g.k),.p (.int .i64 g.n),.p (.int .i64 g.r),.p (ar (m 0) (aH g.la g.A)),.p (ar (m 1) (aH g.lb g.B)),.p (ar (m 2) (aH g.lh g.G)),.p (ar (m 3) (aH g.lh g.H))]
theorem lA {i n r t:Nat} (hi:i<n) (ht:t<r):i*r+t<n*r:=by
 have:(i+1)*r<=n*r:=Nat.mul_le_mul_right _ hi
 rw[Nat.succ_mul]at this;omega
theorem gB {F:Nat->Rat} {B n:Nat} (h:∀i,i<n->Bz (F i) B):∀k,k<=n->Bz (sm k F) (k*(B+1)+1):=by
 intro k
 induction k with
 |zero=>exact fun _=>cB.mono qO
 |succ k ih=>
  intro hk
  exact((ih qO).add (h k qO)).mono (by rw[Nat.succ_mul];omega)
theorem Wf.lh {g:GV} {b c:Nat} (h:Wf g b c) (hk:g.k=6\/g.k=7):g.lh=g.n*g.r:=if_pos hk
theorem Wf.prod {g:GV} {b c:Nat} (h:Wf g b c) (hk:g.k=6\/g.k=7) {i j:Nat} (hi:i<g.n) (hj:j<g.n):∀t,t<g.r->Bz (g.G (i*g.r+t)*g.H (j*g.r+t)) (2*b):=fun t ht=>
 ((h.bG _ (by rw[h.lh hk];exact lA hi ht)).mul (h.bH _ (by rw[h.lh hk];exact lA hj ht))).mono qO
theorem Wf.E7 {g:GV} {b c:Nat} (h:Wf g b c) (hk:g.k=6\/g.k=7) {i j:Nat} (hi:i<g.n) (hj:j<g.n):Bz (ln g i j) (2*(2*b+1)+1):=
 (gB (h.prod hk hi hj) g.r (Nat.le_refl _)).mono (Nat.add_le_add_right (Nat.mul_le_mul_right _ h.r2) 1)
abbrev t6:List AV:=[.p (.bool false),.p (.sl false 1 []),.p (.sl false 1 [])]
theorem AE (m:Nat->Bool) (g:GV) {b c:Nat} (h:Wf g b c) (hk:g.k=6\/g.k=7) (i j:Nat) (hi:i<g.n) (hj:j<g.n):
  ae Tryz.prog 86 [dP m g,.int .i64 i,.int .i64 j] (.p (aB (ln g i j))) []:=by
 have h8:=h.n6
 have h2:=h.r2
 have h4:=h.c4
 have h5:=h.bc
 have hlh:=h.lh hk
 have zP:=h.prod hk hi hj
 have zS:=gB zP
 have i0:i*g.r<=16:=Nat.mul_le_mul (show i<=8 by omega) h2
 have j0:j*g.r<=16:=Nat.mul_le_mul (show j<=8 by omega) h2
 have ic:((i*g.r:Nat):Int)=(i:Int)*(g.r:Int):=Int.natCast_mul i g.r
 have jc:((j*g.r:Nat):Int)=(j:Int)*(g.r:Int):=Int.natCast_mul j g.r
 refine aW Tryz.func86 ?_
 refine aa.pure (js) ?_
 refine aJ.mk Nat (fun t=>([(1,.p (.int .i64 i)),(2,.p (.int .i64 j)),(3,.aC 0 0),(6,.aC 1 0),(7,.aC 2 0),(8,.p (.int .i64 t))],[.box 26 (jF m g),.box 31 t6,.box 31 (lr (sm t fun t=>g.G (i*g.r+t)*g.H (j*g.r+t)))]))
  (fun t=>t<=g.r) (fun t=>g.r-t) 0 [0,1,2] (Nat.zero_le _) aY ?_
 intro t (ht:t<=g.r)
 by_cases htr:t<g.r
 ·refine bo ?_
  have l1:=lA hi htr
  have l2:=lA hj htr
  have lt:t*(2*b+1)<=2*(2*b+1):=Nat.mul_le_mul_right _ qO
  refine cS ?_
  repeat refine aq ?_
  refine ag (a5 (i*g.r) af) ?_
  repeat refine aq ?_
  refine ag (a5 (i*g.r+t) af) ?_
  refine ag (aF.rf (i*g.r+t) rfl qO af) ?_
  repeat refine aq ?_
  refine ag (a5 (j*g.r) af) ?_
  repeat refine aq ?_
  refine ag (a5 (j*g.r+t) af) ?_
  refine ag (aF.rf (j*g.r+t) rfl qO af) ?_
  repeat refine aq ?_
  refine ag (aa.pure (iI _ _ (h.bG _ qO) (h.bH _ qO) qO) af) ?_
  refine ag (aa.pure (jn _ _ (zS t ht) (zP t htr) qO) af) ?_
  repeat refine aq ?_
  refine cX ?_
  refine a5 (t+1) ?_
  exact⟨t+1,[0,1,2],htr,cA,aY⟩
 ·refine bd ?_
  obtain rfl:t=g.r:=qO
  exact ab.pure (.p _ (aG _ _ _))
theorem Fx (k:Nat) (h1:1<=k) (h7:k<=7):ae Tryz.prog 135 [.int .i64 k] (.p (.bool (decide (k=6\/k=7)))) []:=by
 refine aW Tryz.func135 ?_
 by_cases e6:k=6
 ·refine bo ?_
  rw[decide_eq_true (.inl e6)]
  exact ab.pure (.tf _)
 ·refine bd ?_
  by_cases e7:k=7
  ·refine bo ?_
   rw[decide_eq_true (.inr e7)]
   exact ab.pure (.tf _)
  ·refine bd ?_
   rw[decide_eq_false qO]
   exact ab.pure (.tf _)
theorem IN (m:Nat->Bool) (g:GV) {b c:Nat} (h:Wf g b c):ae Tryz.prog 87 [dP m g] (.p (.bool true)) []:=by
 have h1:=h.k1
 have h7:=h.k7
 have n1:=h.n1
 have n6:=h.n6
 have r2:=h.r2
 refine aW Tryz.func87 ?_
 refine bd ?_
 refine bd ?_
 refine aa.pure (Fx g.k h1 h7) ?_
 by_cases hl:g.k=6\/g.k=7
 ·have r1:=h.r1 hl
  rw[decide_eq_true hl]
  refine gv ?_
  refine bo ?_
  refine bo ?_
  exact ab.pure (.tf _)
 ·have r0:=h.r0 qO
  rw[decide_eq_false hl]
  refine fI ?_
  refine bo ?_
  exact ab.pure (.tf _)
theorem Cd (m:Nat->Bool) (g:GV):Df Tryz.prog 88 [dP m g] (.agg [ar (m 0) (aH g.la g.A),ar (m 1) (aH g.lb g.B),ar (m 2) (aH g.lh g.G),ar (m 3) (aH g.lh g.H)]):=by
 refine ri (wr:=vN) vI mixed Tryz.func88 qK rfl qK (cx rfl) ?_
 exact rfl
abbrev o7 (k i:Int):PV:=.agg [.int .i64 k,.int .i64 i]
abbrev nU (a b c:Int):PV:=.agg [.int .i64 a,.int .i64 b,.int .i64 c]
abbrev Gl:List (PV×PV):=[(o7 1 0,nU 2 0 (-1)),(o7 2 0,nU 2 0 (-1)),(o7 3 0,nU 1 0 0),(o7 4 0,nU 1 0 0),(o7 5 0,nU 1 0 0),(o7 5 1,nU 1 0 0),(o7 6 2,nU 0 1 0),(o7 6 3,nU 0 1 0),(o7 7 0,nU 1 0 0),(o7 7 1,nU 1 0 0),(o7 7 2,nU 0 1 0),(o7 7 3,nU 0 1 0)]
theorem FN:ae Tryz.prog 89 [] (.p (.mp false Gl)) []:=by
 refine aW Tryz.func89 ?_
 refine cS ?_
 repeat refine aq ?_
 refine ag (bn.all rfl<|dZ.add rfl af) ?_
 repeat refine aq ?_
 refine ag (bn.all rfl<|dZ.add rfl af) ?_
 repeat refine aq ?_
 refine ag (bn.all rfl<|dZ.add rfl af) ?_
 repeat refine aq ?_
 refine ag (bn.all rfl<|dZ.add rfl af) ?_
 repeat refine aq ?_
 refine ag (bn.all rfl<|dZ.add rfl af) ?_
 repeat refine aq ?_
 refine ag (bn.all rfl<|dZ.add rfl af) ?_
 repeat refine aq ?_
 refine ag (bn.all rfl<|dZ.add rfl af) ?_
 repeat refine aq ?_
 refine ag (bn.all rfl<|dZ.add rfl af) ?_
 repeat refine aq ?_
 refine ag (bn.all rfl<|dZ.add rfl af) ?_
 repeat refine aq ?_
 refine ag (bn.all rfl<|dZ.add rfl af) ?_
 repeat refine aq ?_
 refine ag (bn.all rfl<|dZ.add rfl af) ?_
 repeat refine aq ?_
 refine ag (bn.all rfl<|dZ.add rfl af) ?_
 repeat refine aq ?_
 refine vo.P9 qK ?_
 refine O8.mk Gl rfl rfl fun es hp=>?_
 refine ab.pure (.BL (es:=es) rfl qS hp fun e he=>?_)
 have:∀a b c d f:Int,ct (o7 a b)/\ct (nU c d f):=fun a b c d f=>⟨.agg _ fun x hx=>by
  simp only[List.mem_cons,List.not_mem_nil,or_false]at hx;rcases hx with rfl|rfl<;>exact .int _ _,.agg _ fun x hx=>by
  simp only[List.mem_cons,List.not_mem_nil,or_false]at hx;rcases hx with rfl|rfl|rfl<;>exact .int _ _⟩
 have he:=hp.mem_iff.1 he
 simp only[Gl,List.mem_cons,List.not_mem_nil,or_false]at he
 rcases he with rfl|rfl|rfl|rfl|rfl|rfl|rfl|rfl|rfl|rfl|rfl|rfl<;>exact this _ _ _ _ _
theorem JV {q:Rat} (h:Bz q 100):az q.num.natAbs<=4/\az q.den<=4:=by
 have:∀{a:Nat},bitLen a<=100->az a<=4:=fun{a} ha=>fX (Nat.lt_of_lt_of_le (cN a) (Nat.le_trans (Nat.pow_le_pow_right qD ha) qD))
 exact⟨this h.1,this h.2⟩
theorem Ef (q:Rat) (h:Bz q 100):ae Tryz.prog 92 [aB q] (.p (.bool true)) []:=by
 obtain⟨h1,h2⟩:=JV h
 refine aW Tryz.func92 ?_
 refine SZ.mk (az q.num.natAbs:Int) qS ?_
 refine bo ?_
 refine SZ.mk (az q.den:Int) qS ?_
 refine bo ?_
 refine aa.pure (gj q h.sz qO) ?_
 exact ab.pure (.p _ (.bool _))
theorem Eo (q:Rat) (h:Bz q 100):ae Tryz.prog 91 [aB q] (.p (.bool false)) []:=by
 refine aW Tryz.func91 ?_
 refine aa.pure (Ef q h) ?_
 refine cJ ?_
 exact ab.pure (.tf _)
theorem FE (m:Bool) (a b:Rat) {k:Nat} (ha:Bz a k) (hb:Bz b k) (hk:k+k<=1048576):ae Tryz.prog 93 [aB b,.f5 m (aB a)] (.p (.bool (decide (a=b)))) []:=by
 refine aW Tryz.func93 ?_
 refine aa.pure (sQ a b ha.sz hb.sz qO) ?_
 exact ab.pure (.p _ (.bool _))
theorem EJ (m:Bool) (l:List Rat) (hF:∀i,i<l.length->ae Tryz.prog 91 [aB (l.getD i 0)] (.p (.bool false)) []) (hn:l.length<=1099511627776):
  ae Tryz.prog 136 [ar m l,.fn 91 []] (.p (.int .i64 (-1))) []:=by
 refine aW Tryz.func136 ?_
 refine SZ.mk (l.length:Int) qS ?_
 refine aJ.mk Nat (fun i=>([(0,.p (ar m l)),(1,.p (.fn 91 [])),(7,.p (.int .i64 l.length)),(8,.p (.int .i64 i))],[]))
  (fun i=>i<=l.length) (fun i=>l.length-i) 0 [] (Nat.zero_le _) aY ?_
 intro i (h1:i<=l.length)
 by_cases hi:i<l.length
 ·refine bo ?_
  refine aF.rb i rfl hi ?_
  refine aa.pure (pvs:=[aB (l.getD i 0)]) (hF i hi) ?_
  refine fI ?_
  refine a5 (i+1) ?_
  exact⟨i+1,[],hi,cA,aY⟩
 ·refine bd ?_
  exact ab.pure (.p _ (.int _ _))
theorem Jz (m:Bool) (l:List Rat) (hF:∀i,i<l.length->ae Tryz.prog 91 [aB (l.getD i 0)] (.p (.bool false)) []) (hn:l.length<=1099511627776):
  ae Tryz.prog 90 [ar m l,.fn 91 []] (.p (.bool false)) []:=by
 refine aW Tryz.func90 ?_
 refine aa.pure (pvs:=[ar m l,.fn 91 []]) (EJ m l hF hn) ?_
 refine cJ ?_
 exact ab.pure (.tf _)
theorem Fu (m:Bool) (m2:Bool) (a:Rat) (l:List Rat) (hF:∀i,i<l.length->ae Tryz.prog 93 [aB (l.getD i 0),.f5 m2 (aB a)] (.p (.bool false)) []) (hn:l.length<=1099511627776):
  ae Tryz.prog 136 [ar m l,.fn 93 [.f5 m2 (aB a)]] (.p (.int .i64 (-1))) []:=by
 refine aW Tryz.func136 ?_
 refine SZ.mk (l.length:Int) qS ?_
 refine aJ.mk Nat (fun i=>([(0,.p (ar m l)),(1,.p (.fn 93 [.f5 m2 (aB a)])),(7,.p (.int .i64 l.length)),(8,.p (.int .i64 i))],[]))
  (fun i=>i<=l.length) (fun i=>l.length-i) 0 [] (Nat.zero_le _) aY ?_
 intro i (h1:i<=l.length)
 by_cases hi:i<l.length
 ·refine bo ?_
  refine aF.rb i rfl hi ?_
  refine aa.pure (pvs:=[aB (l.getD i 0),.f5 m2 (aB a)]) (hF i hi) ?_
  refine fI ?_
  refine a5 (i+1) ?_
  exact⟨i+1,[],hi,cA,aY⟩
 ·refine bd ?_
  exact ab.pure (.p _ (.int _ _))
theorem Ih (m:Bool) (m2:Bool) (a:Rat) (l:List Rat) (hF:∀i,i<l.length->ae Tryz.prog 93 [aB (l.getD i 0),.f5 m2 (aB a)] (.p (.bool false)) []) (hn:l.length<=1099511627776):
  ae Tryz.prog 90 [ar m l,.fn 93 [.f5 m2 (aB a)]] (.p (.bool false)) []:=by
 refine aW Tryz.func90 ?_
 refine aa.pure (pvs:=[ar m l,.fn 93 [.f5 m2 (aB a)]]) (Fu m m2 a l hF hn) ?_
 refine cJ ?_
 exact ab.pure (.tf _)
theorem JZ {b:Nat} (h:1<=b):Bz (((1:Int):Rat)) b:=dv.mono h
theorem Wf.Oz {g:GV} {b c:Nat} (h:Wf g b c) {i j:Nat} (hi:i<g.la) (hj:j<g.lb):Bz (g.A i-g.B j) (b+c+1)/\g.A i-g.B j≠0:=
 ⟨(h.bA i hi).sub (h.bB j hj),fun e=>h.ne i j hi hj (by grind)⟩
def eb (b c:Nat):Nat:=24*b+c+30
theorem Wf.EB {g:GV} {b c:Nat} (h:Wf g b c) (hk:g.k=1\/g.k=2):g.la=2*g.n-1:=by unfold GV.la aE;rw[if_pos hk]
theorem Wf.FD {g:GV} {b c:Nat} (h:Wf g b c) (hk:g.k=3\/g.k=4\/g.k=5\/g.k=7):g.la=g.n:=by unfold GV.la aE;rw[if_neg qO,if_neg qO]
theorem Wf.Ot {g:GV} {b c:Nat} (h:Wf g b c) (hk:g.k=5\/g.k=7):g.lb=g.n:=by unfold GV.lb aV;rw[if_pos hk]
theorem Wf.NZ {g:GV} {b c:Nat} (h:Wf g b c) (hk:g.k=6\/g.k=7) {i j:Nat} (hi:i<g.n) (hj:j<g.n):∀k,k<=min i j+1->Bz (sm k fun m=>ln g (i-m) (j-m)) (k*(2*(2*b+1)+1+1)+1):=
 gB (F:=fun m=>ln g (i-m) (j-m)) (n:=min i j+1) fun m hm=>h.E7 hk qO qO
theorem Wf.AY {g:GV} {b c:Nat} (h:Wf g b c) {i j:Nat} (hi:i<g.n) (hj:j<g.n):Bz (aQ g i j) (eb b c):=by
 have h8:=h.n6
 unfold aQ eb
 rcases ng h.k1 h.k7 with e|e|e|e|e|e|e
 ·rw[if_pos e]
  exact(h.bA _ (by rw[h.EB qO];omega)).mono qO
 ·rw[if_neg qO,if_pos e]
  exact(h.bA _ (by rw[h.EB qO];omega)).mono qO
 ·rw[if_neg qO,if_neg qO,if_pos e]
  exact(h.bA _ (by rw[h.FD qO];exact Nat.mod_lt _ qO)).mono qO
 ·rw[if_neg qO,if_neg qO,if_neg qO,if_pos e]
  have hj7:b*j<=b*5:=Nat.mul_le_mul_left _ qO
  exact(xq (h.bA i (by rw[h.FD qO];exact hi)) j).mono qO
 ·rw[if_neg qO,if_neg qO,if_neg qO,if_neg qO,if_pos e]
  have:=h.Oz (i:=i) (j:=j) (by rw[h.FD qO];exact hi) (by rw[h.Ot qO];exact hj)
  exact(dv.div this.1).mono qO
 ·rw[if_neg qO,if_neg qO,if_neg qO,if_neg qO,if_neg qO,if_pos e]
  have z:=h.NZ (.inl e) hi hj (min i j+1) (Nat.le_refl _)
  have:=Nat.mul_le_mul_right (2*(2*b+1)+1+1) (show min i j+1<=6 by omega)
  exact z.mono qO
 ·rw[if_neg qO,if_neg qO,if_neg qO,if_neg qO,if_neg qO,if_neg qO]
  have:=h.Oz (i:=i) (j:=j) (by rw[h.FD qO];exact hi) (by rw[h.Ot qO];exact hj)
  exact((h.E7 (.inr e) hi hj).div this.1).mono qO
theorem tN (m:Nat->Bool) (g:GV) {b c:Nat} (h:Wf g b c) (i j:Nat) (hi:i<g.n) (hj:j<g.n):
  ae Tryz.prog 38 [dP m g,.int .i64 i,.int .i64 j] (.p (aB (aQ g i j))) []:=by
 have h8:=h.n6
 have h2:=h.r2
 have h4:=h.c4
 have h5:=h.bc
 rcases ng h.k1 h.k7 with e|e|e|e|e|e|e
 ·have hl:=h.EB (.inl e)
  have hE:aQ g i j=g.A (i+g.n-1-j):=by unfold aQ;rw[if_pos e]
  rw[hE]
  refine aW Tryz.func38 ?_
  refine bo ?_
  refine ai.bD ((i:Int)-j) rfl qO ?_
  refine a5 (i+g.n-j) ?_
  refine a5 (i+g.n-1-j) ?_
  refine aF.rf (i+g.n-1-j) rfl qO ?_
  refine aa.pure (kp (h.bA (i+g.n-1-j) qO) qO) ?_
  exact ab.pure (.p _ (aG _ _ _))
 ·have hl:=h.EB (.inr e)
  have hE:aQ g i j=g.A (i+j):=by unfold aQ;rw[if_neg qO,if_pos e]
  rw[hE]
  refine aW Tryz.func38 ?_
  refine bd ?_
  refine bo ?_
  refine a5 (i+j) ?_
  refine aF.rf (i+j) rfl qO ?_
  refine aa.pure (kp (h.bA (i+j) qO) qO) ?_
  exact ab.pure (.p _ (aG _ _ _))
 ·have hl:=h.FD qO
  have hE:aQ g i j=g.A ((i+g.n-j)%g.n):=by unfold aQ;rw[if_neg qO,if_neg qO,if_pos e]
  have hm:(i+g.n-j)%g.n<g.n:=Nat.mod_lt _ qO
  rw[hE]
  refine aW Tryz.func38 ?_
  refine bd ?_
  refine bd ?_
  refine bo ?_
  refine cS ?_
  repeat refine aq ?_
  refine ag (ai.bD ((i:Int)-j) rfl qO af) ?_
  repeat refine aq ?_
  refine ag (a5 (i+g.n-j) af) ?_
  repeat refine aq ?_
  refine ag (xy (b:=g.n) qO rfl af) ?_
  refine ag (aF.rf ((i+g.n-j)%g.n) rfl qO af) ?_
  repeat refine aq ?_
  refine ag (aa.pure (kp (h.bA ((i+g.n-j)%g.n) qO) qO) af) ?_
  repeat refine aq ?_
  refine cX ?_
  exact ab.pure (.p _ (aG _ _ _))
 ·have hl:=h.FD qO
  have hE:aQ g i j=g.A i^j:=by unfold aQ;rw[if_neg qO,if_neg qO,if_neg qO,if_pos e]
  rw[hE]
  have hz:=h.bA i qO
  refine aW Tryz.func38 ?_
  refine bd ?_
  refine bd ?_
  refine bd ?_
  refine bo ?_
  refine aa.pure (eO 1 qD) ?_
  refine aJ.mk (Nat×Rat) (fun(t,q)=>([(1,.p (.int .i64 i)),(2,.p (.int .i64 j)),(3,.aC 0 0),(6,.aC 1 0),(7,.aC 2 0),(8,.p (.int .i64 t))],[.box 26 (jF m g),.box 31 t6,.box 31 (lr q)]))
   (fun(t,q)=>t<=j/\q=g.A i^t) (fun x=>j-x.1) (0,((1:Int):Rat)) [0,1,2] ⟨Nat.zero_le _,(Rat.pow_zero _).symm⟩ aY ?_
  intro⟨t,q⟩ ⟨ht,hq⟩
  by_cases htj:t<j
  ·refine bo ?_
   have zq:Bz q (b*t+1):=by rw[hq];exact xq hz t
   have hbt:b*t<=b*5:=Nat.mul_le_mul_left _ qO
   refine cS ?_
   repeat refine aq ?_
   refine ag (aF.rf i rfl qO af) ?_
   repeat refine aq ?_
   refine ag (aa.pure (iI _ _ zq hz qO) af) ?_
   repeat refine aq ?_
   refine cX ?_
   refine a5 (t+1) ?_
   exact⟨(t+1,q*g.A i),[0,1,2],⟨htj,by rw[hq,Rat.pow_succ]⟩,cA,aY⟩
  ·refine bd ?_
   obtain rfl:t=j:=qO
   rw[<-hq]
   exact ab.pure (.p _ (aG _ _ _))
 ·have hl:=h.FD qO
  have hl2:=h.Ot qO
  have hE:aQ g i j=1/(g.A i-g.B j):=by unfold aQ;rw[if_neg qO,if_neg qO,if_neg qO,if_neg qO,if_pos e]
  rw[hE]
  have hd:=h.Oz (i:=i) (j:=j) qO qO
  refine aW Tryz.func38 ?_
  refine bd ?_
  refine bd ?_
  refine bd ?_
  refine bd ?_
  refine bo ?_
  refine cS ?_
  refine ag (aa.pure (eO 1 qD) af) ?_
  repeat refine aq ?_
  refine ag (aF.rf i rfl qO af) ?_
  repeat refine aq ?_
  refine ag (aF.rf j rfl qO af) ?_
  repeat refine aq ?_
  refine ag (aa.pure (pS _ _ (h.bA i qO) (h.bB j qO) qO) af) ?_
  refine ag (aa.pure (oQ (((1:Int):Rat)) _ hd.2 (JZ (Nat.le_refl 1)) hd.1 qO) af) ?_
  repeat refine aq ?_
  refine cX ?_
  exact ab.pure (.p _ (aG _ _ _))
 ·have hE:aQ g i j=sm (min i j+1) fun m=>ln g (i-m) (j-m):=by unfold aQ;rw[if_neg qO,if_neg qO,if_neg qO,if_neg qO,if_neg qO,if_pos e]
  rw[hE]
  have zS:=h.NZ (.inl e) hi hj
  refine aW Tryz.func38 ?_
  refine bd ?_
  refine bd ?_
  refine bd ?_
  refine bd ?_
  refine bd ?_
  refine bo ?_
  refine aa.pure (js) ?_
  refine aJ.mk Nat (fun t=>([(1,.p (.int .i64 i)),(2,.p (.int .i64 j)),(3,.aC 0 0),(6,.aC 1 0),(9,.aC 2 0),(10,.p (.int .i64 t))],[.box 26 (jF m g),.box 31 t6,.box 31 (lr (sm t fun m=>ln g (i-m) (j-m)))]))
   (fun t=>t<=min i j+1) (fun t=>min i j+1-t) 0 [0,1,2] (Nat.zero_le _) aY ?_
  intro t (ht:t<=min i j+1)
  refine SZ.mk ((min i j:Nat):Int) (by show(if(j:Int)<(i:Int)then(j:Int)else(i:Int))=_;split<;>omega) ?_
  by_cases htj:t<min i j+1
  ·refine bo ?_
   have lt:t*(2*(2*b+1)+1+1)<=6*(2*(2*b+1)+1+1):=Nat.mul_le_mul_right _ qO
   refine cS ?_
   repeat refine aq ?_
   refine ag (a5 (i-t) af) ?_
   repeat refine aq ?_
   refine ag (a5 (j-t) af) ?_
   refine ag (aa.pure (AE m g h (.inl e) (i-t) (j-t) qO qO) af) ?_
   refine ag (aa.pure (jn _ _ (zS t ht) (h.E7 (.inl e) (i:=i-t) (j:=j-t) qO qO) qO) af) ?_
   repeat refine aq ?_
   refine cX ?_
   refine a5 (t+1) ?_
   exact⟨t+1,[0,1,2],htj,cA,aY⟩
  ·refine bd ?_
   obtain rfl:t=min i j+1:=qO
   exact ab.pure (.p _ (aG _ _ _))
 ·have hl:=h.FD qO
  have hl2:=h.Ot qO
  have hE:aQ g i j=ln g i j/(g.A i-g.B j):=by unfold aQ;rw[if_neg qO,if_neg qO,if_neg qO,if_neg qO,if_neg qO,if_neg qO]
  rw[hE]
  have hd:=h.Oz (i:=i) (j:=j) qO qO
  refine aW Tryz.func38 ?_
  refine bd ?_
  refine bd ?_
  refine bd ?_
  refine bd ?_
  refine bd ?_
  refine bd ?_
  refine cS ?_
  repeat refine aq ?_
  refine ag (aa.pure (AE m g h (.inr e) i j hi hj) af) ?_
  repeat refine aq ?_
  refine ag (aF.rf i rfl qO af) ?_
  repeat refine aq ?_
  refine ag (aF.rf j rfl qO af) ?_
  repeat refine aq ?_
  refine ag (aa.pure (pS _ _ (h.bA i qO) (h.bB j qO) qO) af) ?_
  refine ag (aa.pure (oQ _ _ hd.2 (h.E7 (.inr e) hi hj) hd.1 qO) af) ?_
  repeat refine aq ?_
  refine cX ?_
  exact ab.pure (.p _ (aG _ _ _))
def Ln (g:GV):Nat->Nat
 |0=>g.la
 |1=>g.lb
 |_=>g.lh
def PO (g:GV):Nat->Nat->Rat
 |0=>g.A
 |1=>g.B
 |2=>g.G
 |_=>g.H
abbrev Om (m:Nat->Bool) (g:GV):List PV:=[ar (m 0) (aH g.la g.A),ar (m 1) (aH g.lb g.B),ar (m 2) (aH g.lh g.G),ar (m 3) (aH g.lh g.H)]
theorem CP {m:Nat->Bool} {g:GV} {i:Nat} (hi:i<4):(Om m g)[i]?=some (ar (m i) (aH (Ln g i) (PO g i))):=by
 match i,hi with
 |0,_|1,_|2,_|3,_=>rfl
def PY (k i:Nat):Int:=if i=0 then(if k<=2 then 2 else if k=6 then 0 else 1)else if i=1/\(k=5\/k=7)then 1 else 0
def PT (k i:Nat):Int:=if 2<=i/\(k=6\/k=7)then 1 else 0
def Pm (k i:Nat):Int:=if i=0/\k<=2 then-1 else 0
theorem KX {k i:Nat} (k1:1<=k) (k7:k<=7) (hi:i<4) {K:Option PV->Prop} (hz:K (some (nU 0 0 0))->K none) (h:K (some (nU (PY k i) (PT k i) (Pm k i)))):eo Gl (o7 k i) K:=by
 have hi:i=0\/i=1\/i=2\/i=3:=qO
 rcases ng k1 k7 with rfl|rfl|rfl|rfl|rfl|rfl|rfl<;>rcases hi with rfl|rfl|rfl|rfl<;>
  first|exact .none rfl (hz h)|exact .at 0 _ rfl rfl rfl h|exact .at 1 _ rfl rfl rfl h|exact .at 2 _ rfl rfl rfl h|exact .at 3 _ rfl rfl rfl h|exact .at 4 _ rfl rfl rfl h|exact .at 5 _ rfl rfl rfl h|exact .at 6 _ rfl rfl rfl h|exact .at 7 _ rfl rfl rfl h|exact .at 8 _ rfl rfl rfl h|exact .at 9 _ rfl rfl rfl h|exact .at 10 _ rfl rfl rfl h|exact .at 11 _ rfl rfl rfl h
theorem DQ {g:GV} {b c i:Nat} (h:Wf g b c) (hi:i<4):∃x y w:Int,PY g.k i*g.n=x/\PT g.k i*g.n=y/\y*g.r=w/\x+w+Pm g.k i=Ln g i/\0<=x/\x<=12/\0<=y/\y<=6/\0<=w/\w<=12:=by
 refine⟨_,_,_,rfl,rfl,rfl,?_⟩
 have n1:=h.n1
 have n6:=h.n6
 have hnr:g.n*g.r<=12:=Nat.mul_le_mul n6 h.r2
 have hz:((g.n*g.r:Nat):Int)=(g.n:Int)*(g.r:Int):=Int.natCast_mul _ _
 have hi:i=0\/i=1\/i=2\/i=3:=qO
 rcases ng h.k1 h.k7 with e|e|e|e|e|e|e<;>rcases hi with rfl|rfl|rfl|rfl<;>simp[PY,PT,Pm,Ln,GV.la,GV.lb,GV.lh,aE,aV,bE,e]<;>omega
theorem jj (m:Nat->Bool) (g:GV) {b c:Nat} (h:Wf g b c):ae Tryz.prog 39 [dP m g] (.p (.int .i64 0)) []:=by
 have k1:=h.k1
 have k7:=h.k7
 have n1:=h.n1
 have n6:=h.n6
 have hc4:=h.c4
 have hbc:=h.bc
 have hz:∀i,i<4->∀t,t<Ln g i->Bz (PO g i t) 100:=fun i hi t ht=>by
  match i,hi with
  |0,_=>exact(h.bA t ht).mono qO
  |1,_=>exact(h.bB t ht).mono qO
  |2,_=>exact(h.bG t ht).mono qO
  |3,_=>exact(h.bH t ht).mono qO
 have cl:∀i,i<4->Ln g i<=24:=fun i hi=>by
  obtain⟨x,y,w,_,_,_,e,_⟩:=DQ h hi
  have:Pm g.k i<=0:=by unfold Pm;split<;>omega
  omega
 have c0:=cl 0 qD
 have c1:=cl 1 qD
 simp only[Ln]at c0 c1
 refine aW Tryz.func39 ?_
 refine bd ?_
 refine bd ?_
 refine aa.pure (IN m g h) ?_
 refine cJ ?_
 refine aa.FH [dP m g] _ rfl (Cd m g) ?_
 refine aa.pure (FN) ?_
 refine aJ.mk Nat (fun i=>([(1,.aC 0 0),(3,.aC 1 0),(4,.p (.mp false Gl)),(28,.p (.agg (Om m g))),(29,.p (.int .i64 i))],[.box 26 (jF m g),.box 109 ((Om m g).map .p)]))
  (fun i=>i<=4) (fun i=>4-i) 0 [0,1] (Nat.zero_le _) aY ?_
 intro i (hi:i<=4)
 by_cases h4:i<4
 ·obtain⟨x,y,w,e1,e2,e3,e4,b1,b2,b3,b4,b5,b6⟩:=DQ h h4
  have c4:=cl i h4
  refine bo ?_
  refine aF.mk i _ rfl (CP h4) ?_
  refine bn.all rfl<|KX k1 k7 h4 id ?_
  refine SZ.mk (Ln g i:Int) (by simp[aH]) ?_
  refine aK.mk 0 rfl qD ?_
  refine ai.bD x e1 qO ?_
  refine aK.mk 1 rfl qD ?_
  refine ai.bD y e2 qO ?_
  refine ai.bD w e3 qO ?_
  refine ai.bD (x+w) rfl qO ?_
  refine aK.mk 2 rfl qD ?_
  refine ai.bD (Ln g i:Int) e4 qO ?_
  refine ao.no (uQ rfl) ?_
  refine a5 (i+1) ?_
  exact⟨i+1,[0,1],h4,cA,aY⟩
 obtain rfl:i=4:=qO
 refine cJ ?_
 refine aJ.mk Nat (fun i=>([(1,.aC 0 0),(60,.p (.agg (Om m g))),(61,.p (.int .i64 i))],[.box 26 (jF m g),.box 109 ((Om m g).map .p)]))
  (fun i=>i<=4) (fun i=>4-i) 0 [0,1] (Nat.zero_le _) aY ?_
 intro i (hi:i<=4)
 by_cases h4:i<4
 ·refine bo ?_
  refine aF.mk i _ rfl (CP h4) ?_
  refine aa.pure (Jz (m i) (aH (Ln g i) (PO g i)) (fun t ht=>by rw[bT]at ht;rw[fh ht];exact Eo _ (hz i h4 t ht)) (by rw[bT];exact Nat.le_trans (cl i h4) qD)) ?_
  refine fI ?_
  refine a5 (i+1) ?_
  exact⟨i+1,[0,1],h4,cA,aY⟩
 obtain rfl:i=4:=qO
 refine cJ ?_
 refine SZ.mk (g.la:Int) (by simp[aH]) ?_
 refine aJ.mk Nat (fun i=>([(1,.aC 0 0),(68,.p (ar (m 0) (aH g.la g.A))),(69,.p (.int .i64 (g.la:Int))),(70,.p (.int .i64 i))],[.box 26 (jF m g),.box 109 ((Om m g).map .p)]))
  (fun i=>i<=g.la) (fun i=>g.la-i) 0 [0,1] (Nat.zero_le _) aY ?_
 intro i (hi:i<=g.la)
 by_cases hia:i<g.la
 ·refine bo ?_
  refine aF.rf i rfl hia ?_
  have hc2:=Ih (m 1) true (g.A i) (aH g.lb g.B) (fun j hj=>by
   rw[bT]at hj;rw[fh hj]
   have:=FE true (g.A i) (g.B j) ((h.bA i hia).mono hbc) (h.bB j hj) qO
   rwa[decide_eq_false (h.ne i j hia hj)]at this) (by rw[bT];exact Nat.le_trans c1 qD)
  refine aa.pure (pvs:=[ar (m 1) (aH g.lb g.B),.fn 93 [.f5 true (aB (g.A i))]]) hc2 ?_
  refine fI ?_
  refine a5 (i+1) ?_
  exact⟨i+1,[0,1],hia,cA,aY⟩
 ·refine bd ?_
  exact ab.pure (.p _ (.int _ _))
theorem jd:aB 1= .agg [.bool false,cg 1,cg 1]:=rfl
theorem mv:ae Tryz.prog 95 [] (.p (aB 0)) []:=by
 refine aW Tryz.func95 ?_
 refine ab.pure ?_
 rw[e8]
 exact iY ⟨rfl,rfl,rfl⟩ (.p _ (.bool _)) (.p _ (.sl _ _ (fun e he=>by simp at he))) (ka rfl)
theorem Dh:ae Tryz.prog 98 [] (.p (aB 1)) []:=by
 refine aW Tryz.func98 ?_
 refine ab.pure ?_
 rw[jd]
 exact iY ⟨rfl,rfl,rfl⟩ (.p _ (.bool _)) (ka rfl) (ka rfl)
theorem CR (m:Nat->Bool) (g:GV) {b c:Nat} (h:Wf g b c) (hk:g.k=6\/g.k=7) (i j:Nat) (hi:i<g.n) (hj:j<g.n):
  ae Tryz.prog 99 [dP m g,.int .i64 i,.int .i64 j] (.p (aB (ln g i j))) []:=by
 have h8:=h.n6
 have h2:=h.r2
 have h4:=h.c4
 have h5:=h.bc
 have hlh:=h.lh hk
 have zP:=h.prod hk hi hj
 have zS:=gB zP
 have i0:i*g.r<=16:=Nat.mul_le_mul (show i<=8 by omega) h2
 have j0:j*g.r<=16:=Nat.mul_le_mul (show j<=8 by omega) h2
 have ic:((i*g.r:Nat):Int)=(i:Int)*(g.r:Int):=Int.natCast_mul i g.r
 have jc:((j*g.r:Nat):Int)=(j:Int)*(g.r:Int):=Int.natCast_mul j g.r
 refine aW Tryz.func99 ?_
 refine aa.pure (mv) ?_
 refine aJ.mk Nat (fun t=>([(1,.p (.int .i64 i)),(2,.p (.int .i64 j)),(3,.aC 0 0),(6,.aC 1 0),(7,.aC 2 0),(11,.p (.int .i64 g.r)),(12,.p (.int .i64 t))],[.box 26 (jF m g),.box 31 t6,.box 31 (lr (sm t fun t=>g.G (i*g.r+t)*g.H (j*g.r+t)))]))
  (fun t=>t<=g.r) (fun t=>g.r-t) 0 [0,1,2] (Nat.zero_le _) aY ?_
 intro t (ht:t<=g.r)
 by_cases htr:t<g.r
 ·refine bo ?_
  have l1:=lA hi htr
  have l2:=lA hj htr
  have lt:t*(2*b+1)<=2*(2*b+1):=Nat.mul_le_mul_right _ qO
  refine cS ?_
  repeat refine aq ?_
  refine ag (a5 (i*g.r) af) ?_
  repeat refine aq ?_
  refine ag (a5 (i*g.r+t) af) ?_
  refine ag (aF.rf (i*g.r+t) rfl qO af) ?_
  repeat refine aq ?_
  refine ag (a5 (j*g.r) af) ?_
  repeat refine aq ?_
  refine ag (a5 (j*g.r+t) af) ?_
  refine ag (aF.rf (j*g.r+t) rfl qO af) ?_
  repeat refine aq ?_
  refine ag (aa.pure (cE _ _ (h.bG _ qO).sz (h.bH _ qO).sz qO) af) ?_
  refine ag (aa.pure (eh _ _ (zS t ht).sz (zP t htr).sz qO) af) ?_
  repeat refine aq ?_
  refine cX ?_
  refine a5 (t+1) ?_
  exact⟨t+1,[0,1,2],htr,cA,aY⟩
 ·refine bd ?_
  obtain rfl:t=g.r:=qO
  exact ab.pure (.p _ (aG _ _ _))
theorem yU (m:Nat->Bool) (g:GV) {b c:Nat} (h:Wf g b c) (a:Rat) {d:Nat} (ha:Bz a d) (hd:d<=1000) (hk:g.k=5\/g.k=7) (i j:Nat) (hi:i<g.n) (hj:j<g.n):
  ae Tryz.prog 97 [dP m g,aB a,.int .i64 i,.int .i64 j] (.p (aB (a/(g.A i-g.B j)))) []:=by
 have h4:=h.c4
 have h5:=h.bc
 have hl:=h.FD qO
 have hl2:=h.Ot hk
 have hdf:=h.Oz (i:=i) (j:=j) qO qO
 refine aW Tryz.func97 ?_
 refine cS ?_
 repeat refine aq ?_
 refine ag (aF.rf i rfl qO af) ?_
 repeat refine aq ?_
 refine ag (aF.rf j rfl qO af) ?_
 repeat refine aq ?_
 refine ag (aa.pure (dh _ _ (h.bA i qO).sz (h.bB j qO).sz qO) af) ?_
 refine ag (aa.aO (iS a _ hdf.2 ha.sz hdf.1.sz qO) (fun _=>rfl) af) ?_
 repeat refine aq ?_
 refine cX ?_
 exact ab.pure (.p _ (aG _ _ _))
theorem El (a:Rat) {b:Nat} (ha:Bz a b) (hb:b<=100) (j:Nat) (hj:j<=8):ae Tryz.prog 96 [aB a,.int .i64 j] (.p (aB (a^j))) []:=by
 refine aW Tryz.func96 ?_
 refine aa.pure (Dh) ?_
 refine aJ.mk (Nat×Rat) (fun(t,q)=>([(2,.aC 0 0),(4,.aC 1 0),(5,.aC 2 0),(7,.p (.int .i64 j)),(8,.p (.int .i64 t))],[.box 31 (lr a),.box 31 t6,.box 31 (lr q)]))
  (fun(t,q)=>t<=j/\q=a^t) (fun x=>j-x.1) (0,1) [0,1,2] ⟨Nat.zero_le _,(Rat.pow_zero _).symm⟩ aY ?_
 intro⟨t,q⟩ ⟨ht,hq⟩
 by_cases htj:t<j
 ·refine bo ?_
  have zq:Bz q (b*t+1):=by rw[hq];exact xq ha t
  have hbt:b*t<=b*8:=Nat.mul_le_mul_left _ qO
  refine aa.pure (cE _ _ zq.sz ha.sz qO) ?_
  refine a5 (t+1) ?_
  exact⟨(t+1,q*a),[0,1,2],⟨htj,by rw[hq,Rat.pow_succ]⟩,cA,aY⟩
 ·refine bd ?_
  obtain rfl:t=j:=qO
  rw[<-hq]
  exact ab.pure (.p _ (aG _ _ _))
theorem jv {q:Rat} {k:Nat} (h:Bz q k) (hk:k<=1000000):ae Tryz.prog 46 [aB q,aB 0] (.p (aB q)) []:=by
 have:=eh q 0 h.sz cB.sz qO
 rw[Rat.add_zero]at this;exact this
theorem wo (m:Nat->Bool) (g:GV) {b c:Nat} (h:Wf g b c) (i j:Nat) (hi:i<g.n) (hj:j<g.n):
  ae Tryz.prog 40 [dP m g,.int .i64 i,.int .i64 j] (.p (aB (aQ g i j))) []:=by
 have h8:=h.n6
 have h2:=h.r2
 have h4:=h.c4
 have h5:=h.bc
 rcases ng h.k1 h.k7 with e|e|e|e|e|e|e
 ·have hl:=h.EB (.inl e)
  have hE:aQ g i j=g.A (i+g.n-1-j):=by unfold aQ;rw[if_pos e]
  rw[hE]
  refine aW Tryz.func40 ?_
  refine bo ?_
  refine cS ?_
  repeat refine aq ?_
  refine ag (ai.bD ((i:Int)-j) rfl qO af) ?_
  repeat refine aq ?_
  refine ag (a5 (i+g.n-j) af) ?_
  refine ag (a5 (i+g.n-1-j) af) ?_
  refine ag (aF.rf (i+g.n-1-j) rfl qO af) ?_
  repeat refine aq ?_
  refine ag (aa.pure (mv) af) ?_
  refine ag (aa.pure (jv (h.bA (i+g.n-1-j) qO) qO) af) ?_
  repeat refine aq ?_
  refine cX ?_
  exact ab.pure (.p _ (aG _ _ _))
 ·have hl:=h.EB (.inr e)
  have hE:aQ g i j=g.A (i+j):=by unfold aQ;rw[if_neg qO,if_pos e]
  rw[hE]
  refine aW Tryz.func40 ?_
  refine bd ?_
  refine bo ?_
  refine cS ?_
  repeat refine aq ?_
  refine ag (a5 (i+j) af) ?_
  refine ag (aF.rf (i+j) rfl qO af) ?_
  repeat refine aq ?_
  refine ag (aa.pure (mv) af) ?_
  refine ag (aa.pure (jv (h.bA (i+j) qO) qO) af) ?_
  repeat refine aq ?_
  refine cX ?_
  exact ab.pure (.p _ (aG _ _ _))
 ·have hl:=h.FD qO
  have hE:aQ g i j=g.A ((i+g.n-j)%g.n):=by unfold aQ;rw[if_neg qO,if_neg qO,if_pos e]
  have hm:(i+g.n-j)%g.n<g.n:=Nat.mod_lt _ qO
  rw[hE]
  refine aW Tryz.func40 ?_
  refine bd ?_
  refine bd ?_
  refine bo ?_
  refine cS ?_
  repeat refine aq ?_
  refine ag (ai.bD ((i:Int)-j) rfl qO af) ?_
  repeat refine aq ?_
  refine ag (a5 (i+g.n-j) af) ?_
  repeat refine aq ?_
  refine ag (xy (b:=g.n) qO rfl af) ?_
  refine ag (aF.rf ((i+g.n-j)%g.n) rfl qO af) ?_
  repeat refine aq ?_
  refine ag (aa.pure (mv) af) ?_
  refine ag (aa.pure (jv (h.bA ((i+g.n-j)%g.n) qO) qO) af) ?_
  repeat refine aq ?_
  refine cX ?_
  exact ab.pure (.p _ (aG _ _ _))
 ·have hl:=h.FD qO
  have hE:aQ g i j=g.A i^j:=by unfold aQ;rw[if_neg qO,if_neg qO,if_neg qO,if_pos e]
  rw[hE]
  refine aW Tryz.func40 ?_
  refine bd ?_
  refine bd ?_
  refine bd ?_
  refine bo ?_
  refine aF.rf i rfl qO ?_
  refine aa.pure (El _ (h.bA i qO) qO j qO) ?_
  exact ab.pure (.p _ (aG _ _ _))
 ·have hE:aQ g i j=1/(g.A i-g.B j):=by unfold aQ;rw[if_neg qO,if_neg qO,if_neg qO,if_neg qO,if_pos e]
  rw[hE]
  refine aW Tryz.func40 ?_
  refine bd ?_
  refine bd ?_
  refine bd ?_
  refine bd ?_
  refine bo ?_
  refine cS ?_
  repeat refine aq ?_
  refine ag (aa.pure (Dh) af) ?_
  repeat refine aq ?_
  refine ag (aa.pure (yU m g h 1 dv qO (.inl e) i j hi hj) af) ?_
  repeat refine aq ?_
  refine cX ?_
  exact ab.pure (.p _ (aG _ _ _))
 ·have hE:aQ g i j=sm (min i j+1) fun m=>ln g (i-m) (j-m):=by unfold aQ;rw[if_neg qO,if_neg qO,if_neg qO,if_neg qO,if_neg qO,if_pos e]
  rw[hE]
  have zS:=h.NZ (.inl e) hi hj
  refine aW Tryz.func40 ?_
  refine bd ?_
  refine bd ?_
  refine bd ?_
  refine bd ?_
  refine bd ?_
  refine bd ?_
  refine aa.pure (mv) ?_
  refine aJ.mk Nat (fun t=>([(1,.p (.int .i64 i)),(2,.p (.int .i64 j)),(3,.aC 0 0),(6,.aC 1 0),(7,.aC 2 0),(8,.p (.int .i64 t))],[.box 26 (jF m g),.box 31 t6,.box 31 (lr (sm t fun m=>ln g (i-m) (j-m)))]))
   (fun t=>t<=min i j+1) (fun t=>min i j+1-t) 0 [0,1,2] (Nat.zero_le _) aY ?_
  intro t (ht:t<=min i j+1)
  refine SZ.mk ((min i j:Nat):Int) (by show(if(j:Int)<(i:Int)then(j:Int)else(i:Int))=_;split<;>omega) ?_
  by_cases htj:t<min i j+1
  ·refine bo ?_
   have lt:t*(2*(2*b+1)+1+1)<=6*(2*(2*b+1)+1+1):=Nat.mul_le_mul_right _ qO
   refine cS ?_
   repeat refine aq ?_
   refine ag (a5 (i-t) af) ?_
   repeat refine aq ?_
   refine ag (a5 (j-t) af) ?_
   refine ag (aa.pure (CR m g h (.inl e) (i-t) (j-t) qO qO) af) ?_
   refine ag (aa.pure (eh _ _ (zS t ht).sz (h.E7 (.inl e) (i:=i-t) (j:=j-t) qO qO).sz qO) af) ?_
   repeat refine aq ?_
   refine cX ?_
   refine a5 (t+1) ?_
   exact⟨t+1,[0,1,2],htj,cA,aY⟩
  ·refine bd ?_
   obtain rfl:t=min i j+1:=qO
   exact ab.pure (.p _ (aG _ _ _))
 ·have hE:aQ g i j=ln g i j/(g.A i-g.B j):=by unfold aQ;rw[if_neg qO,if_neg qO,if_neg qO,if_neg qO,if_neg qO,if_neg qO]
  rw[hE]
  refine aW Tryz.func40 ?_
  refine bd ?_
  refine bd ?_
  refine bd ?_
  refine bd ?_
  refine bd ?_
  refine bo ?_
  refine cS ?_
  repeat refine aq ?_
  refine ag (aa.pure (CR m g h (.inr e) i j hi hj) af) ?_
  repeat refine aq ?_
  refine ag (aa.pure (yU m g h (ln g i j) (h.E7 (.inr e) hi hj) qO (.inr e) i j hi hj) af) ?_
  repeat refine aq ?_
  refine cX ?_
  exact ab.pure (.p _ (aG _ _ _))
end Go.Proofs.YtiakeknbdclaoaaGreat
