/- FTOwn: what its proof needs, part 5. -/
import Derived.Test.YtnilcfiemgmfdaaGreatMTOwn4
set_option linter.unusedVariables false
set_option linter.unusedSimpArgs false
namespace Go.Proofs.YtnilcfiemgmfdaaGreat
open Go
set_option maxRecDepth 10000
def c6 (neg:Bool) (n:Nat):Int:=if neg then-(n:Int)else n
abbrev aJ (q:Rat):PV:=.agg [.bool (decide (q.num<0)),bC q.num.natAbs,bC q.den]
def ir (neg:Bool) (n d:Nat):Rat:=mkRat (c6 neg n) d
theorem nQ (neg:Bool) (n:Nat):(c6 neg n).natAbs=n:=by cases neg<;>simp[c6]
theorem aS (b:Bool) (x y:Nat):bZ (.agg [.bool b,bC x,bC y]):=.agg _ fun c hc=>by
 simp at hc
 rcases hc with rfl|rfl|rfl
 ·exact .bool _
 ·exact .sl _ _ (aP _)
 ·exact .sl _ _ (aP _)
theorem fx:bC 0= .sl false 1 []:=by simp[cr]
theorem dF:aJ 0= .agg [.bool false,.sl false 1 [],bC 1]:=by
 show PV.agg [.bool (decide ((0:Int)<0)),bC (0:Int).natAbs,bC 1]=_
 rw[show(0:Int).natAbs=0 from rfl,fx];rfl
theorem wV {neg:Bool} {n d:Nat} (hd:d≠0):(ir neg n d).num.natAbs=n/Nat.gcd n d/\(ir neg n d).den=d/Nat.gcd n d/\(n≠0->((ir neg n d).num<0↔neg=true)):=by
 have e:ir neg n d=Rat.normalize (c6 neg n) d hd:=by simp[ir,mkRat,hd]
 rw[e,Rat.normalize_eq]
 simp only[nQ]
 have hg:0<Nat.gcd n d:=Nat.gcd_pos_of_pos_right _ (by omega)
 have hdv:Nat.gcd n d∣n:=Nat.gcd_dvd_left n d
 have key:c6 neg n/((Nat.gcd n d:Nat):Int)=c6 neg (n/Nat.gcd n d):=by
  cases neg
  ·simp[c6]
  ·simp only[c6,if_true]
   rw[Int.neg_ediv_of_dvd (Int.natCast_dvd_natCast.2 hdv)]
   simp
 simp only[key]
 refine⟨nQ _ _,trivial,fun hn=>?_⟩
 have hp:0<n/Nat.gcd n d:=Nat.div_pos (Nat.le_of_dvd (by omega) hdv) hg
 cases neg
 ·simp only[c6,Bool.false_eq_true,if_false,iff_false];omega
 ·simp only[c6,if_true,iff_true];omega
theorem pe {neg:Bool} {n d:Nat} (hd:d≠0) (hn:n≠0):aJ (ir neg n d)= .agg [.bool neg,bC (n/Nat.gcd n d),bC (d/Nat.gcd n d)]:=by
 obtain⟨h1,h2,h3⟩:=wV (neg:=neg) (n:=n) hd
 simp only[aJ,h1,h2]
 congr 3
 have h3:=h3 hn
 cases neg<;>simp at h3⊢<;>omega
theorem vE:au Tryz.prog 100 [] (.p (bC 1)) []:=by
 refine aa (wr:=a9) a6 mixed Tryz.func100 (by kernel_rfl) rfl (by kernel_rfl) (af rfl) (by simp) ?_
 refine ab.pure (pvs:=[.int .u64 1]) (tF 1 (by omega)) ?_
 exact aq.pure (.p _ (.sl _ _ (aP _)))
theorem Dq:au Tryz.prog 172 [] (.p (aJ 0)) []:=by
 refine aa (wr:=a9) a6 mixed Tryz.func172 (by kernel_rfl) rfl (by kernel_rfl) (af rfl) (by simp) ?_
 refine ab.pure vE ?_
 refine aq.pure ?_
 rw[dF]
 refine .p _ ?_
 have:=aS false 0 1
 rwa[fx]at this
theorem nX (neg:Bool) (m m':Bool) (n d:Nat) (hd:d≠0) (hn':aL n<=137438953472) (hd':aL d<=137438953472):
  au Tryz.prog 119 [.bool neg,bK m n,bK m' d] (.p (aJ (ir neg n d))) []:=by
 refine aa (wr:=a9) a6 mixed Tryz.func119 (by kernel_rfl) rfl (by kernel_rfl) (af rfl) (by simp) ?_
 refine SZ.mk (aL n:Int) (by simp) ?_
 by_cases hn:n=0
 ·subst hn
  refine ag.yes (kV (by rw[aR.2 rfl];rfl)) ?_
  refine ab.pure Dq ?_
  refine aq.pure ?_
  rw[show ir neg 0 d=0 by cases neg<;>simp[ir,c6]]
  exact .p _ (aS _ _ _)
 ·refine ag.no (kL (by have:=mt aR.1 hn;omega)) ?_
  have hg:0<Nat.gcd n d:=Nat.gcd_pos_of_pos_right _ (by omega)
  have hgl:aL (Nat.gcd n d)<=137438953472:=Nat.le_trans (dt (Nat.gcd_le_right _ (by omega))) hd'
  refine ab.pure (Ac m m' n d hn' hd') ?_
  have h1:=rl m false n (Nat.gcd n d) hn' hgl
  have h2:=rl m' false d (Nat.gcd n d) hd' hgl
  rw[if_neg (by omega)]at h1 h2
  refine ab.bg h1 (fun _=>rfl) ?_
  refine ab.bg h2 (fun _=>rfl) ?_
  refine aq.pure ?_
  rw[pe hd hn]
  exact .p _ (aS _ _ _)
theorem wM (neg:Bool) (m m':Bool) (n d:Nat) (hd:d≠0) (hn':aL n<=137438953472) (hd':aL d<=137438953472):
  au Tryz.prog 51 [.bool neg,bK m n,bK m' d] (.bq [.p (aJ (ir neg n d)),.p (.int .i64 0)]) []:=by
 refine aa (wr:=a9) a6 mixed Tryz.func51 (by kernel_rfl) rfl (by kernel_rfl) (af rfl) (by simp) ?_
 refine SZ.mk (aL d:Int) (by simp) ?_
 refine ag.no (kL (by have:=mt aR.1 hd;omega)) ?_
 refine ab.pure (nX neg m m' n d hd hn' hd') ?_
 refine aq.pure ?_
 exact .bq rfl fun i c d e1 e2=>by
  match i,e1,e2 with
  |0,e1,e2=>cases e1;cases e2;exact .p _ (aS _ _ _)
  |1,e1,e2=>cases e1;cases e2;exact .p _ (.int _ _)
theorem AL (neg:Bool) (m m':Bool) (n:Nat):
  au Tryz.prog 51 [.bool neg,bK m n,bK m' 0] (.bq [.p (.agg [.bool false,.sl false 1 [],.sl false 1 []]),.p (.int .i64 5)]) []:=by
 refine aa (wr:=a9) a6 mixed Tryz.func51 (by kernel_rfl) rfl (by kernel_rfl) (af rfl) (by simp) ?_
 refine SZ.mk 0 (by simp[cr]) ?_
 refine ag.yes rfl ?_
 refine aq.pure ?_
 exact .bq rfl fun i c d e1 e2=>by
  match i,e1,e2 with
  |0,e1,e2=>
   cases e1;cases e2
   have:=aS false 0 0
   rw[fx]at this
   exact .p _ this
  |1,e1,e2=>cases e1;cases e2;exact .p _ (.int _ _)
theorem Bu (b:Bool) (x y:Nat) (hx:aL x<=1099511627776) (hy:aL y<=1099511627776):au Tryz.prog 173 [.agg [.bool b,bC x,bC y]] (.p (.agg [.bool b,bC x,bC y])) []:=by
 refine aa (wr:=a9) a6 mixed Tryz.func173 (by kernel_rfl) rfl (by kernel_rfl) (af rfl) (by simp) ?_
 refine aO.mk (by kernel_rfl) ?_
 iterate 2 refine aj.mk _ _ (And.intro rfl rfl) rfl ?_
 refine aj.mk _ _ (ab.pure (iy false (nl x) hx) (And.intro rfl rfl)) rfl ?_
 iterate 2 refine aj.mk _ _ (And.intro rfl rfl) rfl ?_
 refine aj.mk _ _ (ab.pure (iy false (nl y) hy) (And.intro rfl rfl)) rfl ?_
 iterate 4 refine aj.mk _ _ (And.intro rfl rfl) rfl ?_
 refine aq.pure ?_
 exact .p _ (aS _ _ _)
theorem vt (q:Rat) (hx:aL q.num.natAbs<=1099511627776) (hy:aL q.den<=1099511627776):au Tryz.prog 121 [aJ q] (.p (.agg [.bool false,bC q.num.natAbs,bC q.den])) []:=by
 refine aa (wr:=a9) a6 mixed Tryz.func121 (by kernel_rfl) rfl (by kernel_rfl) (af rfl) (by simp) ?_
 refine ab.pure (Bu _ _ _ hx hy) ?_
 refine aq.pure ?_
 exact .p _ (aS _ _ _)
theorem rF (q:Rat) (hx:aL q.num.natAbs<=1099511627776) (hy:aL q.den<=1099511627776):au Tryz.prog 134 [aJ q] (.p (aJ (-q))) []:=by
 refine aa (wr:=a9) a6 mixed Tryz.func134 (by kernel_rfl) rfl (by kernel_rfl) (af rfl) (by simp) ?_
 refine ab.pure (Bu _ _ _ hx hy) ?_
 have hn:aJ (-q)= .agg [.bool (decide (0<q.num)),bC q.num.natAbs,bC q.den]:=by
  simp only[aJ,Rat.neg_num,Rat.neg_den,Int.natAbs_neg]
  congr 3
  by_cases h:0<q.num<;>simp[h]<;>omega
 rw[hn]
 by_cases h:q.num<0
 ·refine ag.no (by simp[h]) ?_
  refine aq.pure ?_
  rw[decide_eq_false (by omega)]
  exact .p _ (aS _ _ _)
 ·refine ag.yes (by simp[h]) ?_
  refine SZ.mk (aL q.num.natAbs:Int) (by simp) ?_
  have h0:=aR (n:=q.num.natAbs)
  by_cases hz:q.num=0
  ·refine ag.no (decide_eq_false (by rw[h0.2 (by omega)];decide)) ?_
   refine aq.pure ?_
   rw[decide_eq_false (by omega)]
   exact .p _ (aS _ _ _)
  ·refine ag.yes (decide_eq_true (by have:=mt h0.1 (by omega);omega)) ?_
   refine aq.pure ?_
   rw[decide_eq_true (by omega)]
   exact .p _ (aS _ _ _)
structure Sz (q:Rat) (k:Nat):Prop where
 n:aL q.num.natAbs<=k
 d:aL q.den<=k
theorem qN (q:Rat):c6 (decide (q.num<0)) q.num.natAbs=q.num:=by
 by_cases h:q.num<0
 ·simp only[c6,decide_eq_true h,if_true];omega
 ·simp only[c6,decide_eq_false h,Bool.false_eq_true,if_false];omega
theorem DC (a b:Bool) (x y:Nat):c6 (a !=b) (x*y)=c6 a x*c6 b y:=by
 cases a<;>cases b<;>simp[c6]<;>grind
theorem CG (a:Bool) (x y:Nat):c6 a (x+y)=c6 a x+c6 a y:=by
 cases a<;>simp[c6]<;>grind
theorem xA {a b:Bool} (hab:a≠b) {x y:Nat} (h:y<=x):c6 a (x-y)=c6 a x+c6 b y:=by
 cases a<;>cases b<;>simp[c6]at hab⊢<;>omega
theorem mul_eq (p q:Rat):p*q=ir (decide (p.num<0) !=decide (q.num<0)) (p.num.natAbs*q.num.natAbs) (p.den*q.den):=by
 rw[Rat.mul_def,ir,Rat.normalize_eq_mkRat,DC,qN,qN]
theorem add_eq (p q:Rat):p+q=mkRat (p.num*q.den+q.num*p.den) (p.den*q.den):=by
 rw[Rat.add_def,Rat.normalize_eq_mkRat]
theorem ym (a:Bool) (x y:Nat):c6 a (x*y)=c6 a x*(y:Int):=by
 cases a<;>simp[c6]<;>grind
theorem m8 (p q:Rat):p.num*(q.den:Int)=c6 (decide (p.num<0)) (p.num.natAbs*q.den):=by
 rw[ym,qN]
theorem AQ (p q:Rat) (hq:q≠0):p/q=ir (decide (p.num<0) !=decide (q.num<0)) (p.num.natAbs*q.den) (p.den*q.num.natAbs):=by
 have hqn:q.num≠0:=by intro h;exact hq (Rat.num_eq_zero.1 h)
 have e1:p=(p.num:Rat)/(p.den:Rat):=by rw[<-Rat.mkRat_eq_div,Rat.mkRat_self]
 have e2:q=(q.num:Rat)/(q.den:Rat):=by rw[<-Rat.mkRat_eq_div,Rat.mkRat_self]
 have hpd:(p.den:Rat)≠0:=by have:=p.den_nz;exact_mod_cast this
 have hqd:(q.den:Rat)≠0:=by have:=q.den_nz;exact_mod_cast this
 rw[ir,Rat.mkRat_eq_div]
 conv=>lhs;rw[e1,e2]
 generalize hN:p.num=pn
 generalize hM:q.num=qn at*
 generalize p.den=pd at*
 generalize q.den=qd at*
 have hs:c6 (decide (pn<0) !=decide (qn<0)) (pn.natAbs*qd)*qn=pn*qd*(qn.natAbs:Int):=by
  by_cases h1:pn<0<;>by_cases h2:qn<0<;>simp[c6,h1,h2]<;>grind
 have hs':(c6 (decide (pn<0) !=decide (qn<0)) (pn.natAbs*qd):Rat)*(qn:Rat)=(pn:Rat)*(qd:Rat)*(qn.natAbs:Rat):=by exact_mod_cast hs
 have hqn':(qn:Rat)≠0:=by exact_mod_cast hqn
 have hqa:((qn.natAbs:Nat):Rat)≠0:=by
  have:qn.natAbs≠0:=by omega
  exact_mod_cast this
 rw[Rat.natCast_mul]
 grind
theorem xU {a b k:Nat} (ha:aL a<=k) (hb:aL b<=k):aL (a+b)<=k+1:=by have:=o9 a b;omega
theorem d6 {a b j k:Nat} (ha:aL a<=j) (hb:aL b<=k):aL (a*b)<=j+k:=by have:=BW a b;omega
theorem Sz.neg {p:Rat} {k:Nat} (hp:Sz p k):Sz (-p) k:=⟨by rw[Rat.neg_num,Int.natAbs_neg];exact hp.n,hp.d⟩
theorem b9 (p q:Rat) {j k:Nat} (hp:Sz p j) (hq:Sz q k) (h:j+k<=137438953472):au Tryz.prog 64 [aJ p,aJ q] (.p (aJ (p*q))) []:=by
 refine aa (wr:=a9) a6 mixed Tryz.func64 (by kernel_rfl) rfl (by kernel_rfl) (af rfl) (by simp) ?_
 have h1:=hp.n
 have h2:=hp.d
 have h3:=hq.n
 have h4:=hq.d
 have hl:=nX (decide (p.num<0) !=decide (q.num<0)) false false (p.num.natAbs*q.num.natAbs) (p.den*q.den) (Nat.mul_ne_zero p.den_nz q.den_nz) (Nat.le_trans (d6 h1 h3) h) (Nat.le_trans (d6 h2 h4) h)
 rw[<-mul_eq]at hl
 refine aO.mk (by kernel_rfl) ?_
 iterate 4 refine aj.mk _ _ (And.intro rfl rfl) rfl ?_
 refine aj.mk _ _ (ag.sym (And.intro rfl rfl)) rfl ?_
 iterate 4 refine aj.mk _ _ (And.intro rfl rfl) rfl ?_
 refine aj.mk _ _ (ab.pure (gF false false p.num.natAbs q.num.natAbs (by omega) (by omega)) (And.intro rfl rfl)) rfl ?_
 iterate 4 refine aj.mk _ _ (And.intro rfl rfl) rfl ?_
 refine aj.mk _ _ (ab.pure (gF false false p.den q.den (by omega) (by omega)) (And.intro rfl rfl)) rfl ?_
 refine aj.mk _ _ (ab.pure hl (And.intro rfl rfl)) rfl ?_
 iterate 1 refine aj.mk _ _ (And.intro rfl rfl) rfl ?_
 exact aq.pure (.p _ (aS _ _ _))
theorem fY (p q:Rat) (hq0:q≠0) {j k:Nat} (hp:Sz p j) (hq:Sz q k) (h:j+k<=137438953472):au Tryz.prog 62 [aJ p,aJ q] (.bq [.p (aJ (p/q)),.p (.int .i64 0)]) []:=by
 refine aa (wr:=a9) a6 mixed Tryz.func62 (by kernel_rfl) rfl (by kernel_rfl) (af rfl) (by simp) ?_
 have h1:=hp.n
 have h2:=hp.d
 have h3:=hq.n
 have h4:=hq.d
 have hqn:q.num.natAbs≠0:=by intro e;exact hq0 (Rat.num_eq_zero.1 (by omega))
 have hl:=wM (decide (p.num<0) !=decide (q.num<0)) false false (p.num.natAbs*q.den) (p.den*q.num.natAbs) (Nat.mul_ne_zero p.den_nz hqn) (Nat.le_trans (d6 h1 h4) h) (Nat.le_trans (d6 h2 h3) h)
 rw[<-AQ p q hq0]at hl
 refine aO.mk (by kernel_rfl) ?_
 iterate 4 refine aj.mk _ _ (And.intro rfl rfl) rfl ?_
 refine aj.mk _ _ (ag.sym (And.intro rfl rfl)) rfl ?_
 iterate 4 refine aj.mk _ _ (And.intro rfl rfl) rfl ?_
 refine aj.mk _ _ (ab.pure (gF false false p.num.natAbs q.den (by omega) (by omega)) (And.intro rfl rfl)) rfl ?_
 iterate 4 refine aj.mk _ _ (And.intro rfl rfl) rfl ?_
 refine aj.mk _ _ (ab.pure (gF false false p.den q.num.natAbs (by omega) (by omega)) (And.intro rfl rfl)) rfl ?_
 refine aj.mk _ _ (ab.bg hl (fun _=>rfl) (And.intro rfl rfl)) rfl ?_
 iterate 4 refine aj.mk _ _ (And.intro rfl rfl) rfl ?_
 refine aq.pure ?_
 exact .bq rfl fun i c d e1 e2=>by
  match i,e1,e2 with
  |0,e1,e2=>cases e1;cases e2;exact .p _ (aS _ _ _)
  |1,e1,e2=>cases e1;cases e2;exact .p _ (.int _ _)
theorem add_same {p q:Rat} (h:decide (p.num<0)=decide (q.num<0)):p+q=ir (decide (p.num<0)) (p.num.natAbs*q.den+q.num.natAbs*p.den) (p.den*q.den):=by
 rw[add_eq,ir,CG,m8,m8,h]
theorem l9 {p q:Rat} (h:decide (p.num<0)≠decide (q.num<0)) (hle:q.num.natAbs*p.den<=p.num.natAbs*q.den):p+q=ir (decide (p.num<0)) (p.num.natAbs*q.den-q.num.natAbs*p.den) (p.den*q.den):=by
 rw[add_eq,ir,xA h hle,m8,m8]
theorem mM {p q:Rat} (h:decide (p.num<0)≠decide (q.num<0)) (hle:p.num.natAbs*q.den<=q.num.natAbs*p.den):p+q=ir (decide (q.num<0)) (q.num.natAbs*p.den-p.num.natAbs*q.den) (p.den*q.den):=by
 rw[add_eq,ir,xA (Ne.symm h) hle,m8,m8,Int.add_comm]
theorem dZ (p q:Rat) {j k:Nat} (hp:Sz p j) (hq:Sz q k) (h:j+k+1<=137438953472):au Tryz.prog 63 [aJ p,aJ q] (.p (aJ (p+q))) []:=by
 refine aa (wr:=a9) a6 mixed Tryz.func63 (by kernel_rfl) rfl (by kernel_rfl) (af rfl) (by simp) ?_
 have h1:=hp.n
 have h2:=hp.d
 have h3:=hq.n
 have h4:=hq.d
 have hd:=Nat.mul_ne_zero p.den_nz q.den_nz
 obtain⟨x,hx⟩:∃x,x=p.num.natAbs*q.den:=⟨_,rfl⟩
 obtain⟨y,hy⟩:∃y,y=q.num.natAbs*p.den:=⟨_,rfl⟩
 obtain⟨d,hdd⟩:∃d,d=p.den*q.den:=⟨_,rfl⟩
 have hxl:aL x<=j+k:=by rw[hx];exact d6 h1 h4
 have hyl:aL y<=j+k:=by rw[hy,Nat.add_comm];exact d6 h3 h2
 have hdl:aL d<=j+k:=by rw[hdd];exact d6 h2 h4
 have m1:=gF false false p.num.natAbs q.den (by omega) (by omega)
 have m2:=gF false false q.num.natAbs p.den (by omega) (by omega)
 have m3:=gF false false p.den q.den (by omega) (by omega)
 rw[<-hx]at m1
 rw[<-hy]at m2
 rw[<-hdd]at m3 hd
 refine aO.mk (by kernel_rfl) ?_
 iterate 4 refine aj.mk _ _ (And.intro rfl rfl) rfl ?_
 refine aj.mk _ _ (ab.pure m1 (And.intro rfl rfl)) rfl ?_
 iterate 4 refine aj.mk _ _ (And.intro rfl rfl) rfl ?_
 refine aj.mk _ _ (ab.pure m2 (And.intro rfl rfl)) rfl ?_
 iterate 4 refine aj.mk _ _ (And.intro rfl rfl) rfl ?_
 refine aj.mk _ _ (ab.pure m3 (And.intro rfl rfl)) rfl ?_
 iterate 3 refine aj.mk _ _ (And.intro rfl rfl) rfl ?_
 by_cases hs:decide (p.num<0)=decide (q.num<0)
 ·refine ag.yes (beq_iff_eq.2 hs) ?_
  have hl:=nX (decide (p.num<0)) false false (x+y) d hd (Nat.le_trans (xU hxl hyl) (by omega)) (by omega)
  rw[hx,hy,hdd,<-add_same hs]at hl
  have hA:=EV false false x y (by omega) (by omega)
  rw[hx,hy]at hA
  rw[hx,hy,hdd]
  refine aO.mk (by kernel_rfl) ?_
  iterate 4 refine aj.mk _ _ (And.intro rfl rfl) rfl ?_
  refine aj.mk _ _ (ab.pure hA (And.intro rfl rfl)) rfl ?_
  iterate 1 refine aj.mk _ _ (And.intro rfl rfl) rfl ?_
  refine aj.mk _ _ (ab.pure hl (And.intro rfl rfl)) rfl ?_
  iterate 1 refine aj.mk _ _ (And.intro rfl rfl) rfl ?_
  exact aq.pure (.p _ (aS _ _ _))
 ·refine ag.no (beq_eq_false_iff_ne.2 hs) ?_
  have hS:=wg false false x y (by omega) (by omega)
  by_cases hle:y<=x
  ·rw[if_pos hle]at hS
   have hl:=nX (decide (p.num<0)) false false (x-y) d hd (Nat.le_trans (dt (Nat.sub_le _ _)) (by omega)) (by omega)
   rw[hx,hy]at hle
   rw[hx,hy,hdd,<-l9 hs hle]at hl
   rw[hx,hy]at hS
   rw[hx,hy,hdd]
   refine ab.bg hS (fun _=>rfl) ?_
   refine ag.yes rfl ?_
   refine ab.pure hl ?_
   exact aq.pure (.p _ (aS _ _ _))
  ·rw[if_neg hle]at hS
   have hle':x<=y:=by omega
   have hS2:=wg false false y x (by omega) (by omega)
   rw[if_pos hle']at hS2
   have hl:=nX (decide (q.num<0)) false false (y-x) d hd (Nat.le_trans (dt (Nat.sub_le _ _)) (by omega)) (by omega)
   rw[hx,hy]at hle'
   rw[hx,hy,hdd,<-mM hs hle']at hl
   rw[hx,hy]at hS hS2
   rw[hx,hy,hdd]
   refine ab.bg hS (fun _=>rfl) ?_
   refine ag.no rfl ?_
   refine ab.bg hS2 (fun _=>rfl) ?_
   refine ab.pure hl ?_
   exact aq.pure (.p _ (aS _ _ _))
theorem cn (p q:Rat) {j k:Nat} (hp:Sz p j) (hq:Sz q k) (h:j+k+1<=137438953472):au Tryz.prog 60 [aJ p,aJ q] (.p (aJ (p-q))) []:=by
 refine aa (wr:=a9) a6 mixed Tryz.func60 (by kernel_rfl) rfl (by kernel_rfl) (af rfl) (by simp) ?_
 have h3:=hq.n
 have h4:=hq.d
 have hA:=dZ p (-q) hp hq.neg h
 rw[<-Rat.sub_eq_add_neg]at hA
 refine aO.mk (by kernel_rfl) ?_
 iterate 2 refine aj.mk _ _ (And.intro rfl rfl) rfl ?_
 refine aj.mk _ _ (ab.pure (rF q (by omega) (by omega)) (And.intro rfl rfl)) rfl ?_
 refine aj.mk _ _ (ab.pure hA (And.intro rfl rfl)) rfl ?_
 iterate 1 refine aj.mk _ _ (And.intro rfl rfl) rfl ?_
 exact aq.pure (.p _ (aS _ _ _))
abbrev A2 (q:Rat):PV:=.agg [.bool (decide (q.num<0)),.bool (decide (q.num=0))]
theorem l7 (a b:Bool):bZ (.agg [.bool a,.bool b]):=.agg _ fun c hc=>by
 simp at hc
 rcases hc with rfl|rfl<;>exact .bool _
theorem wD (q:Rat):au Tryz.prog 123 [aJ q] (.p (A2 q)) []:=by
 refine aa (wr:=a9) a6 mixed Tryz.func123 (by kernel_rfl) rfl (by kernel_rfl) (af rfl) (by simp) ?_
 have h0:=aR (n:=q.num.natAbs)
 by_cases h:q.num<0
 ·rw[aJ,A2,decide_eq_true h,decide_eq_false (show ¬q.num=0 by omega)]
  refine a8.mk (fun _=>?_) (fun h=>by cases h)
  refine SZ.mk (aL q.num.natAbs:Int) (by simp) ?_
  have hp:=mt h0.1 (by omega)
  refine ag.yes (decide_eq_true (by omega)) ?_
  refine SZ.mk (aL q.num.natAbs:Int) (by simp) ?_
  refine ag.no (kL (by omega)) ?_
  exact aq.pure (.p _ (l7 _ _))
 ·rw[aJ,A2,decide_eq_false h]
  refine a8.mk (fun h=>by cases h) (fun _=>?_)
  refine SZ.mk (aL q.num.natAbs:Int) (by simp) ?_
  by_cases hz:q.num=0
  ·have hp:=h0.2 (by omega)
   refine ag.yes (kV (by omega)) ?_
   rw[decide_eq_true hz]
   exact aq.pure (.p _ (l7 _ _))
  ·have hp:=mt h0.1 (by omega)
   refine ag.no (kL (by omega)) ?_
   rw[decide_eq_false hz]
   exact aq.pure (.p _ (l7 _ _))
def pV (p q:Rat):Int:=if p<q then-1 else if p=q then 0 else 1
theorem Fk {p q:Rat}:p<q↔p.num*(q.den:Int)<q.num*(p.den:Int):=Rat.lt_iff p q
theorem EE {p q:Rat}:p=q↔p.num*(q.den:Int)=q.num*(p.den:Int):=by
 constructor
 ·intro h;rw[h]
 ·intro h
  have h1:=(Rat.le_iff p q).2 (by omega)
  have h2:=(Rat.le_iff q p).2 (by omega)
  exact Rat.le_antisymm h1 h2
theorem Dm (p q:Rat):pV p q=if p.num*(q.den:Int)<q.num*(p.den:Int)then-1 else if p.num*(q.den:Int)=q.num*(p.den:Int)then 0 else 1:=by
 simp only[pV,Fk,EE]
theorem eN (p q:Rat) {j k:Nat} (hp:Sz p j) (hq:Sz q k) (h:j+k<=137438953472):au Tryz.prog 55 [aJ p,aJ q] (.p (.int .i64 (pV p q))) []:=by
 refine aa (wr:=a9) a6 mixed Tryz.func55 (by kernel_rfl) rfl (by kernel_rfl) (af rfl) (by simp) ?_
 refine aO.mk (by kernel_rfl) ?_
 refine aj.mk _ _ (And.intro rfl rfl) rfl ?_
 refine aj.mk _ _ (ab.pure (wD p) (And.intro rfl rfl)) rfl ?_
 refine aj.mk _ _ (And.intro rfl rfl) rfl ?_
 refine aj.mk _ _ (ab.pure (wD q) (And.intro rfl rfl)) rfl ?_
 iterate 4 refine aj.mk _ _ (And.intro rfl rfl) rfl ?_
 have hpd:(0:Int)<(p.den:Int):=by have:=p.den_nz;omega
 have hqd:(0:Int)<(q.den:Int):=by have:=q.den_nz;omega
 have h1:=hp.n
 have h2:=hp.d
 have h3:=hq.n
 have h4:=hq.d
 have hP:p.num*(q.den:Int)=c6 (decide (p.num<0)) (p.num.natAbs*q.den):=m8 p q
 have hQ:q.num*(p.den:Int)=c6 (decide (q.num<0)) (q.num.natAbs*p.den):=m8 q p
 have m1:=gF false false p.num.natAbs q.den (by omega) (by omega)
 have m2:=gF false false q.num.natAbs p.den (by omega) (by omega)
 have x0:p.num≠0->0<p.num.natAbs*q.den:=fun h=>Nat.mul_pos (by omega) (by omega)
 have y0:q.num≠0->0<q.num.natAbs*p.den:=fun h=>Nat.mul_pos (by omega) (by omega)
 have xz:p.num=0->p.num.natAbs*q.den=0:=fun h=>by rw[h];simp
 have yz:q.num=0->q.num.natAbs*p.den=0:=fun h=>by rw[h];simp
 have hxl:aL (p.num.natAbs*q.den)<=j+k:=d6 h1 h4
 have hyl:aL (q.num.natAbs*p.den)<=j+k:=by rw[Nat.add_comm];exact d6 h3 h2
 have m3:=mw false false (p.num.natAbs*q.den) (q.num.natAbs*p.den) (by omega) (by omega)
 rw[Dm,hP,hQ]
 generalize hx:p.num.natAbs*q.den=x at*
 generalize hy:q.num.natAbs*p.den=y at*
 by_cases p1:p.num<0
 ·have p2:¬p.num=0:=by omega
  have x1:=x0 p2
  rw[decide_eq_true p1,decide_eq_false p2]
  by_cases q1:q.num<0
  ·have q2:¬q.num=0:=by omega
   rw[decide_eq_true q1,decide_eq_false q2]
   refine ag.no rfl ?_
   refine aO.mk (by kernel_rfl) ?_
   iterate 4 refine aj.mk _ _ (And.intro rfl rfl) rfl ?_
   refine aj.mk _ _ (ab.pure m1 (And.intro rfl rfl)) rfl ?_
   iterate 4 refine aj.mk _ _ (And.intro rfl rfl) rfl ?_
   refine aj.mk _ _ (ab.pure m2 (And.intro rfl rfl)) rfl ?_
   refine aj.mk _ _ (ab.pure m3 (And.intro rfl rfl)) rfl ?_
   iterate 1 refine aj.mk _ _ (And.intro rfl rfl) rfl ?_
   refine a8.mk (fun _=>?_) (fun h=>by cases h)
   refine ae.ao (0-cP x y) rfl (by simp only[cP];split<;>(try split)<;>omega) ?_
   refine aq.pure ?_
   rw[show(if c6 true x<c6 true y then(-1:Int)else if c6 true x=c6 true y then 0 else 1)=0-cP x y by
    simp only[c6,if_true,cP]
    rcases Nat.lt_trichotomy x y with h|h|h
    ·rw[if_neg (by omega),if_neg (by omega),if_pos h];rfl
    ·rw[if_neg (by omega),if_pos (by omega),if_neg (by omega),if_pos h];rfl
    ·rw[if_pos (by omega),if_neg (by omega),if_neg (by omega)];rfl]
   exact .p _ (.int _ _)
  ·rw[decide_eq_false q1]
   by_cases q2:q.num=0
   ·rw[decide_eq_true q2]
    refine ag.yes rfl ?_
    refine a8.mk (fun _=>?_) (fun h=>by cases h)
    refine aq.pure ?_
    rw[show(if c6 true x<c6 false y then(-1:Int)else if c6 true x=c6 false y then 0 else 1)= -1 by
     simp only[c6,if_true,Bool.false_eq_true,if_false]
     rw[if_pos (by omega)]]
    exact .p _ (.int _ _)
   ·rw[decide_eq_false q2]
    refine ag.yes rfl ?_
    refine a8.mk (fun _=>?_) (fun h=>by cases h)
    refine aq.pure ?_
    rw[show(if c6 true x<c6 false y then(-1:Int)else if c6 true x=c6 false y then 0 else 1)= -1 by
     simp only[c6,if_true,Bool.false_eq_true,if_false]
     rw[if_pos (by omega)]]
    exact .p _ (.int _ _)
 ·rw[decide_eq_false p1]
  by_cases p2:p.num=0
  ·have x1:=xz p2
   rw[decide_eq_true p2]
   by_cases q1:q.num<0
   ·have q2:¬q.num=0:=by omega
    have y1:=y0 q2
    rw[decide_eq_true q1,decide_eq_false q2]
    refine ag.yes rfl ?_
    refine a8.mk (fun h=>by cases h) (fun _=>?_)
    refine a8.mk (fun _=>?_) (fun h=>by cases h)
    refine ag.no rfl ?_
    refine aq.pure ?_
    rw[show(if c6 false x<c6 true y then(-1:Int)else if c6 false x=c6 true y then 0 else 1)=1 by
     simp only[c6,if_true,Bool.false_eq_true,if_false]
     rw[if_neg (by omega),if_neg (by omega)]]
    exact .p _ (.int _ _)
   ·rw[decide_eq_false q1]
    by_cases q2:q.num=0
    ·rw[decide_eq_true q2]
     refine ag.no rfl ?_
     refine aO.mk (by kernel_rfl) ?_
     iterate 4 refine aj.mk _ _ (And.intro rfl rfl) rfl ?_
     refine aj.mk _ _ (ab.pure m1 (And.intro rfl rfl)) rfl ?_
     iterate 4 refine aj.mk _ _ (And.intro rfl rfl) rfl ?_
     refine aj.mk _ _ (ab.pure m2 (And.intro rfl rfl)) rfl ?_
     refine aj.mk _ _ (ab.pure m3 (And.intro rfl rfl)) rfl ?_
     iterate 1 refine aj.mk _ _ (And.intro rfl rfl) rfl ?_
     refine a8.mk (fun h=>by cases h) (fun _=>?_)
     refine aq.pure ?_
     rw[show(if c6 false x<c6 false y then(-1:Int)else if c6 false x=c6 false y then 0 else 1)=cP x y by
      simp only[c6,Bool.false_eq_true,if_false,cP]
      rcases Nat.lt_trichotomy x y with h|h|h
      ·rw[if_pos (by omega),if_pos h]
      ·rw[if_neg (by omega),if_pos (by omega),if_neg (by omega),if_pos h]
      ·rw[if_neg (by omega),if_neg (by omega),if_neg (by omega),if_neg (by omega)]]
     exact .p _ (.int _ _)
    ·have y1:=y0 q2
     rw[decide_eq_false q2]
     refine ag.yes rfl ?_
     refine a8.mk (fun h=>by cases h) (fun _=>?_)
     refine a8.mk (fun _=>?_) (fun h=>by cases h)
     refine ag.yes rfl ?_
     refine aq.pure ?_
     rw[show(if c6 false x<c6 false y then(-1:Int)else if c6 false x=c6 false y then 0 else 1)= -1 by
      simp only[c6,if_true,Bool.false_eq_true,if_false]
      rw[if_pos (by omega)]]
     exact .p _ (.int _ _)
  ·have x1:=x0 p2
   rw[decide_eq_false p2]
   by_cases q1:q.num<0
   ·have q2:¬q.num=0:=by omega
    have y1:=y0 q2
    rw[decide_eq_true q1,decide_eq_false q2]
    refine ag.yes rfl ?_
    refine a8.mk (fun h=>by cases h) (fun _=>?_)
    refine a8.mk (fun h=>by cases h) (fun _=>?_)
    refine aq.pure ?_
    rw[show(if c6 false x<c6 true y then(-1:Int)else if c6 false x=c6 true y then 0 else 1)=1 by
     simp only[c6,if_true,Bool.false_eq_true,if_false]
     rw[if_neg (by omega),if_neg (by omega)]]
    exact .p _ (.int _ _)
   ·rw[decide_eq_false q1]
    by_cases q2:q.num=0
    ·have y1:=yz q2
     rw[decide_eq_true q2]
     refine ag.yes rfl ?_
     refine a8.mk (fun h=>by cases h) (fun _=>?_)
     refine a8.mk (fun h=>by cases h) (fun _=>?_)
     refine aq.pure ?_
     rw[show(if c6 false x<c6 false y then(-1:Int)else if c6 false x=c6 false y then 0 else 1)=1 by
      simp only[c6,if_true,Bool.false_eq_true,if_false]
      rw[if_neg (by omega),if_neg (by omega)]]
     exact .p _ (.int _ _)
    ·have y1:=y0 q2
     rw[decide_eq_false q2]
     refine ag.no rfl ?_
     refine aO.mk (by kernel_rfl) ?_
     iterate 4 refine aj.mk _ _ (And.intro rfl rfl) rfl ?_
     refine aj.mk _ _ (ab.pure m1 (And.intro rfl rfl)) rfl ?_
     iterate 4 refine aj.mk _ _ (And.intro rfl rfl) rfl ?_
     refine aj.mk _ _ (ab.pure m2 (And.intro rfl rfl)) rfl ?_
     refine aj.mk _ _ (ab.pure m3 (And.intro rfl rfl)) rfl ?_
     iterate 1 refine aj.mk _ _ (And.intro rfl rfl) rfl ?_
     refine a8.mk (fun h=>by cases h) (fun _=>?_)
     refine aq.pure ?_
     rw[show(if c6 false x<c6 false y then(-1:Int)else if c6 false x=c6 false y then 0 else 1)=cP x y by
      simp only[c6,Bool.false_eq_true,if_false,cP]
      rcases Nat.lt_trichotomy x y with h|h|h
      ·rw[if_pos (by omega),if_pos h]
      ·rw[if_neg (by omega),if_pos (by omega),if_neg (by omega),if_pos h]
      ·rw[if_neg (by omega),if_neg (by omega),if_neg (by omega),if_neg (by omega)]]
     exact .p _ (.int _ _)
theorem o8 (p q:Rat) {j k:Nat} (hp:Sz p j) (hq:Sz q k) (h:j+k<=137438953472):au Tryz.prog 97 [aJ p,aJ q] (.p (.bool (decide (p=q)))) []:=by
 refine aa (wr:=a9) a6 mixed Tryz.func97 (by kernel_rfl) rfl (by kernel_rfl) (af rfl) (by simp) ?_
 refine ab.pure (eN p q hp hq h) ?_
 by_cases e:p=q
 ·have hz:pV p q=0:=by subst e;simp[pV,Rat.lt_irrefl]
  rw[hz,decide_eq_true e]
  refine ag.yes rfl ?_
  exact aq.pure (.tf true)
 ·have hz:pV p q≠0:=by simp only[pV,if_neg e];split<;>decide
  rw[decide_eq_false e]
  refine ag.no (kL hz) ?_
  exact aq.pure (.tf false)
theorem fL (m:Bool) (l:List Nat) (h:fV l) (hl:l.length<=1099511627776):au Tryz.prog 139 [.sl m 1 (bF l)] (.p (bC (nv l))) []:=by
 refine aa (wr:=a9) a6 mixed Tryz.func139 (by kernel_rfl) rfl (by kernel_rfl) (af rfl) (by simp) ?_
 refine SZ.mk l.length (by simp) ?_
 refine aM.mk Nat (fun n=>([(0,.p (.sl m 1 (bF l))),(3,.p (.int .i64 n))],[])) (fun n=>n<=l.length/\nv (l.take n)=nv l) id l.length [] ⟨Nat.le_refl _,by simp⟩
  ⟨rfl,.nil,rfl,rfl,rfl,⟨rfl,rfl,trivial⟩,trivial⟩ ?_
 intro n ⟨hn,hv⟩
 have done:(n=0\/l.getD (n-1) 0≠0)->_:=fun h2=>xx h hn hv h2
 by_cases h0:n=0
 ·refine ag.no (decide_eq_false (by omega)) ?_
  refine SZ.mk n rfl ?_
  refine bT.mk (by simp) ?_
  refine fp.mk 0 n rfl rfl (by omega) (by simp;omega) ?_
  have e:=done (.inl h0)
  have hl2:(nl (nv l)).length<=1099511627776:=by rw[<-e,List.length_take];omega
  refine cH.mk (bF (nl (nv l))) (by rw[<-e];simp[List.map_take]) ?_
  refine ck.mk (by simp;omega) (by simp;omega) ?_
  exact aq.pure (qK rfl (by simp))
 ·refine ag.yes (decide_eq_true (by omega)) ?_
  refine ae.ao ((n-1:Nat):Int) (by omega) (by omega) ?_
  refine aG.lb (n-1) rfl (by omega) ?_
  by_cases h1:l.getD (n-1) 0=0
  ·refine ag.yes (kV (by omega)) ?_
   refine ae.ao ((n-1:Nat):Int) (by omega) (by omega) ?_
   exact⟨n-1,[],⟨by omega,(lj h0 hn h1).trans hv⟩,by simp;omega,⟨rfl,.nil,rfl,rfl,rfl,⟨rfl,rfl,trivial⟩,trivial⟩⟩
  ·refine ag.no (kL (by omega)) ?_
   refine SZ.mk n rfl ?_
   refine bT.mk (by simp) ?_
   refine fp.mk 0 n rfl rfl (by omega) (by simp;omega) ?_
   have e:=done (.inr h1)
   have hl2:(nl (nv l)).length<=1099511627776:=by rw[<-e,List.length_take];omega
   refine cH.mk (bF (nl (nv l))) (by rw[<-e];simp[List.map_take]) ?_
   refine ck.mk (by simp;omega) (by simp;omega) ?_
   exact aq.pure (qK rfl (by simp))
theorem jT (m:Bool) (a:Nat) (ha:aL a<=1099511627776):au Tryz.prog 139 [bK m a] (.p (bC a)) []:=by
 have:=fL m (nl a) (bR a) ha
 rwa[sQ]at this
theorem BR (v:Nat) (hv:v<18446744073709551616):au Tryz.prog 106 [.int .u64 v] (.p (bC v)) []:=by
 refine aa (wr:=a9) a6 mixed Tryz.func106 (by kernel_rfl) rfl (by kernel_rfl) (af rfl) (by simp) ?_
 refine ae.fo (v%4294967296) (by omega) ?_
 refine fF ?_
 refine ae.fo (v/4294967296) (by omega) ?_
 refine bp.all rfl ?_
 refine ab.pure (fL true [v%4294967296,v/4294967296] (.cons (by omega) (.cons (by omega) .nil)) (by simp)) ?_
 have:nv [v%4294967296,v/4294967296]=v:=by simp only[nv];omega
 rw[this]
 exact aq.pure (.p _ (.sl _ _ (aP _)))
theorem mn (m:Bool) (l:List Nat) (h:fV l) (i:Nat):au Tryz.prog 144 [.sl m 1 (bF l),.int .i64 i] (.p (.int .u64 ((l.getD i 0:Nat):Int))) []:=by
 refine aa (wr:=a9) a6 mixed Tryz.func144 (by kernel_rfl) rfl (by kernel_rfl) (af rfl) (by simp) ?_
 refine SZ.mk l.length (by simp) ?_
 by_cases h2:i<l.length
 ·refine ag.yes (decide_eq_true (by omega)) ?_
  refine aG.lb i rfl (by omega) ?_
  have:=bD h i
  refine ae.u64 (by omega) ?_
  exact aq.pure (.p _ (.int _ _))
 ·refine ag.no (decide_eq_false (by omega)) ?_
  rw[dI l 0 (by omega)]
  exact aq.pure (.p _ (.int _ _))
theorem j8 (m m':Bool) (a b:Nat) (ha:aL a<=549755813888) (hb:aL b<=549755813888):au Tryz.prog 50 [bK m a,bK m' b] (.p (.int .i64 (cP a b))) []:=by
 refine aa (wr:=a9) a6 mixed Tryz.func50 (by kernel_rfl) rfl (by kernel_rfl) (af rfl) (by simp) ?_
 refine SZ.mk (aL a) (by simp) ?_
 refine SZ.mk (aL b) (by simp) ?_
 by_cases hne:aL a=aL b
 ·refine ag.no (f0 (by omega)) ?_
  refine SZ.mk (aL a) (by simp) ?_
  refine aM.mk Nat (fun i=>([(0,.p (bK m a)),(1,.p (bK m' b)),(5,.p (.int .i64 i))],[])) (fun i=>i<=aL a/\a/4294967296^i=b/4294967296^i) id (aL a) []
   ⟨Nat.le_refl _,by rw[Nat.div_eq_of_lt (cj a),hne,Nat.div_eq_of_lt (cj b)]⟩ ⟨rfl,.nil,rfl,rfl,rfl,⟨rfl,rfl,rfl,trivial⟩,trivial⟩ ?_
  intro i ⟨h1,h2⟩
  by_cases h0:i=0
  ·refine ag.no (decide_eq_false (by omega)) ?_
   subst h0
   have:a=b:=by simpa using h2
   refine aq.pure ?_
   rw[show cP a b=0 by simp[cP,this]]
   exact .p _ (.int _ _)
  ·refine ag.yes (decide_eq_true (by omega)) ?_
   obtain⟨i,rfl⟩:=Nat.exists_eq_succ_of_ne_zero h0
   refine aO.mk (by kernel_rfl) ?_
   have e1:=bO a i
   have e2:=bO b i
   have q1:(nl a).length=aL a:=rfl
   have q2:(nl b).length=aL b:=rfl
   repeat refine aj.mk _ _ (And.intro rfl rfl) rfl ?_
   refine aj.mk _ _ (ae.ao (i:Int) (by omega) (by omega) (And.intro rfl rfl)) rfl ?_
   refine aj.mk _ _ (aG.lb i rfl (by omega) (And.intro rfl rfl)) rfl ?_
   repeat refine aj.mk _ _ (And.intro rfl rfl) rfl ?_
   refine aj.mk _ _ (ae.ao (i:Int) (by omega) (by omega) (And.intro rfl rfl)) rfl ?_
   refine aj.mk _ _ (aG.lb i rfl (by omega) (And.intro rfl rfl)) rfl ?_
   repeat refine aj.mk _ _ (And.intro rfl rfl) rfl ?_
   generalize hx:(nl a).getD i 0=x at e1⊢
   generalize hy:(nl b).getD i 0=y at e2⊢
   by_cases hlt:x<y
   ·refine aj.mk _ _ (ag.yes (decide_eq_true (by omega)) (And.intro rfl rfl)) rfl ?_
    refine aq.pure ?_
    rw[show cP a b= -1 by simp[cP,k8 h2 (by rw[<-e1,<-e2];exact hlt)]]
    exact .p _ (.int _ _)
   ·refine aj.mk _ _ (ag.no (decide_eq_false (by omega)) (And.intro rfl rfl)) rfl ?_
    refine aO.mk (by kernel_rfl) ?_
    repeat refine aj.mk _ _ (And.intro rfl rfl) rfl ?_
    refine aj.mk _ _ (ae.ao (i:Int) (by omega) (by omega) (And.intro rfl rfl)) rfl ?_
    refine aj.mk _ _ (aG.lb i rfl (by omega) (And.intro rfl rfl)) rfl ?_
    repeat refine aj.mk _ _ (And.intro rfl rfl) rfl ?_
    refine aj.mk _ _ (ae.ao (i:Int) (by omega) (by omega) (And.intro rfl rfl)) rfl ?_
    refine aj.mk _ _ (aG.lb i rfl (by omega) (And.intro rfl rfl)) rfl ?_
    repeat refine aj.mk _ _ (And.intro rfl rfl) rfl ?_
    rw[hx,hy]
    by_cases hxy:x=y
    ·refine aj.mk _ _ (ag.no (decide_eq_false (by omega)) (And.intro rfl rfl)) rfl ?_
     refine ae.ao (i:Int) (by omega) (by omega) ?_
     exact⟨i,[],⟨by omega,tG h2 (by rw[<-e1,<-e2];exact hxy)⟩,Nat.lt_succ_self i,⟨rfl,.nil,rfl,rfl,rfl,⟨rfl,rfl,rfl,trivial⟩,trivial⟩⟩
    ·refine aj.mk _ _ (ag.yes (decide_eq_true (by omega)) (And.intro rfl rfl)) rfl ?_
     refine aq.pure ?_
     have:b<a:=k8 h2.symm (by rw[<-e1,<-e2];omega)
     rw[show cP a b=1 by simp[cP,show ¬a<b by omega,show a≠b by omega]]
     exact .p _ (.int _ _)
 ·refine ag.yes (vK (by omega)) ?_
  refine SZ.mk (aL a) (by simp) ?_
  refine SZ.mk (aL b) (by simp) ?_
  by_cases hlt:aL a<aL b
  ·refine ag.yes (decide_eq_true (by omega)) ?_
   refine aq.pure ?_
   rw[show cP a b= -1 by simp[cP,iW hlt]]
   exact .p _ (.int _ _)
  ·refine ag.no (decide_eq_false (by omega)) ?_
   refine aq.pure ?_
   have:b<a:=iW (by omega)
   rw[show cP a b=1 by simp[cP,show ¬a<b by omega,show a≠b by omega]]
   exact .p _ (.int _ _)
theorem CL (m m':Bool) (a b:Nat) (ha:aL a<=549755813887) (hb:aL b<=549755813887):au Tryz.prog 74 [bK m a,bK m' b] (.p (bC (a+b))) []:=by
 refine aa (wr:=a9) a6 mixed Tryz.func74 (by kernel_rfl) rfl (by kernel_rfl) (af rfl) (by simp) ?_
 obtain⟨L,hL⟩:∃L,L=max (aL a) (aL b)+1:=⟨_,rfl⟩
 refine SZ.mk (aL a) (by simp) ?_
 refine SZ.mk (aL b) (by simp) ?_
 refine SZ.mk ((max (aL a) (aL b):Nat):Int) (by show(if((aL b:Nat):Int)>((aL a:Nat):Int)then _ else _)=_;split<;>omega) ?_
 refine ae.ao (L:Int) (by omega) (by omega) ?_
 refine SZ.mk L rfl ?_
 refine bT.mk (by simp) ?_
 refine bV.u32 L rfl (by omega) ?_
 refine aM.mk (Nat×Nat×List Nat) (fun(i,c,out)=>([(0,.p (bK m a)),(1,.p (bK m' b)),(5,.vec 0 1 0 L),(6,.p (.int .u64 c)),(7,.p (.int .i64 i))],[.vec 41 1 (bF out)]))
  (fun(i,c,out)=>i<=L/\c<=1/\out.length=L/\fV out/\nv (out.take i)+c*4294967296^i=a%4294967296^i+b%4294967296^i) (fun x=>L-x.1) (0,0,List.replicate L 0) [0]
  ⟨Nat.zero_le _,by simp,by simp,.replicate _,by simp[nv,Nat.mod_one]⟩
  ⟨rfl,by simp,rfl,rfl,rfl,⟨rfl,rfl,rfl,rfl,rfl,trivial⟩,⟨congrArg _ (bI L).symm,trivial⟩⟩ ?_
 intro⟨i,c,out⟩ ⟨h1,h2,h3,h4,h5⟩
 refine SZ.mk L rfl ?_
 by_cases hi:i<L
 ·refine ag.yes (decide_eq_true (by omega)) ?_
  refine ab.pure (mn m (nl a) (bR a) i) ?_
  have e1:=bO a i
  have e2:=bO b i
  have l1:(nl a).getD i 0<4294967296:=bD (bR a) i
  have l2:(nl b).getD i 0<4294967296:=bD (bR b) i
  generalize hx:(nl a).getD i 0=x at e1 l1⊢
  refine ae.cy (c+x) (by omega) (by omega) ?_
  refine ab.pure (mn m' (nl b) (bR b) i) ?_
  generalize hy:(nl b).getD i 0=y at e2 l2⊢
  refine ae.cy (c+(x+y)) (by omega) (by omega) ?_
  refine ae.fo ((c+(x+y))%4294967296) (by omega) ?_
  refine aI.mk i rfl hi ?_
  refine bT.set (by omega) ?_
  refine cH.set ?_
  refine fF ?_
  refine ae.ao ((i+1:Nat):Int) (by omega) (by omega) ?_
  refine⟨(i+1,(c+(x+y))/4294967296,out.set i ((c+(x+y))%4294967296)),[0],⟨hi,by omega,by simpa using h3,h4.set (Nat.mod_lt _ (by omega)),?_⟩,by show L-(i+1)<L-i;omega,⟨rfl,by simp,rfl,rfl,rfl,⟨rfl,rfl,rfl,rfl,rfl,trivial⟩,⟨rfl,trivial⟩⟩⟩
  rw[c9 (by omega),Nat.pow_succ]
  exact tW h5 (by rw[<-e1,<-e2];omega)
 ·refine ag.no (decide_eq_false (by omega)) ?_
  have hiL:i=L:=by omega
  subst hiL
  have hlt:a+b<4294967296^i:=by
   have:=cj (a+b)
   have h:=o9 a b
   exact Nat.lt_of_lt_of_le this (Nat.pow_le_pow_right (by omega) (by omega))
  rw[dn a i (by omega),dn b i (by omega),List.take_of_length_le (by omega)]at h5
  have hc:c=0:=by
   rcases Nat.eq_zero_or_pos c with h|h
   ·exact h
   ·have:1*4294967296^i<=c*4294967296^i:=Nat.mul_le_mul_right _ h
    omega
  subst hc
  have hv:nv out=a+b:=by omega
  refine bp.all (by simpa using h3.symm) ?_
  refine ab.pure (fL true out h4 (by omega)) ?_
  rw[hv]
  exact aq.pure (.p _ (.sl _ _ (aP _)))
theorem s4 (m m':Bool) (a b:Nat) (ha:aL a<=549755813888) (hba:b<=a):au Tryz.prog 145 [bK m a,bK m' b] (.p (bC (a-b))) []:=by
 refine aa (wr:=a9) a6 mixed Tryz.func145 (by kernel_rfl) rfl (by kernel_rfl) (af rfl) (by simp) ?_
 obtain⟨L,hL⟩:∃L,L=aL a:=⟨_,rfl⟩
 refine SZ.mk L (by simp[hL]) ?_
 refine SZ.mk L rfl ?_
 refine bT.mk (by simp) ?_
 refine bV.u32 L rfl (by omega) ?_
 refine aM.mk (Nat×Nat×List Nat) (fun(i,c,out)=>([(0,.p (bK m a)),(1,.p (bK m' b)),(5,.vec 0 1 0 L),(6,.p (.int .u64 c)),(7,.p (.int .i64 i))],[.vec 41 1 (bF out)]))
  (fun(i,c,out)=>i<=L/\c<=1/\out.length=L/\fV out/\nv (out.take i)+b%4294967296^i=a%4294967296^i+c*4294967296^i) (fun x=>L-x.1) (0,0,List.replicate L 0) [0]
  ⟨Nat.zero_le _,by simp,by simp,.replicate _,by simp[nv,Nat.mod_one]⟩
  ⟨rfl,by simp,rfl,rfl,rfl,⟨rfl,rfl,rfl,rfl,rfl,trivial⟩,⟨congrArg _ (bI L).symm,trivial⟩⟩ ?_
 intro⟨i,c,out⟩ ⟨h1,h2,h3,h4,h5⟩
 refine SZ.mk L (by simp[hL]) ?_
 by_cases hi:i<L
 ·refine ag.yes (decide_eq_true (by omega)) ?_
  refine ab.pure (mn m (nl a) (bR a) i) ?_
  refine ab.pure (mn m' (nl b) (bR b) i) ?_
  have e1:=bO a i
  have e2:=bO b i
  have l1:(nl a).getD i 0<4294967296:=bD (bR a) i
  have l2:(nl b).getD i 0<4294967296:=bD (bR b) i
  generalize hx:(nl a).getD i 0=x at e1 l1⊢
  generalize hy:(nl b).getD i 0=y at e2 l2⊢
  refine ae.Fv ?_
  refine ae.x5 ((x+36893488147419103232-y-c)%18446744073709551616) (by omega) ?_
  obtain⟨d,hd⟩:∃d,d=(x+36893488147419103232-y-c)%18446744073709551616:=⟨_,rfl⟩
  rw[<-hd]
  have hs:x+4294967296*(d/9223372036854775808)=d%4294967296+y+c:=by omega
  have hc':d/9223372036854775808<=1:=by omega
  refine ae.fo (d%4294967296) (by omega) ?_
  refine aI.mk i rfl hi ?_
  refine bT.set (by omega) ?_
  refine cH.set ?_
  refine vo ?_
  refine ae.ao ((i+1:Nat):Int) (by omega) (by omega) ?_
  refine⟨(i+1,d/9223372036854775808,out.set i (d%4294967296)),[0],⟨hi,hc',by simpa using h3,h4.set (Nat.mod_lt _ (by omega)),?_⟩,by show L-(i+1)<L-i;omega,⟨rfl,by simp,rfl,rfl,rfl,⟨rfl,rfl,rfl,rfl,rfl,trivial⟩,⟨rfl,trivial⟩⟩⟩
  rw[c9 (by omega),Nat.pow_succ]
  exact tz e1.symm e2.symm h5 hs
 ·refine ag.no (decide_eq_false (by omega)) ?_
  have hiL:i=L:=by omega
  subst hiL
  have hba':aL b<=aL a:=dt (by omega)
  rw[dn a i (by omega),dn b i (by omega),List.take_of_length_le (by omega)]at h5
  have hc:c=0:=by
   rcases Nat.eq_zero_or_pos c with h|h
   ·exact h
   ·have h6:1*4294967296^i<=c*4294967296^i:=Nat.mul_le_mul_right _ h
    have h7:=tU h4
    rw[h3]at h7
    omega
  subst hc
  have hv:nv out=a-b:=by omega
  refine bp.all (by simpa using h3.symm) ?_
  refine ab.pure (fL true out h4 (by omega)) ?_
  rw[hv]
  exact aq.pure (.p _ (.sl _ _ (aP _)))
theorem wK (m m':Bool) (a b:Nat) (ha:aL a<=549755813888) (hb:aL b<=549755813888) (hba:b<=a):
  au Tryz.prog 75 [bK m a,bK m' b] (.bq [.p (bC (a-b)),.p (.int .i64 0)]) []:=by
 refine aa (wr:=a9) a6 mixed Tryz.func75 (by kernel_rfl) rfl (by kernel_rfl) (af rfl) (by simp) ?_
 refine ab.pure (j8 m m' a b ha hb) ?_
 refine ag.no (decide_eq_false (by simp only[cP];split;omega;split<;>omega)) ?_
 refine ab.pure (s4 m m' a b ha hba) ?_
 exact aq.pure (.bq rfl fun i c d e1 e2=>by
  match i,e1,e2 with
  |0,e1,e2=>cases e1;cases e2;exact .p _ (.sl _ _ (aP _))
  |1,e1,e2=>cases e1;cases e2;exact .p _ (.int _ _))
theorem dY (n:Nat):n<2^bitLen n:=(bitLen_spec n).1
theorem cK {n k:Nat} (h:n<2^k):bitLen n<=k:=by
 by_cases h0:n=0
 ·subst h0;simp[bitLen]
 ·have h1:=(bitLen_spec n).2 h0
  rcases Nat.lt_or_ge k (bitLen n)with h2|h2
  ·have:2^k<=2^(bitLen n-1):=Nat.pow_le_pow_right (by omega) (by omega)
   omega
  ·exact h2
theorem cS {a b:Nat} (h:a<=b):bitLen a<=bitLen b:=cK (Nat.lt_of_le_of_lt h (dY b))
theorem uA (a b:Nat):bitLen (a*b)<=bitLen a+bitLen b:=cK (by
 rw[Nat.pow_add];exact Nat.mul_lt_mul'' (dY a) (dY b))
theorem ur (a b:Nat):bitLen (a+b)<=max (bitLen a) (bitLen b)+1:=cK (by
 have h1:=dY a
 have h2:=dY b
 have m1:2^bitLen a<=2^max (bitLen a) (bitLen b):=Nat.pow_le_pow_right (by omega) (Nat.le_max_left _ _)
 have m2:2^bitLen b<=2^max (bitLen a) (bitLen b):=Nat.pow_le_pow_right (by omega) (Nat.le_max_right _ _)
 rw[Nat.pow_succ]
 omega)
theorem cB (n:Nat):aL n<=bitLen n:=dz (Nat.lt_of_lt_of_le (dY n) (Nat.pow_le_pow_left (by omega) _))
theorem ew {n:Nat}:bitLen n=0↔n=0:=by
 constructor
 ·intro h;have:=dY n;rw[h]at this;simpa using this
 ·intro h;subst h;simp[bitLen]
theorem tK {x:Nat} (h:x≠0):bitLen x=bitLen (x/2)+1:=by
 by_cases h1:x/2=0
 ·have:x=1:=by omega
  subst this;decide
 ·have:=bitLen_shift x 1 (by simpa using h1)
  rw[this];simp;omega
theorem uR {n:Nat} (h:n≠0):2^(bitLen n-1)<=n:=(bitLen_spec n).2 h
theorem rZ {a b:Nat} (h:bitLen a<bitLen b):a<b:=by
 rcases Nat.lt_or_ge a b with h1|h1
 ·exact h1
 ·have:=cS h1;omega
theorem rI (m m':Bool) (a b:Nat) (ha:aL a<=274877906944) (hb:aL b<=274877906944):au Tryz.prog 66 [bK m a,bK m' b] (.p (bC (a*b))) []:=by
 refine aa (wr:=a9) a6 mixed Tryz.func66 (by kernel_rfl) rfl (by kernel_rfl) (af rfl) (by simp) ?_
 obtain⟨la,hla⟩:∃L,L=aL a:=⟨_,rfl⟩
 obtain⟨lb,hlb⟩:∃L,L=aL b:=⟨_,rfl⟩
 have ha':(nl a).length=la:=hla.symm
 have hb':(nl b).length=lb:=hlb.symm
 refine SZ.mk la (by simp[hla]) ?_
 refine SZ.mk lb (by simp[hlb]) ?_
 refine ae.ao ((la+lb:Nat):Int) (by omega) (by omega) ?_
 refine SZ.mk ((la+lb:Nat):Int) rfl ?_
 refine bT.mk (by simp) ?_
 refine bV.u32 (la+lb) rfl (by omega) ?_
 refine aM.mk (Nat×List Nat) (fun(i,out)=>([(0,.p (bK m a)),(1,.p (bK m' b)),(5,.vec 0 1 0 (la+lb)),(6,.p (.int .i64 i))],[.vec 41 1 (bF out)]))
  (fun(i,out)=>i<=la/\out.length=la+lb/\fV out/\nv (out.take (i+lb))=a%4294967296^i*b) (fun x=>la-x.1) (0,List.replicate (la+lb) 0) [0]
  ⟨Nat.zero_le _,by simp,.replicate _,by simp[c7,Nat.mod_one]⟩
  ⟨rfl,by simp,rfl,rfl,rfl,⟨rfl,rfl,rfl,rfl,trivial⟩,⟨congrArg _ (bI _).symm,trivial⟩⟩ ?_
 intro⟨i,out⟩ ⟨h1,h3,h4,h5⟩
 refine SZ.mk la (by simp[hla]) ?_
 by_cases hi:i<la
 ·refine ag.yes (decide_eq_true (by omega)) ?_
  have e1:=bO a i
  have l1:(nl a).getD i 0<4294967296:=bD (bR a) i
  obtain⟨x,hx⟩:∃x,x=(nl a).getD i 0:=⟨_,rfl⟩
  rw[<-hx]at e1 l1
  refine aM.mk (Nat×Nat×List Nat) (fun(k,c,out)=>([(0,.p (bK m a)),(1,.p (bK m' b)),(5,.vec 0 1 0 (la+lb)),(6,.p (.int .i64 i)),(7,.p (.int .u64 c)),(8,.p (.int .i64 k))],[.vec 41 1 (bF out)]))
   (fun(k,c,out)=>k<=lb/\c<4294967296/\out.length=la+lb/\fV out/\nv (out.take (i+lb))+c*(4294967296^i*4294967296^k)=a%4294967296^i*b+x*4294967296^i*(b%4294967296^k)) (fun x=>lb-x.1) (0,0,out) [0]
   ⟨Nat.zero_le _,by simp,h3,h4,by simp[h5,Nat.mod_one]⟩
   ⟨rfl,by simp,rfl,rfl,rfl,⟨rfl,rfl,rfl,rfl,rfl,rfl,trivial⟩,⟨rfl,trivial⟩⟩ ?_
  intro⟨k,c,out⟩ ⟨g1,g2,g3,g4,g5⟩
  refine SZ.mk lb (by simp[hlb]) ?_
  by_cases hk:k<lb
  ·refine ag.yes (decide_eq_true (by omega)) ?_
   refine aO.mk (by kernel_rfl) ?_
   have e2:=bO b k
   have l2:(nl b).getD k 0<4294967296:=bD (bR b) k
   have l3:out.getD (i+k) 0<4294967296:=bD g4 (i+k)
   repeat refine aj.mk _ _ (And.intro rfl rfl) rfl ?_
   refine aj.mk _ _ (aG.lb i rfl (by omega) (And.intro rfl rfl)) rfl ?_
   repeat refine aj.mk _ _ (And.intro rfl rfl) rfl ?_
   rw[<-hx]
   refine aj.mk _ _ (ae.cy x rfl (by omega) (And.intro rfl rfl)) rfl ?_
   repeat refine aj.mk _ _ (And.intro rfl rfl) rfl ?_
   refine aj.mk _ _ (aG.lb k rfl (by omega) (And.intro rfl rfl)) rfl ?_
   repeat refine aj.mk _ _ (And.intro rfl rfl) rfl ?_
   generalize hy:(nl b).getD k 0=y at e2 l2⊢
   have hxy:=qU l1 l2
   refine aj.mk _ _ (ae.cy y rfl (by omega) (And.intro rfl rfl)) rfl ?_
   refine aj.mk _ _ (ae.cy (x*y) (Int.natCast_mul x y).symm (by omega) (And.intro rfl rfl)) rfl ?_
   refine aj.mk _ _ (ae.cy (c+x*y) (by omega) (by omega) (And.intro rfl rfl)) rfl ?_
   repeat refine aj.mk _ _ (And.intro rfl rfl) rfl ?_
   refine aj.mk _ _ (ae.ao ((i+k:Nat):Int) (by omega) (by omega) (And.intro rfl rfl)) rfl ?_
   refine aj.mk _ _ (aI.mk (i+k) rfl (by omega) (And.intro rfl rfl)) rfl ?_
   refine aj.mk _ _ (aG.rN (by omega) (And.intro rfl rfl)) rfl ?_
   generalize ho:out.getD (i+k) 0=o at l3⊢
   refine aj.mk _ _ (ae.cy o rfl (by omega) (And.intro rfl rfl)) rfl ?_
   refine aj.mk _ _ (ae.cy (c+(x*y+o)) (by omega) (by omega) (And.intro rfl rfl)) rfl ?_
   repeat refine aj.mk _ _ (And.intro rfl rfl) rfl ?_
   obtain⟨tot,htot⟩:∃tot,tot=c+(x*y+o):=⟨_,rfl⟩
   rw[<-htot]
   refine ae.ao ((i+k:Nat):Int) (by omega) (by omega) ?_
   refine ae.fo (tot%4294967296) (by omega) ?_
   refine aI.mk (i+k) rfl (by omega) ?_
   refine bT.set (by omega) ?_
   refine cH.set ?_
   refine fF ?_
   refine ae.ao ((k+1:Nat):Int) (by omega) (by omega) ?_
   refine⟨(k+1,tot/4294967296,out.set (i+k) (tot%4294967296)),[0],⟨hk,by omega,by simpa using g3,g4.set (Nat.mod_lt _ (by omega)),?_⟩,by show lb-(k+1)<lb-k;omega,
    ⟨rfl,by simp,rfl,rfl,rfl,⟨rfl,rfl,rfl,rfl,rfl,rfl,trivial⟩,⟨rfl,trivial⟩⟩⟩
   have hs:=ie (out.take (i+lb)) (i+k) (tot%4294967296) (by simp;omega)
   rw[<-List.take_set,show(out.take (i+lb)).getD (i+k) 0=o by rw[<-ho];simp[List.getD,show i+k<i+lb by omega],Nat.pow_add]at hs
   have hm:=sk hs g5 htot
   have hb2:b%4294967296^(k+1)=b%4294967296^k+4294967296^k*(b/4294967296^k%4294967296):=Nat.mod_pow_succ
   rw[hb2,<-e2,Nat.pow_succ,<-Nat.mul_assoc (4294967296^i)]
   exact hm
  ·refine ag.no (decide_eq_false (by omega)) ?_
   have hkl:k=lb:=by omega
   subst hkl
   refine SZ.mk k (by simp[hb']) ?_
   refine ae.ao ((i+k:Nat):Int) (by omega) (by omega) ?_
   refine ae.fo c (by omega) ?_
   refine aI.mk (i+k) rfl (by omega) ?_
   refine bT.set (by omega) ?_
   refine cH.set ?_
   refine ae.ao ((i+1:Nat):Int) (by omega) (by omega) ?_
   refine⟨(i+1,out.set (i+k) c),[0],⟨hi,by simpa using g3,g4.set g2,?_⟩,by show la-(i+1)<la-i;omega,⟨rfl,by simp,rfl,rfl,rfl,⟨rfl,rfl,rfl,rfl,trivial⟩,⟨rfl,trivial⟩⟩⟩
   rw[show i+1+k=i+k+1 by omega,c9 (by omega),Nat.pow_add,Nat.pow_succ,Nat.mod_mul,<-e1]
   rw[dn b k (by omega)]at g5
   grind
 ·refine ag.no (decide_eq_false (by omega)) ?_
  have hiL:i=la:=by omega
  subst hiL
  rw[dn a i (by omega),List.take_of_length_le (by omega)]at h5
  refine bp.all (by simpa using h3.symm) ?_
  refine ab.pure (fL true out h4 (by omega)) ?_
  rw[h5]
  exact aq.pure (.p _ (.sl _ _ (aP _)))
theorem F3 {a:Nat} {K:Int->Prop} (hk:K ((a/2:Nat):Int)):sr 1 (SZ ((a:Int).fdiv (2^(min (1:Int).toNat (IntKind.bits .u32)))) K):=
 .mk (by decide) (.mk _ (by
  show Int.fdiv (a:Int) 2=_
  rw[Int.fdiv_eq_ediv_of_nonneg _ (by decide)];omega) hk)
theorem sJ (m:Bool) (a:Nat) (ha:aL a<=549755813888):au Tryz.prog 214 [bK m a] (.p (.int .i64 (bitLen a))) []:=by
 refine aa (wr:=a9) a6 mixed Tryz.func214 (by kernel_rfl) rfl (by kernel_rfl) (af rfl) (by simp) ?_
 refine SZ.mk (aL a) (by simp) ?_
 by_cases h0:a=0
 ·have:=aR.2 h0
  refine ag.yes (kV (by omega)) ?_
  rw[ew.2 h0]
  exact aq.pure (.p _ (.int _ _))
 ·have hn:=mt aR.1 h0
  refine ag.no (kL (by omega)) ?_
  obtain⟨L,hL⟩:∃L,aL a=L+1:=⟨aL a-1,by omega⟩
  have hL':(nl a).length=L+1:=hL
  refine SZ.mk ((L+1:Nat):Int) (by simp[hL']) ?_
  refine ae.ao (L:Int) (by omega) (by omega) ?_
  refine ae.ao ((32*L:Nat):Int) (by omega) (by omega) ?_
  refine SZ.mk ((L+1:Nat):Int) (by simp[hL']) ?_
  refine ae.ao (L:Int) (by omega) (by omega) ?_
  refine aG.lb L rfl (by omega) ?_
  have l1:(nl a).getD L 0<4294967296:=bD (bR a) L
  have e1:a/2^(32*L)=(nl a).getD L 0:=by
   rw[bO,Nat.pow_mul]
   have:=cj a
   rw[hL,Nat.pow_succ,Nat.mul_comm]at this
   have h2:a/4294967296^L<4294967296:=(Nat.div_lt_iff_lt_mul (bP L)).2 this
   exact(Nat.mod_eq_of_lt h2).symm
  have hz:=kY h0
  rw[hL',Nat.add_sub_cancel]at hz
  have hb:bitLen a=32*L+bitLen ((nl a).getD L 0):=by rw[<-e1]at hz⊢;exact bitLen_shift a (32*L) hz
  have hb32:bitLen ((nl a).getD L 0)<=32:=cK l1
  obtain⟨B,hB⟩:∃B,B=bitLen a:=⟨_,rfl⟩
  rw[<-hB]at hb
  refine aM.mk (Nat×Nat) (fun(n,x)=>([(3,.p (.int .i64 n)),(4,.p (.int .u32 x))],[])) (fun(n,x)=>n+bitLen x=B) (fun x=>x.2) (32*L,(nl a).getD L 0) []
   hb.symm ⟨rfl,.nil,rfl,rfl,rfl,⟨rfl,rfl,trivial⟩,trivial⟩ ?_
  intro⟨n,x⟩ h
  have h:n+bitLen x=B:=h
  by_cases hx:x=0
  ·refine ag.no (decide_eq_false (by omega)) ?_
   rw[ew.2 hx]at h
   rw[<-hB,show n=B by omega]
   exact aq.pure (.p _ (.int _ _))
  ·refine ag.yes (decide_eq_true (by omega)) ?_
   have:=tK hx
   refine ae.ao ((n+1:Nat):Int) (by omega) (by omega) ?_
   refine F3 ?_
   exact⟨(n+1,x/2),[],by show n+1+bitLen (x/2)=B;omega,by show x/2<x;omega,⟨rfl,.nil,rfl,rfl,rfl,⟨rfl,rfl,trivial⟩,trivial⟩⟩
theorem Ge {q s r v:Nat} {K:Int->Prop} (hx:q*2^s<4294967296) (hr:r<2^s) (hr':r<4294967296) (hv:v=q*2^s+r) (hv':v<4294967296) (hk:K (v:Int)):
  ae .u32 (((BitVec.ofInt (IntKind.bits .u32) (r:Int)|||BitVec.ofInt (IntKind.bits .u32) ((q*2^s:Nat):Int)).toNat:Nat):Int) K:=by
 refine .fo v ?_ hk
 show(((BitVec.ofInt 32 (r:Int)|||BitVec.ofInt 32 ((q*2^s:Nat):Int)).toNat:Nat):Int)%4294967296=_
 rw[BitVec.toNat_or,fI hx,fI hr',Nat.or_comm,Nat.mul_comm,<-Nat.two_pow_add_eq_or_of_lt hr,Nat.mul_comm,<-hv]
 omega
theorem xT {t t1 t2 pw x D Bi Am S lo hi o:Nat} (hs1:t1+(pw*Bi)*o=t+(pw*Bi)*(lo+o)) (hs2:t2=t1+(pw*Bi*4294967296)*hi) (hx:x*D=lo+4294967296*hi) (h:t=Am*D*pw):
  t2=(Am+Bi*x)*D*pw:=by
 have e1:t1=t+(pw*Bi)*lo:=by
  have:(pw*Bi)*(lo+o)=(pw*Bi)*lo+(pw*Bi)*o:=by grind
  omega
 rw[hs2,e1,h]
 have:(Am+Bi*x)*D*pw=Am*D*pw+pw*Bi*(x*D):=by grind
 rw[this,hx]
 grind
theorem CD (m:Bool) (a k:Nat) (ha:aL a<=274877906944) (hk:k<=1048576):au Tryz.prog 215 [bK m a,.int .i64 k] (.p (bC (a*2^k))) []:=by
 refine aa (wr:=a9) a6 mixed Tryz.func215 (by kernel_rfl) rfl (by kernel_rfl) (af rfl) (by simp) ?_
 refine ag.no (decide_eq_false (by omega)) ?_
 refine ag.no (decide_eq_false (by omega)) ?_
 refine SZ.mk (aL a) (by simp) ?_
 by_cases h0:a=0
 ·have:=aR.2 h0
  refine ag.yes (kV (by omega)) ?_
  refine ab.pure (jT m a (by omega)) ?_
  rw[show a*2^k=a by rw[h0,Nat.zero_mul]]
  exact aq.pure (.p _ (.sl _ _ (aP _)))
 ·have hn0:=mt aR.1 h0
  refine ag.no (kL (by omega)) ?_
  obtain⟨n,hn⟩:∃n,n=k/32:=⟨_,rfl⟩
  obtain⟨s,hs⟩:∃s,s=k%32:=⟨_,rfl⟩
  have hs':s<32:=by omega
  have hk2:2^k=4294967296^n*2^s:=by
   rw[show(4294967296:Nat)=2^32 by decide,<-Nat.pow_mul,<-Nat.pow_add];congr 1;omega
  refine qL (b:=32) (by omega) hn (by rw[IntKind.wrap_i64];omega) ?_
  refine te (b:=32) (by omega) hs ?_
  refine ae.cy s rfl (by omega) ?_
  obtain⟨N,hN⟩:∃N,N=aL a:=⟨_,rfl⟩
  have hN':(nl a).length=N:=hN.symm
  refine SZ.mk N (by simp[hN]) ?_
  refine ae.ao ((N+n:Nat):Int) (by omega) (by omega) ?_
  obtain⟨L,hL⟩:∃L,L=N+n+1:=⟨_,rfl⟩
  refine ae.ao (L:Int) (by omega) (by omega) ?_
  refine SZ.mk L rfl ?_
  refine bT.mk (by simp) ?_
  refine bV.u32 L rfl (by omega) ?_
  have hD:0<2^s:=Nat.two_pow_pos s
  have hC:0<2^(32-s):=Nat.two_pow_pos _
  have hDC:=jU (s:=s) (by omega)
  have hDB:2^s<=2147483648:=Nat.le_trans (Nat.pow_le_pow_right (by omega) (show s<=31 by omega)) (by decide)
  refine aM.mk (Nat×List Nat) (fun(i,out)=>([(0,.p (bK m a)),(5,.p (.int .i64 n)),(6,.p (.int .u64 s)),(7,.vec 0 1 0 L),(8,.p (.int .i64 i))],[.vec 41 1 (bF out)]))
   (fun(i,out)=>i<=N/\out.length=L/\fV out/\nv out=a%4294967296^i*2^s*4294967296^n) (fun x=>N-x.1) (0,List.replicate L 0) [0]
   ⟨Nat.zero_le _,by simp,.replicate _,by simp[c7,Nat.mod_one]⟩
   ⟨rfl,by simp,rfl,rfl,rfl,⟨rfl,rfl,rfl,rfl,rfl,trivial⟩,⟨congrArg _ (bI L).symm,trivial⟩⟩ ?_
  intro⟨i,out⟩ ⟨h1,h3,h4,h5⟩
  refine SZ.mk N (by simp[hN]) ?_
  by_cases hi:i<N
  ·refine ag.yes (decide_eq_true (by omega)) ?_
   refine aG.lb i rfl (by omega) ?_
   have e1:=bO a i
   have l1:(nl a).getD i 0<4294967296:=bD (bR a) i
   obtain⟨x,hx⟩:∃x,x=(nl a).getD i 0:=⟨_,rfl⟩
   rw[<-hx]at e1 l1
   rw[<-hx]
   refine ae.cy x rfl (by omega) ?_
   obtain⟨X,hX⟩:∃X,X=x*2^s:=⟨_,rfl⟩
   refine B9 (v:=X) hs' l1 hX ?_
   refine ae.ao ((i+n:Nat):Int) (by omega) (by omega) ?_
   refine ae.ao ((i+n:Nat):Int) (by omega) (by omega) ?_
   refine aI.mk (i+n) rfl (by omega) ?_
   refine aG.lb (i+n) rfl (by omega) ?_
   have hlt:a%4294967296^i*2^s<4294967296^i*2^s:=Nat.mul_lt_mul_of_pos_right (Nat.mod_lt _ (bP i)) hD
   have ho:out.getD (i+n) 0<2^s:=by
    rw[gg h4,h5,Nat.pow_add,Nat.mul_comm (4294967296^i),<-Nat.div_div_eq_div_mul,Nat.mul_div_cancel _ (bP n)]
    refine Nat.lt_of_le_of_lt (Nat.mod_le _ _) ?_
    rw[Nat.div_lt_iff_lt_mul (bP i),Nat.mul_comm (2^s)]
    exact hlt
   have ho2:out.getD (i+n+1) 0=0:=by
    rw[gg h4,h5,show i+n+1=n+(i+1) by omega,Nat.pow_add,<-Nat.div_div_eq_div_mul,Nat.mul_div_cancel _ (bP n),Nat.div_eq_of_lt,Nat.zero_mod]
    refine Nat.lt_of_lt_of_le hlt ?_
    rw[Nat.pow_succ]
    exact Nat.mul_le_mul_left _ (by omega)
   obtain⟨o,hoe⟩:∃o,o=out.getD (i+n) 0:=⟨_,rfl⟩
   rw[<-hoe]at ho
   rw[<-hoe]
   have hlo:X%4294967296=(x%2^(32-s))*2^s:=by
    have:=j3 (A:=x) hD hDC
    rw[Nat.mod_eq_of_lt l1]at this
    rw[hX,this]
   refine ae.fo (x%2^(32-s)*2^s) (by rw[<-hlo];omega) ?_
   have hxl:x%2^(32-s)*2^s+2^s<=4294967296:=by
    have:x%2^(32-s)+1<=2^(32-s):=Nat.mod_lt _ hC
    have:=Nat.mul_le_mul_right (2^s) this
    rw[Nat.add_mul,Nat.one_mul,Nat.mul_comm (2^(32-s)),hDC]at this
    exact this
   refine Ge (v:=x%2^(32-s)*2^s+o) (by omega) ho (by omega) rfl (by omega) ?_
   rw[<-hlo]
   have hlo':X%4294967296+o<4294967296:=by omega
   refine aI.mk (i+n) rfl (by omega) ?_
   refine bT.set (by omega) ?_
   refine cH.set ?_
   refine ae.ao ((i+n:Nat):Int) (by omega) (by omega) ?_
   refine ae.ao ((i+n+1:Nat):Int) (by omega) (by omega) ?_
   refine fF ?_
   have hXl:X<4294967296*4294967296:=by
    have:x*2^s<=4294967295*2147483648:=Nat.mul_le_mul (by omega) hDB
    omega
   refine ae.fo (X/4294967296) (by omega) ?_
   refine aI.mk (i+n+1) rfl (by omega) ?_
   refine bT.set (by simp;omega) ?_
   refine cH.set ?_
   refine ae.ao ((i+1:Nat):Int) (by omega) (by omega) ?_
   refine⟨(i+1,(out.set (i+n) (X%4294967296+o)).set (i+n+1) (X/4294967296)),[0],⟨hi,by simpa using h3,(h4.set hlo').set (by omega),?_⟩,by show N-(i+1)<N-i;omega,⟨rfl,by simp,rfl,rfl,rfl,⟨rfl,rfl,rfl,rfl,rfl,trivial⟩,⟨rfl,trivial⟩⟩⟩
   have q1:=ie out (i+n) (X%4294967296+o) (by omega)
   have q2:=ie (out.set (i+n) (X%4294967296+o)) (i+n+1) (X/4294967296) (by simp;omega)
   rw[show(out.set (i+n) (X%4294967296+o)).getD (i+n+1) 0=out.getD (i+n+1) 0 by simp[List.getD],ho2,Nat.mul_zero,Nat.add_zero]at q2
   rw[<-hoe]at q1
   have e3:a%4294967296^(i+1)=a%4294967296^i+4294967296^i*x:=by rw[e1];exact Nat.mod_pow_succ
   rw[e3]
   rw[Nat.add_comm i n,Nat.pow_add]at q1
   rw[Nat.add_comm i n,Nat.pow_succ,Nat.pow_add]at q2
   rw[Nat.add_comm i n]
   have e4:x*2^s=X%4294967296+4294967296*(X/4294967296):=by rw[<-hX];exact(Nat.mod_add_div X 4294967296).symm
   exact xT (S:=0) q1 q2 e4 h5
  ·refine ag.no (decide_eq_false (by omega)) ?_
   have hiL:i=N:=by omega
   subst hiL
   rw[dn _ i (by omega),Nat.mul_assoc,Nat.mul_comm (2^s),<-hk2]at h5
   refine bp.all (by simpa using h3.symm) ?_
   refine ab.pure (fL true out h4 (by omega)) ?_
   rw[h5]
   exact aq.pure (.p _ (.sl _ _ (aP _)))
theorem xp (m:Bool) (a k:Nat) (ha:aL a<=274877906944) (hk:k<=1048576):au Tryz.prog 216 [bK m a,.int .i64 k] (.p (bC (a/2^k))) []:=by
 refine aa (wr:=a9) a6 mixed Tryz.func216 (by kernel_rfl) rfl (by kernel_rfl) (af rfl) (by simp) ?_
 refine ag.no (decide_eq_false (by omega)) ?_
 refine ag.no (decide_eq_false (by omega)) ?_
 obtain⟨n,hn⟩:∃n,n=k/32:=⟨_,rfl⟩
 obtain⟨s,hs⟩:∃s,s=k%32:=⟨_,rfl⟩
 have hs':s<32:=by omega
 have hk2:2^k=4294967296^n*2^s:=by
  rw[show(4294967296:Nat)=2^32 by decide,<-Nat.pow_mul,<-Nat.pow_add];congr 1;omega
 refine qL (b:=32) (by omega) hn (by rw[IntKind.wrap_i64];omega) ?_
 refine te (b:=32) (by omega) hs ?_
 refine ae.cy s rfl (by omega) ?_
 have hD:0<2^s:=Nat.two_pow_pos s
 have hDC:=jU (s:=s) (by omega)
 refine SZ.mk (aL a) (by simp) ?_
 by_cases hw:aL a<=n
 ·refine ag.yes (decide_eq_true (by omega)) ?_
  have hz:a/2^k=0:=by
   rw[hk2,<-Nat.div_div_eq_div_mul,Nat.div_eq_of_lt (Nat.lt_of_lt_of_le (cj a) (Nat.pow_le_pow_right (by omega) hw)),Nat.zero_div]
  rw[hz,fx]
  exact aq.pure (.emp _)
 ·refine ag.no (decide_eq_false (by omega)) ?_
  obtain⟨L,hL⟩:∃L,L=aL a-n:=⟨_,rfl⟩
  refine SZ.mk (aL a) (by simp) ?_
  refine ae.ao (L:Int) (by omega) (by omega) ?_
  refine SZ.mk L rfl ?_
  refine bT.mk (by simp) ?_
  refine bV.u32 L rfl (by omega) ?_
  refine aM.mk (Nat×List Nat) (fun(i,out)=>([(0,.p (bK m a)),(5,.p (.int .i64 n)),(6,.p (.int .u64 s)),(7,.vec 0 1 0 L),(8,.p (.int .i64 i))],[.vec 41 1 (bF out)]))
   (fun(i,out)=>i<=L/\out.length=L/\fV out/\nv (out.take i)=a/2^k%4294967296^i) (fun x=>L-x.1) (0,List.replicate L 0) [0]
   ⟨Nat.zero_le _,by simp,.replicate _,by simp[nv,Nat.mod_one]⟩
   ⟨rfl,by simp,rfl,rfl,rfl,⟨rfl,rfl,rfl,rfl,rfl,trivial⟩,⟨congrArg _ (bI L).symm,trivial⟩⟩ ?_
  intro⟨i,out⟩ ⟨h1,h3,h4,h5⟩
  refine SZ.mk L rfl ?_
  by_cases hi:i<L
  ·refine ag.yes (decide_eq_true (by omega)) ?_
   refine ae.ao ((i+n:Nat):Int) (by omega) (by omega) ?_
   refine ab.pure (mn m (nl a) (bR a) (i+n)) ?_
   refine ae.ao ((i+n:Nat):Int) (by omega) (by omega) ?_
   refine ae.ao ((i+n+1:Nat):Int) (by omega) (by omega) ?_
   refine ab.pure (mn m (nl a) (bR a) (i+n+1)) ?_
   obtain⟨x,hx⟩:∃x:Nat,x=(nl a).getD (i+n) 0:=⟨_,rfl⟩
   obtain⟨y,hy⟩:∃y:Nat,y=(nl a).getD (i+n+1) 0:=⟨_,rfl⟩
   have lx:x<4294967296:=by rw[hx];exact bD (bR a) _
   have ly:y<4294967296:=by rw[hy];exact bD (bR a) _
   rw[<-hx,<-hy]
   refine oI ly ?_
   obtain⟨S,hS⟩:∃S,S=x+4294967296*y:=⟨_,rfl⟩
   refine A5 lx ly hS ?_
   obtain⟨v,hv⟩:∃v,v=S/2^s:=⟨_,rfl⟩
   refine Ef hs' hv ?_
   have hlimb:a/2^k/4294967296^i%4294967296=v%4294967296:=by
    rw[hv,hS,hx,hy,bO,bO,hk2,<-Nat.div_div_eq_div_mul,tM hD hDC]
    rw[Nat.div_div_eq_div_mul,Nat.div_div_eq_div_mul,Nat.add_comm i n,Nat.add_assoc,Nat.pow_add,Nat.pow_add,Nat.pow_succ]
   refine ae.fo (v%4294967296) (by omega) ?_
   refine aI.mk i rfl hi ?_
   refine bT.set (by omega) ?_
   refine cH.set ?_
   refine ae.ao ((i+1:Nat):Int) (by omega) (by omega) ?_
   refine⟨(i+1,out.set i (v%4294967296)),[0],⟨hi,by simpa using h3,h4.set (Nat.mod_lt _ (by omega)),?_⟩,by show L-(i+1)<L-i;omega,⟨rfl,by simp,rfl,rfl,rfl,⟨rfl,rfl,rfl,rfl,rfl,trivial⟩,⟨rfl,trivial⟩⟩⟩
   rw[c9 (by omega),h5,<-hlimb]
   exact Nat.mod_pow_succ.symm
  ·refine ag.no (decide_eq_false (by omega)) ?_
   have hiL:i=L:=by omega
   subst hiL
   have hlt:a/2^k<4294967296^i:=by
    rw[hk2,<-Nat.div_div_eq_div_mul]
    refine Nat.lt_of_le_of_lt (Nat.div_le_self _ _) ?_
    rw[Nat.div_lt_iff_lt_mul (bP n),<-Nat.pow_add]
    exact Nat.lt_of_lt_of_le (cj a) (Nat.pow_le_pow_right (by omega) (by omega))
   rw[Nat.mod_eq_of_lt hlt,List.take_of_length_le (by omega)]at h5
   refine bp.all (by simpa using h3.symm) ?_
   refine ab.pure (fL true out h4 (by omega)) ?_
   rw[h5]
   exact aq.pure (.p _ (.sl _ _ (aP _)))
theorem Gq {s v:Nat} {K:Int->Prop} (hs:s<32) (hv:v=2^s) (hk:K (v:Int)):sr (s:Int) (ae .u32 ((1:Int)*2^(min (s:Int).toNat (IntKind.bits .u32))) K):=by
 have hm:min (s:Int).toNat (IntKind.bits .u32)=s:=by rw[Int.toNat_natCast];exact Nat.min_eq_left (by show s<=32;omega)
 rw[hm]
 have h1:2^s<=2^31:=Nat.pow_le_pow_right (by omega) (by omega)
 refine .mk (by omega) (.fo v ?_ hk)
 rw[hv,Int.one_mul,show(2:Int)^s=((2^s:Nat):Int) by simp]
 omega
theorem Ai {V t i w s:Nat} (hi:i=32*w+s) (hs:s<32) (hV:V=2^(i+1)*t):V/4294967296^w%4294967296=t%2^(31-s)*2^(s+1):=by
 have e1:V=4294967296^w*(2^(s+1)*t):=by
  rw[hV,hi,show(4294967296:Nat)=2^32 by decide,<-Nat.pow_mul,<-Nat.mul_assoc,<-Nat.pow_add,Nat.add_assoc]
 have e2:2^(s+1)*2^(31-s)=4294967296:=by rw[<-Nat.pow_add,show s+1+(31-s)=32 by omega]
 rw[e1,Nat.mul_div_cancel_left _ (bP w),<-e2,Nat.mul_mod_mul_left,Nat.mul_comm]
theorem rH (m m':Bool) (a b:Nat) (hb0:b≠0) (ha:bitLen a<=1048576) (hb:bitLen b<=1048576):
  au Tryz.prog 165 [bK m a,bK m' b] (.bq [.p (bC (a/b)),.p (bC (a%b)),.p (.int .i64 0)]) []:=by
 have hna:=cB a
 have hnb:=cB b
 refine aa (wr:=a9) a6 mixed Tryz.func165 (by kernel_rfl) rfl (by kernel_rfl) (af rfl) (by simp) ?_
 refine SZ.mk (aL b) (by simp) ?_
 have hb1:=mt aR.1 hb0
 refine ag.no (kL (by omega)) ?_
 refine ab.pure (sJ m a (by omega)) ?_
 refine ab.pure (sJ m' b (by omega)) ?_
 refine ae.ao ((bitLen a:Int)-bitLen b) rfl (by omega) ?_
 by_cases hk0:bitLen a<bitLen b
 ·refine ag.yes (decide_eq_true (by omega)) ?_
  refine ab.pure (jT m a (by omega)) ?_
  have hlt:=rZ hk0
  rw[Nat.div_eq_of_lt hlt,Nat.mod_eq_of_lt hlt,fx]
  exact aq.pure (.bq rfl fun i c d e1 e2=>by
   match i,e1,e2 with
   |0,e1,e2=>cases e1;cases e2;exact .emp _
   |1,e1,e2=>cases e1;cases e2;exact .p _ (.sl _ _ (aP _))
   |2,e1,e2=>cases e1;cases e2;exact .p _ (.int _ _))
 ·refine ag.no (decide_eq_false (by omega)) ?_
  obtain⟨k,hk⟩:∃k,bitLen a=k+bitLen b:=⟨bitLen a-bitLen b,by omega⟩
  rw[show(bitLen a:Int)-bitLen b=(k:Int) by omega]
  obtain⟨n,hn⟩:∃n,n=k/32:=⟨_,rfl⟩
  refine qL (b:=32) (by omega) hn (by rw[IntKind.wrap_i64];omega) ?_
  obtain⟨L,hL⟩:∃L,L=n+1:=⟨_,rfl⟩
  refine ae.ao (L:Int) (by omega) (by omega) ?_
  refine SZ.mk L rfl ?_
  refine bT.mk (by simp) ?_
  refine bV.u32 L rfl (by omega) ?_
  refine ab.pure (jT m a (by omega)) ?_
  refine ab.pure (CD m' b k (by omega) (by omega)) ?_
  have hkl:aL (b*2^k)<=4194304:=by have:=oQ b k;omega
  have hinit:a<b*2^(k+1):=by
   have h1:=dY a
   have h2:=uR hb0
   have h3:bitLen b≠0:=mt ew.1 hb0
   rw[hk,show k+bitLen b=(bitLen b-1)+(k+1) by omega,Nat.pow_add]at h1
   exact Nat.lt_of_lt_of_le h1 (Nat.mul_le_mul_right _ h2)
  refine aM.mk (Nat×Int×List Nat×Nat×Nat) (fun(j,z,q,r,d)=>([(8,.vec 0 1 0 L),(9,.p (bC r)),(10,.p (bC d)),(11,.p (.int .i64 z))],[.vec 41 1 (bF q)]))
   (fun(j,z,q,r,d)=>j<=k+1/\z=(j:Int)-1/\q.length=L/\fV q/\a=nv q*b+r/\(∃t,nv q=2^j*t)/\r<b*2^j/\d=b*2^j/2) (fun x=>x.1) (k+1,(k:Int),List.replicate L 0,a,b*2^k) [0]
   ⟨Nat.le_refl _,by omega,by simp,.replicate _,by simp[c7],⟨0,by simp[c7]⟩,hinit,by rw[Nat.pow_succ,<-Nat.mul_assoc,Nat.mul_div_cancel _ (by omega)]⟩
   ⟨rfl,by simp,rfl,rfl,rfl,⟨rfl,rfl,rfl,rfl,trivial⟩,⟨congrArg _ (bI L).symm,trivial⟩⟩ ?_
  intro⟨j,z,q,r,d⟩ ⟨h1,hz,h2,h3,h4,⟨t,h5⟩,h6,h7⟩
  by_cases hj:j=0
  ·subst hj
   refine ag.no (decide_eq_false (by omega)) ?_
   refine bp.all (by simpa using h2.symm) ?_
   refine ab.pure (fL true q h3 (by omega)) ?_
   rw[Nat.pow_zero,Nat.mul_one]at h6
   have hm:=Nat.div_mod_unique (Nat.pos_of_ne_zero hb0)|>.2 (⟨by rw[h4];grind,h6⟩:r+b*nv q=a/\r<b)
   rw[hm.1,hm.2]
   exact aq.pure (.bq rfl fun i c d e1 e2=>by
    match i,e1,e2 with
    |0,e1,e2=>cases e1;cases e2;exact .p _ (.sl _ _ (aP _))
    |1,e1,e2=>cases e1;cases e2;exact .p _ (.sl _ _ (aP _))
    |2,e1,e2=>cases e1;cases e2;exact .p _ (.int _ _))
  ·obtain⟨i,rfl⟩:=Nat.exists_eq_succ_of_ne_zero hj
   have hz:z=(i:Int):=by omega
   subst hz
   refine ag.yes (decide_eq_true (by omega)) ?_
   have hd:d=b*2^i:=by rw[h7,Nat.pow_succ,<-Nat.mul_assoc,Nat.mul_div_cancel _ (by omega)]
   have hd2:b*2^i/2=d/2:=by rw[hd]
   have hra:r<=a:=by rw[h4];exact Nat.le_add_left _ _
   have hrl:aL r<=1048576:=Nat.le_trans (dt hra) (by omega)
   have hdl:aL d<=4194304:=Nat.le_trans (dt (by rw[hd];exact Nat.mul_le_mul_left _ (Nat.pow_le_pow_right (by omega) (by omega)))) hkl
   refine ab.pure (j8 false false r d (by omega) (by omega)) ?_
   by_cases hrd:d<=r
   ·refine ag.yes (decide_eq_true (by simp only[cP];split;omega;split<;>omega)) ?_
    refine ab.pure (s4 false false r d (by omega) hrd) ?_
    obtain⟨w,hw⟩:∃w,w=i/32:=⟨_,rfl⟩
    obtain⟨s,hs⟩:∃s,s=i%32:=⟨_,rfl⟩
    have hs':s<32:=by omega
    refine qL (b:=32) (by omega) hw (by rw[IntKind.wrap_i64];omega) ?_
    refine qL (b:=32) (by omega) hw (by rw[IntKind.wrap_i64];omega) ?_
    refine aI.mk w rfl (by omega) ?_
    refine aG.lb w rfl (by omega) ?_
    refine te (b:=32) (by omega) hs ?_
    refine ae.cy s rfl (by omega) ?_
    refine Gq (v:=2^s) hs' rfl ?_
    have ho:q.getD w 0=t%2^(31-s)*2^(s+1):=by
     rw[gg h3];exact Ai (by omega) hs' h5
    obtain⟨u,hu⟩:∃u,u=t%2^(31-s):=⟨_,rfl⟩
    have hul:u<2^(31-s):=by rw[hu];exact Nat.mod_lt _ (Nat.two_pow_pos _)
    have hul2:(u+1)*2^(s+1)<=4294967296:=by
     have:=Nat.mul_le_mul_right (2^(s+1)) hul
     rwa[<-Nat.pow_add,show 31-s+(s+1)=32 by omega]at this
    rw[Nat.add_mul,Nat.one_mul]at hul2
    rw[<-hu]at ho
    rw[ho]
    have hp:2^(s+1)=2*2^s:=by rw[Nat.pow_succ,Nat.mul_comm]
    have hps:0<2^s:=Nat.two_pow_pos s
    refine Gs (q:=u) (s:=s+1) (r:=2^s) (v:=u*2^(s+1)+2^s) (by omega) (by omega) (by omega) rfl (by omega) ?_
    refine aI.mk w rfl (by omega) ?_
    refine bT.set (by omega) ?_
    refine cH.set ?_
    refine ab.pure (xp false d 1 (by omega) (by omega)) ?_
    refine ae.ao ((i:Int)-1) rfl (by omega) ?_
    have hset:=ie q w (u*2^(s+1)+2^s) (by omega)
    rw[ho]at hset
    have hpi:4294967296^w*2^s=2^i:=by
     rw[show(4294967296:Nat)=2^32 by decide,<-Nat.pow_mul,<-Nat.pow_add];congr 1;omega
    have hq':nv (q.set w (u*2^(s+1)+2^s))=nv q+2^i:=by
     have:4294967296^w*(u*2^(s+1)+2^s)=4294967296^w*(u*2^(s+1))+2^i:=by rw[Nat.mul_add,hpi]
     omega
    refine⟨(i,(i:Int)-1,q.set w (u*2^(s+1)+2^s),r-d,d/2^1),[0],⟨by omega,rfl,by simpa using h2,h3.set (by omega),?_,⟨2*t+1,?_⟩,?_,by rw[hd2]⟩,Nat.lt_succ_self i,⟨rfl,by simp,rfl,rfl,rfl,⟨rfl,rfl,rfl,rfl,trivial⟩,⟨rfl,trivial⟩⟩⟩
    ·have:(nv q+2^i)*b=nv q*b+d:=by rw[hd];grind
     rw[hq',this]
     show a=nv q*b+d+(r-d)
     omega
    ·rw[hq',h5,Nat.succ_eq_add_one,Nat.pow_succ];grind
    ·show r-d<b*2^i
     rw[Nat.succ_eq_add_one,Nat.pow_succ,<-Nat.mul_assoc,<-hd]at h6
     omega
   ·refine ag.no (decide_eq_false (by simp only[cP];split;omega;omega)) ?_
    refine ab.pure (xp false d 1 (by omega) (by omega)) ?_
    refine ae.ao ((i:Int)-1) (by omega) (by omega) ?_
    refine⟨(i,(i:Int)-1,q,r,d/2^1),[0],⟨by omega,rfl,h2,h3,h4,⟨2*t,?_⟩,by rw[<-hd];omega,by rw[hd2]⟩,Nat.lt_succ_self i,⟨rfl,by simp,rfl,rfl,rfl,⟨rfl,rfl,rfl,rfl,trivial⟩,⟨rfl,trivial⟩⟩⟩
    rw[h5,Nat.succ_eq_add_one,Nat.pow_succ];grind
theorem C7 (m m':Bool) (a b:Nat) (ha:bitLen a<=1048576) (hb:bitLen b<=1048576):au Tryz.prog 164 [bK m a,bK m' b] (.p (bC (Nat.gcd a b))) []:=by
 refine aa (wr:=a9) a6 mixed Tryz.func164 (by kernel_rfl) rfl (by kernel_rfl) (af rfl) (by simp) ?_
 refine aM.mk (Nat×Nat×Bool×Bool) (fun(x,y,mx,my)=>([(0,.p (bK mx x)),(1,.p (bK my y))],[])) (fun(x,y,mx,my)=>bitLen x<=1048576/\bitLen y<=1048576/\Nat.gcd x y=Nat.gcd a b) (fun x=>x.2.1) (a,b,m,m') []
  ⟨ha,hb,rfl⟩ ⟨rfl,.nil,rfl,rfl,rfl,⟨rfl,rfl,trivial⟩,trivial⟩ ?_
 intro⟨x,y,mx,my⟩ ⟨h1,h2,h3⟩
 refine SZ.mk (aL y:Int) (by simp) ?_
 have n1:=cB x
 by_cases hy:y=0
 ·subst hy
  refine ag.no (decide_eq_false (by rw[aR.2 rfl];decide)) ?_
  refine ab.pure (jT mx x (by omega)) ?_
  rw[<-h3,Nat.gcd_zero_right]
  exact aq.pure (.p _ (.sl _ _ (aP _)))
 ·have hn:=mt aR.1 hy
  refine ag.yes (decide_eq_true (by omega)) ?_
  refine ab.bg (rH mx my x y hy h1 h2) (fun _=>rfl) ?_
  have hr:x%y<y:=Nat.mod_lt _ (by omega)
  exact⟨(y,x%y,my,false),[],⟨h2,Nat.le_trans (cS (Nat.le_of_lt hr)) h2,by rw[<-h3,Nat.gcd_comm,<-Nat.gcd_rec,Nat.gcd_comm]⟩,hr,⟨rfl,.nil,rfl,rfl,rfl,⟨rfl,rfl,trivial⟩,trivial⟩⟩
theorem kJ {n:Nat} {K:Prop} (h:aL n<=1099511627776) (hk:K):ck (bF (nl n)).length 4 K:=by
 have h:(nl n).length<=1099511627776:=h
 exact .mk (by simp;omega) (by simp;omega) hk
structure Bz (q:Rat) (k:Nat):Prop where
 n:bitLen q.num.natAbs<=k
 d:bitLen q.den<=k
theorem Bz.mono {q:Rat} {j k:Nat} (h:Bz q j) (hk:j<=k):Bz q k:=⟨Nat.le_trans h.n hk,Nat.le_trans h.d hk⟩
theorem Bz.sz {q:Rat} {k:Nat} (h:Bz q k):Sz q k:=⟨Nat.le_trans (cB _) h.n,Nat.le_trans (cB _) h.d⟩
theorem hY {a b j k:Nat} (ha:bitLen a<=j) (hb:bitLen b<=k):bitLen (a*b)<=j+k:=by have:=uA a b;omega
theorem BC {a b k:Nat} (ha:bitLen a<=k) (hb:bitLen b<=k):bitLen (a+b)<=k+1:=by have:=ur a b;omega
theorem Bz.ir {neg:Bool} {n d k:Nat} (hd:d≠0) (hn:bitLen n<=k) (hdk:bitLen d<=k):Bz (ir neg n d) k:=by
 obtain⟨h1,h2,_⟩:=wV (neg:=neg) (n:=n) hd
 exact⟨by rw[h1];exact Nat.le_trans (cS (Nat.div_le_self _ _)) hn,by rw[h2];exact Nat.le_trans (cS (Nat.div_le_self _ _)) hdk⟩
theorem Bz.mul {p q:Rat} {j k:Nat} (hp:Bz p j) (hq:Bz q k):Bz (p*q) (j+k):=by
 rw[mul_eq]
 exact Bz.ir (Nat.mul_ne_zero p.den_nz q.den_nz) (hY hp.n hq.n) (hY hp.d hq.d)
theorem Bz.neg {p:Rat} {k:Nat} (hp:Bz p k):Bz (-p) k:=⟨by rw[Rat.neg_num,Int.natAbs_neg];exact hp.n,hp.d⟩
theorem Bz.div {p q:Rat} {j k:Nat} (hp:Bz p j) (hq:Bz q k):Bz (p/q) (j+k):=by
 by_cases h:q=0
 ·subst h
  rw[Rat.div_def,Rat.inv_zero,Rat.mul_zero]
  exact⟨by simp[bitLen],by have:=cS (Nat.pos_of_ne_zero p.den_nz);have h2:=hp.d;simp at this⊢;omega⟩
 ·have hqn:q.num.natAbs≠0:=by intro e;exact h (Rat.num_eq_zero.1 (by omega))
  rw[AQ p q h]
  exact Bz.ir (Nat.mul_ne_zero p.den_nz hqn) (hY hp.n hq.d) (hY hp.d hq.n)
theorem Bz.add {p q:Rat} {j k:Nat} (hp:Bz p j) (hq:Bz q k):Bz (p+q) (j+k+1):=by
 have hd:=Nat.mul_ne_zero p.den_nz q.den_nz
 have h5:=hY hp.n hq.d
 have h6:=hY hq.n hp.d
 have h7:=hY hp.d hq.d
 by_cases h:decide (p.num<0)=decide (q.num<0)
 ·rw[add_same h]
  exact Bz.ir hd (BC h5 (by omega)) (by omega)
 ·rcases Nat.le_total (q.num.natAbs*p.den) (p.num.natAbs*q.den)with hle|hle
  ·rw[l9 h hle]
   exact Bz.ir hd (Nat.le_trans (cS (Nat.sub_le _ _)) (by omega)) (by omega)
  ·rw[mM h hle]
   exact Bz.ir hd (Nat.le_trans (cS (Nat.sub_le _ _)) (by omega)) (by omega)
theorem Bz.sub {p q:Rat} {j k:Nat} (hp:Bz p j) (hq:Bz q k):Bz (p-q) (j+k+1):=by
 rw[Rat.sub_eq_add_neg];exact hp.add hq.neg
theorem pf:au Tryz.prog 67 [] (.p (bC 1)) []:=by
 refine aa (wr:=a9) a6 mixed Tryz.func67 (by kernel_rfl) rfl (by kernel_rfl) (af rfl) (by simp) ?_
 have:nl 1=[1]:=by rw[fC (by omega),show 1/4294967296=0 by decide,cr]
 show aq _ _ _ (.p (.sl false 1 (bF (nl 1)))) _
 rw[this]
 exact aq.pure (qK (l:=[1]) rfl rfl)
theorem tP:au Tryz.prog 25 [] (.p (aJ 0)) []:=by
 refine aa (wr:=a9) a6 mixed Tryz.func25 (by kernel_rfl) rfl (by kernel_rfl) (af rfl) (by simp) ?_
 refine ab.pure (pf) ?_
 refine aq.pure ?_
 rw[dF]
 refine .p _ ?_
 have:=aS false 0 1
 rwa[fx]at this
theorem sU (n:Int) (h: -9223372036854775808<=n/\n<9223372036854775808):au Tryz.prog 107 [.int .i64 n] (.p (.int .u64 n.natAbs)) []:=by
 refine aa (wr:=a9) a6 mixed Tryz.func107 (by kernel_rfl) rfl (by kernel_rfl) (af rfl) (by simp) ?_
 by_cases hn:n<0
 ·refine ag.yes (decide_eq_true (by omega)) ?_
  refine ae.x5 (n+18446744073709551616).toNat (by omega) ?_
  refine ae.x5 n.natAbs (by omega) ?_
  exact aq.pure (.p _ (.int _ _))
 ·refine ag.no (decide_eq_false (by omega)) ?_
  refine ae.x5 n.natAbs (by omega) ?_
  exact aq.pure (.p _ (.int _ _))
theorem f8 {H:Hp} {a b c:AV} {x y z:PV} (h:x.one=true/\y.one=true/\z.one=true) (ha:Conv [] H a (.p x)) (hb:Conv [] H b (.p y)) (hc:Conv [] H c (.p z)):Conv [] H (.agg [a,b,c]) (.p (.agg [x,y,z])):=
 .mJ (by simp[h.1,h.2.1,h.2.2]) rfl fun i c d e1 e2=>by
  match i,e1,e2 with
  |0,e1,e2=>cases e1;cases e2;exact ha
  |1,e1,e2=>cases e1;cases e2;exact hb
  |2,e1,e2=>cases e1;cases e2;exact hc
theorem sg (neg:Bool) (m m':Bool) (n d:Nat) (hd:d≠0) (hn':bitLen n<=1048576) (hd':bitLen d<=1048576):
  au Tryz.prog 105 [.bool neg,bK m n,bK m' d] (.bq [.p (aJ (ir neg n d)),.p (.int .i64 0)]) []:=by
 refine aa (wr:=a9) a6 mixed Tryz.func105 (by kernel_rfl) rfl (by kernel_rfl) (af rfl) (by simp) ?_
 have n1:=cB n
 have n2:=cB d
 refine SZ.mk (aL d:Int) (by simp) ?_
 refine ag.no (kL (by have:=mt aR.1 hd;omega)) ?_
 refine SZ.mk (aL n:Int) (by simp) ?_
 by_cases hn:n=0
 ·subst hn
  refine ag.yes (kV (by rw[aR.2 rfl];rfl)) ?_
  refine ab.pure (tP) ?_
  rw[show ir neg 0 d=0 by cases neg<;>simp[ir,c6]]
  exact aq.pure (.bq rfl fun i c d e1 e2=>by
   match i,e1,e2 with
   |0,e1,e2=>cases e1;cases e2;exact .p _ (aS _ _ _)
   |1,e1,e2=>cases e1;cases e2;exact .p _ (.int _ _))
 ·refine ag.no (kL (by have:=mt aR.1 hn;omega)) ?_
  refine ab.pure (pf) ?_
  have n3:aL 1<=549755813888:=Nat.le_trans (cB 1) (by decide)
  refine ab.pure (j8 m' false d 1 (by omega) n3) ?_
  by_cases h1:d=1
  ·subst h1
   refine ag.yes (by simp[cP]) ?_
   refine kJ (by omega) ?_
   refine ab.pure (pf) ?_
   have e:=pe (neg:=neg) (n:=n) (d:=1) (by omega) hn
   rw[Nat.gcd_one_right,Nat.div_one,Nat.div_one]at e
   rw[e]
   refine aq.pure (.bq rfl fun i c d e1 e2=>?_)
   match i,e1,e2 with
   |0,e1,e2=>cases e1;cases e2;exact f8 ⟨rfl,rfl,rfl⟩ (.p _ (.bool _)) (qK rfl (by simp)) (.p _ (.sl _ _ (aP _)))
   |1,e1,e2=>cases e1;cases e2;exact .p _ (.int _ _)
  ·refine ag.no (by simp only[cP];split<;>simp[h1]) ?_
   have hg:0<Nat.gcd n d:=Nat.gcd_pos_of_pos_right _ (by omega)
   have hgl:bitLen (Nat.gcd n d)<=1048576:=Nat.le_trans (cS (Nat.gcd_le_right _ (by omega))) hd'
   refine ab.pure (C7 m m' n d hn' hd') ?_
   refine ab.bg (rH m false n (Nat.gcd n d) (by omega) hn' hgl) (fun _=>rfl) ?_
   refine ab.bg (rH m' false d (Nat.gcd n d) (by omega) hd' hgl) (fun _=>rfl) ?_
   rw[pe hd hn]
   exact aq.pure (.bq rfl fun i c d e1 e2=>by
    match i,e1,e2 with
    |0,e1,e2=>cases e1;cases e2;exact .p _ (aS _ _ _)
    |1,e1,e2=>cases e1;cases e2;exact .p _ (.int _ _))
theorem oY (neg:Bool) (m m':Bool) (n d:Nat) (hd:d≠0) (hn':bitLen n<=1048576) (hd':bitLen d<=1048576):
  au Tryz.prog 73 [.bool neg,bK m n,bK m' d] (.p (aJ (ir neg n d))) []:=by
 refine aa (wr:=a9) a6 mixed Tryz.func73 (by kernel_rfl) rfl (by kernel_rfl) (af rfl) (by simp) ?_
 refine ab.bg (sg neg m m' n d hd hn' hd') (fun _=>rfl) ?_
 exact aq.pure (.p _ (aS _ _ _))
theorem w8 (n d:Int) (hn: -9223372036854775808<=n/\n<9223372036854775808) (hd: -9223372036854775808<=d/\d<9223372036854775808) (hd0:d≠0):
  au Tryz.prog 43 [.int .i64 n,.int .i64 d] (.bq [.p (aJ (ir (decide (n<0) !=decide (d<0)) n.natAbs d.natAbs)),.p (.int .i64 0)]) []:=by
 refine aa (wr:=a9) a6 mixed Tryz.func43 (by kernel_rfl) rfl (by kernel_rfl) (af rfl) (by simp) ?_
 refine ag.sym ?_
 refine ag.sym ?_
 refine ag.sym ?_
 refine ab.pure (sU n hn) ?_
 refine ab.pure (BR n.natAbs (by omega)) ?_
 refine ab.pure (sU d hd) ?_
 refine ab.pure (BR d.natAbs (by omega)) ?_
 have b1:bitLen n.natAbs<=64:=cK (by show _<18446744073709551616;omega)
 have b2:bitLen d.natAbs<=64:=cK (by show _<18446744073709551616;omega)
 refine ab.bg (sg _ false false n.natAbs d.natAbs (by omega) (by omega) (by omega)) (fun _=>rfl) ?_
 exact aq.pure (.bq rfl fun i c d e1 e2=>by
  match i,e1,e2 with
  |0,e1,e2=>cases e1;cases e2;exact .p _ (aS _ _ _)
  |1,e1,e2=>cases e1;cases e2;exact .p _ (.int _ _))
theorem Dr (n:Int):ir (decide (n<0) !=decide ((1:Int)<0)) n.natAbs (1:Int).natAbs=(n:Rat):=by
 have:c6 (decide (n<0) !=decide ((1:Int)<0)) n.natAbs=n:=by
  by_cases h:n<0<;>simp[c6,h]<;>omega
 rw[ir,this]
 simp[Rat.mkRat_one]
theorem eZ (n:Int) (hn: -9223372036854775808<=n/\n<9223372036854775808):au Tryz.prog 13 [.int .i64 n] (.p (aJ (n:Rat))) []:=by
 refine aa (wr:=a9) a6 mixed Tryz.func13 (by kernel_rfl) rfl (by kernel_rfl) (af rfl) (by simp) ?_
 have h:=w8 n 1 hn (by omega) (by omega)
 rw[Dr]at h
 refine ab.bg (h) (fun _=>rfl) ?_
 exact aq.pure (.p _ (aS _ _ _))
theorem xm (q:Rat) (hx:aL q.num.natAbs<=1099511627776) (hy:aL q.den<=1099511627776):au Tryz.prog 125 [aJ q] (.p (aJ (-q))) []:=by
 refine aa (wr:=a9) a6 mixed Tryz.func125 (by kernel_rfl) rfl (by kernel_rfl) (af rfl) (by simp) ?_
 have hn:aJ (-q)= .agg [.bool (decide (0<q.num)),bC q.num.natAbs,bC q.den]:=by
  simp only[aJ,Rat.neg_num,Rat.neg_den,Int.natAbs_neg]
  congr 3
  by_cases h:0<q.num<;>simp[h]<;>omega
 rw[hn]
 have h0:=aR (n:=q.num.natAbs)
 have done:∀(b:Bool) (H:Hp) (n d:Nat) (k1 k2:Nat),k1=aL n->k2=aL d->look H 2= .vec 41 1 (bF (nl n))->look H 3= .vec 41 1 (bF (nl d))->Conv [] H (.agg [.tf b,.vec 2 1 0 k1,.vec 3 1 0 k2]) (.p (.agg [.bool b,bC n,bC d])):=
  fun b H n d k1 k2 e1 e2 h1 h2=>f8 ⟨rfl,rfl,rfl⟩ (.tf b) (qK h1 e1) (qK h2 e2)
 by_cases h:q.num<0
 ·rw[decide_eq_false (show ¬0<q.num by omega)]
  refine aO.mk (by kernel_rfl) ?_
  repeat refine aj.mk _ _ (And.intro rfl rfl) rfl ?_
  refine aj.mk _ _ (ag.no (by simp[h]) (And.intro rfl rfl)) rfl ?_
  repeat refine aj.mk _ _ (And.intro rfl rfl) rfl ?_
  refine aj.mk _ _ (kJ hx (And.intro rfl rfl)) rfl ?_
  repeat refine aj.mk _ _ (And.intro rfl rfl) rfl ?_
  refine aj.mk _ _ (kJ hy (And.intro rfl rfl)) rfl ?_
  repeat refine aj.mk _ _ (And.intro rfl rfl) rfl ?_
  exact aq.pure (done false _ _ _ _ _ (by simp) (by simp) rfl rfl)
 ·refine aO.mk (by kernel_rfl) ?_
  repeat refine aj.mk _ _ (And.intro rfl rfl) rfl ?_
  refine aj.mk _ _ (ag.yes (by simp[h]) (And.intro rfl rfl)) rfl ?_
  repeat refine aj.mk _ _ (And.intro rfl rfl) rfl ?_
  refine aj.mk _ _ (SZ.mk (aL q.num.natAbs:Int) (by simp) (And.intro rfl rfl)) rfl ?_
  by_cases hz:q.num=0
  ·rw[decide_eq_false (show ¬0<q.num by omega)]
   refine aj.mk _ _ (ag.no (decide_eq_false (by rw[h0.2 (by omega)];decide)) (And.intro rfl rfl)) rfl ?_
   repeat refine aj.mk _ _ (And.intro rfl rfl) rfl ?_
   refine aj.mk _ _ (kJ hx (And.intro rfl rfl)) rfl ?_
   repeat refine aj.mk _ _ (And.intro rfl rfl) rfl ?_
   refine aj.mk _ _ (kJ hy (And.intro rfl rfl)) rfl ?_
   repeat refine aj.mk _ _ (And.intro rfl rfl) rfl ?_
   exact aq.pure (done false _ _ _ _ _ (by simp) (by simp) rfl rfl)
  ·rw[decide_eq_true (show 0<q.num by omega)]
   refine aj.mk _ _ (ag.yes (decide_eq_true (by have:=mt h0.1 (by omega);omega)) (And.intro rfl rfl)) rfl ?_
   repeat refine aj.mk _ _ (And.intro rfl rfl) rfl ?_
   refine aj.mk _ _ (kJ hx (And.intro rfl rfl)) rfl ?_
   repeat refine aj.mk _ _ (And.intro rfl rfl) rfl ?_
   refine aj.mk _ _ (kJ hy (And.intro rfl rfl)) rfl ?_
   repeat refine aj.mk _ _ (And.intro rfl rfl) rfl ?_
   exact aq.pure (done true _ _ _ _ _ (by simp) (by simp) rfl rfl)
theorem Bz.nn {q:Rat} {k:Nat} (h:Bz q k) (hk:k<=1099511627776):aL q.num.natAbs<=1099511627776:=Nat.le_trans h.sz.n hk
theorem Bz.nd {q:Rat} {k:Nat} (h:Bz q k) (hk:k<=1099511627776):aL q.den<=1099511627776:=Nat.le_trans h.sz.d hk
theorem AU (q:Rat) {k:Nat} (hq:Bz q k) (hk:k<=1099511627776):au Tryz.prog 84 [aJ q] (.p (aJ q)) []:=by
 refine aa (wr:=a9) a6 mixed Tryz.func84 (by kernel_rfl) rfl (by kernel_rfl) (af rfl) (by simp) ?_
 refine ab.pure (xm q (hq.nn hk) (hq.nd hk)) ?_
 refine ab.pure (xm (-q) (hq.neg.nn hk) (hq.neg.nd hk)) ?_
 rw[Rat.neg_neg]
 exact aq.pure (.p _ (aS _ _ _))
theorem GP (q:Rat):PV.agg [.bool false,bC q.num.natAbs,bC q.den]=aJ q.abs:=by
 rw[Rat.abs]
 split
 ·rename_i h
  have:=Rat.num_nonneg.2 h
  rw[aJ,decide_eq_false (by omega)]
 ·rename_i h
  have h:q.num<0:=by have:=mt Rat.num_nonneg.1 h;omega
  rw[aJ,Rat.neg_num,Rat.neg_den,Int.natAbs_neg,decide_eq_false (by omega)]
theorem Bz.abs {q:Rat} {k:Nat} (h:Bz q k):Bz q.abs k:=by
 rw[Rat.abs];split
 ·exact h
 ·exact h.neg
theorem Gl {q:Rat}:aL q.num.natAbs=0↔q=0:=by
 rw[aR,Int.natAbs_eq_zero,Rat.num_eq_zero]
theorem vL (q:Rat):au Tryz.prog 19 [aJ q] (.p (.bool (decide (q=0)))) []:=by
 refine aa (wr:=a9) a6 mixed Tryz.func19 (by kernel_rfl) rfl (by kernel_rfl) (af rfl) (by simp) ?_
 refine SZ.mk (aL q.num.natAbs:Int) (by simp) ?_
 by_cases h:q=0
 ·refine ag.yes (kV (by have:=Gl.2 h;omega)) ?_
  rw[decide_eq_true h]
  exact aq.pure (.tf true)
 ·refine ag.no (kL (by have:=mt Gl.1 h;omega)) ?_
  rw[decide_eq_false h]
  exact aq.pure (.tf false)
theorem t7 (p q:Rat) {j k:Nat} (hp:Bz p j) (hq:Bz q k) (h:j+k+1<=1048576):au Tryz.prog 28 [aJ p,aJ q] (.p (aJ (p+q))) []:=by
 refine aa (wr:=a9) a6 mixed Tryz.func28 (by kernel_rfl) rfl (by kernel_rfl) (af rfl) (by simp) ?_
 have h1:=hp.n
 have h2:=hp.d
 have h3:=hq.n
 have h4:=hq.d
 have g1:=hp.sz.n
 have g2:=hp.sz.d
 have g3:=hq.sz.n
 have g4:=hq.sz.d
 have hd:=Nat.mul_ne_zero p.den_nz q.den_nz
 obtain⟨x,hx⟩:∃x,x=p.num.natAbs*q.den:=⟨_,rfl⟩
 obtain⟨y,hy⟩:∃y,y=q.num.natAbs*p.den:=⟨_,rfl⟩
 obtain⟨d,hdd⟩:∃d,d=p.den*q.den:=⟨_,rfl⟩
 have m1:=rI false false p.num.natAbs q.den (by omega) (by omega)
 have m2:=rI false false q.num.natAbs p.den (by omega) (by omega)
 have m3:=rI false false p.den q.den (by omega) (by omega)
 have hxl:bitLen x<=j+k:=by rw[hx];exact hY h1 h4
 have hyl:bitLen y<=j+k:=by rw[hy,Nat.add_comm];exact hY h3 h2
 have hdl:bitLen d<=j+k:=by rw[hdd];exact hY h2 h4
 have nx:=cB x
 have ny:=cB y
 have nd:=cB d
 have hd':d≠0:=by rw[hdd];exact hd
 rw[<-hx]at m1
 rw[<-hy]at m2
 rw[<-hdd]at m3
 refine aO.mk (by kernel_rfl) ?_
 repeat refine aj.mk _ _ (And.intro rfl rfl) rfl ?_
 refine aj.mk _ _ (ab.pure (m1) (And.intro rfl rfl)) rfl ?_
 repeat refine aj.mk _ _ (And.intro rfl rfl) rfl ?_
 refine aj.mk _ _ (ab.pure (m2) (And.intro rfl rfl)) rfl ?_
 repeat refine aj.mk _ _ (And.intro rfl rfl) rfl ?_
 refine ab.pure (m3) ?_
 by_cases hs:decide (p.num<0)=decide (q.num<0)
 ·refine ag.yes (beq_iff_eq.2 hs) ?_
  have hl:=oY (decide (p.num<0)) false false (x+y) d hd' (Nat.le_trans (BC hxl hyl) (by omega)) (by omega)
  rw[hx,hy,hdd,<-add_same hs,<-hx,<-hy,<-hdd]at hl
  refine aO.mk (by kernel_rfl) ?_
  repeat refine aj.mk _ _ (And.intro rfl rfl) rfl ?_
  refine aj.mk _ _ (ab.pure (CL false false x y (by omega) (by omega)) (And.intro rfl rfl)) rfl ?_
  repeat refine aj.mk _ _ (And.intro rfl rfl) rfl ?_
  refine aj.mk _ _ (ab.pure (hl) (And.intro rfl rfl)) rfl ?_
  repeat refine aj.mk _ _ (And.intro rfl rfl) rfl ?_
  exact aq.pure (.p _ (aS _ _ _))
 ·refine ag.no (beq_eq_false_iff_ne.2 hs) ?_
  refine ab.pure (j8 false false x y (by omega) (by omega)) ?_
  by_cases hle:y<=x
  ·refine ag.no (decide_eq_false (by simp only[cP];split;omega;split<;>omega)) ?_
   have hl:=oY (decide (p.num<0)) false false (x-y) d hd' (Nat.le_trans (cS (Nat.sub_le _ _)) (by omega)) (by omega)
   rw[hx,hy,hdd,<-l9 hs (by rw[<-hx,<-hy];exact hle),<-hx,<-hy,<-hdd]at hl
   refine ab.bg (wK false false x y (by omega) (by omega) hle) (fun _=>rfl) ?_
   refine ab.pure (hl) ?_
   exact aq.pure (.p _ (aS _ _ _))
  ·refine ag.yes (decide_eq_true (by simp only[cP];split;omega;omega)) ?_
   have hl:=oY (decide (q.num<0)) false false (y-x) d hd' (Nat.le_trans (cS (Nat.sub_le _ _)) (by omega)) (by omega)
   rw[hx,hy,hdd,<-mM hs (by rw[<-hx,<-hy];omega),<-hx,<-hy,<-hdd]at hl
   refine ab.bg (wK false false y x (by omega) (by omega) (by omega)) (fun _=>rfl) ?_
   refine ab.pure (hl) ?_
   exact aq.pure (.p _ (aS _ _ _))
theorem C8 {p q:Rat} (h1:decide (p.num<0)=decide (q.num<0)) (h2:p.num.natAbs=q.num.natAbs) (h3:p.den=q.den):p=q:=by
 refine Rat.ext ?_ h3
 have:(p.num<0)↔(q.num<0):=by simpa using h1
 omega
theorem oJ (p q:Rat) {j k:Nat} (hp:Bz p j) (hq:Bz q k) (h:j+k<=137438953472):au Tryz.prog 16 [aJ p,aJ q] (.p (.bool (decide (p=q)))) []:=by
 refine aa (wr:=a9) a6 mixed Tryz.func16 (by kernel_rfl) rfl (by kernel_rfl) (af rfl) (by simp) ?_
 have h1:=hp.sz.n
 have h2:=hp.sz.d
 have h3:=hq.sz.n
 have h4:=hq.sz.d
 by_cases hs:decide (p.num<0)=decide (q.num<0)
 ·refine ag.yes (beq_iff_eq.2 hs) ?_
  refine ab.pure (j8 false false p.num.natAbs q.num.natAbs (by omega) (by omega)) ?_
  by_cases hn:p.num.natAbs=q.num.natAbs
  ·refine ag.yes (by simp[cP,hn]) ?_
   refine ab.pure (j8 false false p.den q.den (by omega) (by omega)) ?_
   by_cases hd:p.den=q.den
   ·refine ag.yes (by simp[cP,hd]) ?_
    rw[decide_eq_true (show p=q from C8 hs hn hd)]
    exact aq.pure (.tf true)
   ·refine ag.no (by simp only[cP];split<;>simp[hd]) ?_
    rw[decide_eq_false (show ¬p=q from fun e=>hd (by rw[e]))]
    exact aq.pure (.tf false)
  ·refine ag.no (by simp only[cP];split<;>simp[hn]) ?_
   rw[decide_eq_false (show ¬p=q from fun e=>hn (by rw[e]))]
   exact aq.pure (.tf false)
 ·refine ag.no (beq_eq_false_iff_ne.2 hs) ?_
  rw[decide_eq_false (show ¬p=q from fun e=>hs (by rw[e]))]
  exact aq.pure (.tf false)
abbrev bd (l:List Rat):List PV:=l.map aJ
abbrev ah (m:Bool) (l:List Rat):PV:=.sl m 3 (bd l)
theorem aG.rb {l:List Rat} {i:Int} {K:Nat->PV->Prop} (j:Nat) (hi:i=j) (hj:j<l.length) (hk:K j (aJ (l.getD j 0))):aG (bd l) i K:=
 .mk j _ hi (by simp[List.getElem?_map,List.getElem?_eq_getElem hj,List.getD]) hk
theorem aB (l:List Rat):∀e∈bd l,∀c∈e.cells,bZ c:=by
 intro e he c hc
 obtain⟨x,_,rfl⟩:=List.mem_map.1 he
 have hc:c∈[PV.bool (decide (x.num<0)),bC x.num.natAbs,bC x.den]:=hc
 simp at hc
 rcases hc with rfl|rfl|rfl
 ·exact .bool _
 ·exact .sl _ _ (aP _)
 ·exact .sl _ _ (aP _)
def Bl (l:List Rat) (k:Nat):Prop:=∀i,i<l.length->Bz (l.getD i 0) k
theorem oi (m m':Bool) (a b:List Rat) {j k:Nat} (ha:Bl a j) (hb:Bl b k) (h:j+k<=137438953472) (hl:a.length<=1099511627776):au Tryz.prog 12 [ah m a,ah m' b] (.p (.bool (decide (a=b)))) []:=by
 refine aa (wr:=a9) a6 mixed Tryz.func12 (by kernel_rfl) rfl (by kernel_rfl) (af rfl) (by simp) ?_
 refine SZ.mk (a.length:Int) (by simp) ?_
 refine SZ.mk (b.length:Int) (by simp) ?_
 by_cases hne:a.length=b.length
 ·refine ag.no (f0 (by omega)) ?_
  refine aM.mk Nat (fun i=>([(0,.p (ah m a)),(1,.p (ah m' b)),(5,.p (.int .i64 i))],[])) (fun i=>i<=a.length/\∀k,k<i->a.getD k 0=b.getD k 0) (fun i=>a.length-i) 0 []
   ⟨Nat.zero_le _,fun k hk=>absurd hk (Nat.not_lt_zero _)⟩ ⟨rfl,.nil,rfl,rfl,rfl,⟨rfl,rfl,rfl,trivial⟩,trivial⟩ ?_
  intro i ⟨h1,h2⟩
  refine SZ.mk (a.length:Int) (by simp) ?_
  by_cases hi:i<a.length
  ·refine ag.yes (decide_eq_true (by omega)) ?_
   refine aO.mk (by kernel_rfl) ?_
   repeat refine aj.mk _ _ (And.intro rfl rfl) rfl ?_
   refine aj.mk _ _ (aG.rb i rfl hi (And.intro rfl rfl)) rfl ?_
   repeat refine aj.mk _ _ (And.intro rfl rfl) rfl ?_
   refine aj.mk _ _ (aG.rb i rfl (by omega) (And.intro rfl rfl)) rfl ?_
   repeat refine aj.mk _ _ (And.intro rfl rfl) rfl ?_
   refine aj.mk _ _ (ab.pure (oJ (a.getD i 0) (b.getD i 0) (ha i hi) (hb i (by omega)) h) (And.intro rfl rfl)) rfl ?_
   by_cases e:a.getD i 0=b.getD i 0
   ·rw[decide_eq_true e]
    refine aj.mk _ _ (ag.no rfl (And.intro rfl rfl)) rfl ?_
    refine ae.ao ((i+1:Nat):Int) (by omega) (by omega) ?_
    refine⟨i+1,[],⟨hi,fun k hk=>?_⟩,by show a.length-(i+1)<a.length-i;omega,⟨rfl,.nil,rfl,rfl,rfl,⟨rfl,rfl,rfl,trivial⟩,trivial⟩⟩
    by_cases hki:k=i
    ·rw[hki];exact e
    ·exact h2 k (by omega)
   ·rw[decide_eq_false e]
    refine aj.mk _ _ (ag.yes rfl (And.intro rfl rfl)) rfl ?_
    rw[decide_eq_false (fun h=>e (by rw[h]))]
    exact aq.pure (.tf _)
  ·refine ag.no (decide_eq_false (by omega)) ?_
   have:a=b:=by
    apply List.ext_getElem hne
    intro k hk1 hk2
    have:=h2 k (by omega)
    simpa[List.getD,hk1,hk2]using this
   rw[decide_eq_true this]
   exact aq.pure (.tf _)
 ·refine ag.yes (vK (by omega)) ?_
  rw[decide_eq_false (fun h=>hne (by rw[h]))]
  exact aq.pure (.tf _)
theorem qP:nl 1=[1]:=by rw[fC (by omega),show 1/4294967296=0 by decide,cr]
theorem iu {H:Hp} {h:Nat} {T:TypeId} (hB:look H h= .vec T 1 [.int .u32 1]):Conv [] H (.vec h 1 0 1) (.p (bC 1)):=by
 show Conv _ _ _ (.p (.sl false 1 (bF (nl 1))))
 rw[qP]
 exact qK (l:=[1]) hB rfl
theorem Ab:au Tryz.prog 263 [] (.p (aJ 0)) []:=by
 refine aa (wr:=a9) a6 mixed Tryz.func263 (by kernel_rfl) rfl (by kernel_rfl) (af rfl) (by simp) ?_
 refine aq.pure ?_
 rw[dF]
 exact f8 ⟨rfl,rfl,rfl⟩ (.p _ (.bool _)) (.p _ (.sl _ _ (fun e he=>by simp at he))) (iu rfl)
theorem tD (p q:Rat) (hq0:q≠0) {j k:Nat} (hp:Bz p j) (hq:Bz q k) (h:j+k<=137438953472):au Tryz.prog 254 [aJ p,aJ q] (.p (aJ (p/q))) []:=by
 refine aa (wr:=a9) a6 mixed Tryz.func254 (by kernel_rfl) rfl (by kernel_rfl) (af rfl) (by simp) ?_
 refine ab.bg (fY p q hq0 hp.sz hq.sz h) (fun _=>rfl) ?_
 exact aq.pure (.p _ (aS _ _ _))
def ar (N:Nat) (g:Nat->Rat):List Rat:=(List.range N).map g
theorem az {N:Nat} {g:Nat->Rat}:(ar N g).length=N:=by simp[ar]
theorem bj {N:Nat} {g:Nat->Rat} {i:Nat} (h:i<N):(ar N g).getD i 0=g i:=by simp[ar,List.getD,h]
theorem DA {N:Nat} {g:Nat->Rat} {i:Nat} {q:Rat}:(ar N g).set i q=ar N (bz g i q):=by
 apply List.ext_getElem (by simp[ar])
 intro k h1 h2
 simp only[List.getElem_set,ar,List.getElem_map,List.getElem_range,bz]
 by_cases e:i=k
 ·rw[if_pos e,if_pos e.symm]
 ·rw[if_neg e,if_neg (Ne.symm e)]
theorem Cm (l:List Rat):l=ar l.length (fun i=>l.getD i 0):=by
 apply List.ext_getElem (by simp[ar])
 intro k h1 h2
 simp[ar,List.getD,h1]
theorem d5 {N:Nat} {g h:Nat->Rat} (e:∀i,i<N->g i=h i):ar N g=ar N h:=List.map_congr_left fun i hi=>e i (by simpa using hi)
theorem Bl.ar {N:Nat} {g:Nat->Rat} {k:Nat} (h:∀i,i<N->Bz (g i) k):Bl (ar N g) k:=fun i hi=>by
 rw[az]at hi
 rw[bj hi];exact h i hi
theorem aG.rf {N:Nat} {g:Nat->Rat} {i:Int} {K:Nat->PV->Prop} (j:Nat) (hi:i=j) (hj:j<N) (hk:K j (aJ (g j))):aG (bd (ar N g)) i K:=by
 refine .rb j hi (by rw[az];exact hj) ?_
 rw[bj hj];exact hk
theorem cH.rf {N:Nat} {g:Nat->Rat} {i:Nat} {q:Rat} {K:List PV->Prop} (hk:K (bd (ar N (bz g i q)))):cH ((bd (ar N g)).set i (aJ q)) K:=
 .mk _ (by rw[<-DA,bd,bd,List.map_set]) hk
theorem bT.rf {N:Nat} {g:Nat->Rat} {i:Nat} {K:Prop} (h:i<N) (hk:K):bT i (bd (ar N g)).length K:=.mk (by simpa[ar]using h) hk
theorem uZ {H:Hp} {h:Nat} {l:List Rat} {T:TypeId} {n:Nat} (hB:look H h= .vec T 3 (bd l)) (hn:n=l.length):Conv [] H (.vec h 3 0 n) (.p (ah false l)):=
 .ze hB (by simp) (by simp[hn]) (aB l) (by rw[List.drop_zero];exact List.take_of_length_le (by simp[hn]))
theorem bV.rat {n:Int} {K:Nat->Prop} (j:Nat) (hi:n=j) (h:j<=1099511627776) (hk:K j):bV n 56 K:=.mk j hi (by omega) (by omega) hk
theorem ab.fresh {P:Program} {wr:Bool} {f:FuncId} {L:Hd->aC} {base:Nat} {K:AV->List (Hd×aC)->Prop} {pvs:List PV} {T:TypeId} {W off len:Nat} {es:List PV} (hc:au P f pvs (.vec 0 W off len) [.vec T W es])
  (hk:K (.vec base W off len) [(base,.vec T W es)]) {raw:List AV}:ab P wr f raw (pvs.map .p) L base K:=
 .mk [] (pvs.map .p) (.vec 0 W off len) [] [.vec T W es] (fun _=>rfl) .nil (fun _ h=>by simp at h) (by rw[AV.bJ,List.map_map];exact List.map_congr_left fun _ _=>rfl) rfl (fun i h B e=>by simp at e) (fun _ h=>by simp at h) (fun _ h=>by simp at h) (Nat.zero_le _) (fun B h=>by simp at h;subst h;exact fun e=>by cases e)
  (fun a ha k hk=>by obtain⟨v,_,rfl⟩:=List.mem_map.1 ha;simp only[AV.aU]at hk) hc hk
theorem fg {H:Hp} {h:Nat} {B:aC} (hB:look H h=B) (hl:B.live):H.getD h .free=B:=by
 have hB:(H.getD h .free).top=B:=hB
 generalize H.getD h .free=C at hB
 cases C<;>first|exact hB|(subst hB;exact hl.elim)
theorem aq.new {av:AV} {H:Hp} {T:TypeId} {W off len:Nat} {es:List PV} (h:Nat) (hav:av= .vec h W off len) (h0:look H h= .vec T W es) (hp:∀e∈es,∀c∈e.cells,bZ c):aq [] av H (.vec 0 W off len) [.vec T W es]:=
 .mk [h] rfl (by simp) rfl (Nat.zero_le _) (fun h hl=>by rw[b6]at hl;exact hl.elim) (fun h hl=>absurd (b6 h) hl) (fun i h' B e1 e2=>by
  match i,e1,e2 with
  |0,e1,e2=>cases e1;cases e2;rw[fg h0 trivial];exact .vec hp) (by rw[hav];exact .vec rfl)
theorem qk (m:Bool) (l:List Rat) (i far:Nat) (hi:i<l.length) (hf:far<=i) {k:Nat} (hl:Bl l k) (hk:k+k+1<=137438953472) (hn:l.length<=1099511627776):au Tryz.prog 255 [ah m l,.int .i64 i,.int .i64 far] (.p (aJ (l.getD i 0-l.getD (i-far) 0))) []:=by
 refine aa (wr:=a9) a6 mixed Tryz.func255 (by kernel_rfl) rfl (by kernel_rfl) (af rfl) (by simp) ?_
 refine aO.mk (by kernel_rfl) ?_
 repeat refine aj.mk _ _ (And.intro rfl rfl) rfl ?_
 refine aj.mk _ _ (aG.rb i rfl hi (And.intro rfl rfl)) rfl ?_
 repeat refine aj.mk _ _ (And.intro rfl rfl) rfl ?_
 refine aj.mk _ _ (ae.ao ((i-far:Nat):Int) (by omega) (by omega) (And.intro rfl rfl)) rfl ?_
 refine aj.mk _ _ (aG.rb (i-far) rfl (by omega) (And.intro rfl rfl)) rfl ?_
 repeat refine aj.mk _ _ (And.intro rfl rfl) rfl ?_
 refine aj.mk _ _ (ab.pure (cn _ _ (hl i hi).sz (hl (i-far) (by omega)).sz hk) (And.intro rfl rfl)) rfl ?_
 repeat refine aj.mk _ _ (And.intro rfl rfl) rfl ?_
 exact aq.pure (.p _ (aS _ _ _))
abbrev cu:PV:=.agg [.bool false,.sl false 1 [],.sl false 1 []]
theorem BU {α:Type} (l:List α) (z v:α) {n i:Nat} (hi:i<n) (hl:l.length=i):(l++List.replicate (n-i) z).set i v=(l++[v])++List.replicate (n-(i+1)) z:=by
 subst hl
 rw[List.set_append_right _ _ (Nat.le_refl _),Nat.sub_self]
 obtain⟨d,hd⟩:∃d,n-l.length=d+1:=⟨n-l.length-1,by omega⟩
 rw[hd,List.replicate_succ,List.set_cons_zero,show n-(l.length+1)=d by omega,List.append_assoc]
 rfl
theorem qx (l:List Rat) {i:Nat} (h:i<l.length):l.take (i+1)=l.take i++[l.getD i 0]:=by
 rw[List.take_add_one];simp[List.getD,List.getElem?_eq_getElem h]
theorem bS:Bz 0 1:=⟨by decide,by decide⟩
theorem cR:Bz 1 1:=⟨by decide,by decide⟩
theorem xq (m:Bool) (l:List Rat) {k:Nat} (hl:Bl l k) (hk:k<=1048576) (hn:l.length<=1099511627776):au Tryz.prog 253 [ah m l] (.vec 0 3 0 l.length) [.vec 38 3 (bd l)]:=by
 refine aa (wr:=a9) a6 mixed Tryz.func253 (by kernel_rfl) rfl (by kernel_rfl) (af rfl) (by simp) ?_
 refine SZ.mk (l.length:Int) (by simp) ?_
 refine SZ.mk (l.length:Int) rfl ?_
 refine bT.mk (by simp) ?_
 refine bV.rat l.length rfl hn ?_
 refine SZ.mk (l.length:Int) (by simp) ?_
 refine aM.mk Nat (fun i=>([(3,.vec 0 3 0 l.length),(9,.p (ah m l)),(10,.p (.int .i64 l.length)),(11,.p (.int .i64 i))],[.vec 38 3 (bd (l.take i)++List.replicate (l.length-i) cu)]))
  (fun i=>i<=l.length) (fun i=>l.length-i) 0 [0] (Nat.zero_le _) ⟨rfl,by simp,rfl,rfl,rfl,⟨rfl,rfl,rfl,rfl,trivial⟩,⟨rfl,trivial⟩⟩ ?_
 intro i h1
 have h1:i<=l.length:=h1
 by_cases hi:i<l.length
 ·refine ag.yes (decide_eq_true (by omega)) ?_
  refine aG.rb i rfl hi ?_
  refine aO.mk (by kernel_rfl) ?_
  repeat refine aj.mk _ _ (And.intro rfl rfl) rfl ?_
  refine aj.mk _ _ (ab.pure (Ab) (And.intro rfl rfl)) rfl ?_
  refine aj.mk _ _ (ab.pure (dZ _ _ (hl i hi).sz bS.sz (by omega)) (And.intro rfl rfl)) rfl ?_
  rw[Rat.add_zero]
  refine aj.mk _ _ (aI.mk i rfl hi (And.intro rfl rfl)) rfl ?_
  refine aj.mk _ _ (bT.mk (by simp;omega)<|cH.mk _ (BU _ _ _ hi (by simp;omega)) (And.intro rfl rfl)) rfl ?_
  refine ae.ao ((i+1:Nat):Int) (by omega) (by omega) ?_
  refine⟨i+1,[0],hi,by show l.length-(i+1)<l.length-i;omega,⟨rfl,by simp,rfl,rfl,rfl,⟨rfl,rfl,rfl,rfl,trivial⟩,⟨?_,trivial⟩⟩⟩
  show aC.vec _ _ _=aC.vec _ _ _
  rw[qx l hi,bd,bd,List.map_append]
  rfl
 ·refine ag.no (decide_eq_false (by omega)) ?_
  have:i=l.length:=by omega
  subst this
  refine aq.new 0 rfl ?_ (aB l)
  simp[look]
theorem pZ (m:Bool) (a:Nat) (ha:aL a<=1099511627776):au Tryz.prog 98 [bK m a] (.p (.bool true)) []:=by
 refine aa (wr:=a9) a6 mixed Tryz.func98 (by kernel_rfl) rfl (by kernel_rfl) (af rfl) (by simp) ?_
 refine SZ.mk (aL a:Int) (by simp) ?_
 by_cases h0:a=0
 ·refine ag.yes (kV (by rw[aR.2 h0];rfl)) ?_
  exact aq.pure (.tf _)
 ·have h1:aL a≠0:=mt aR.1 h0
  refine ag.no (kL (by omega)) ?_
  refine SZ.mk (aL a:Int) (by simp) ?_
  refine ae.ao ((aL a-1:Nat):Int) (by omega) (by omega) ?_
  refine aG.lb (aL a-1) rfl (by show aL a-1<aL a;omega) ?_
  have h2:(nl a).getD (aL a-1) 0≠0:=kY h0
  refine ag.yes (vK (by omega)) ?_
  exact aq.pure (.tf _)
theorem dS (q:Rat) {k:Nat} (hq:Sz q k) (hk:k<=137438953472):au Tryz.prog 41 [aJ q] (.p (.bool true)) []:=by
 refine aa (wr:=a9) a6 mixed Tryz.func41 (by kernel_rfl) rfl (by kernel_rfl) (af rfl) (by simp) ?_
 have hn:aL q.num.natAbs<=137438953472:=by have:=hq.1;omega
 have hd:aL q.den<=137438953472:=by have:=hq.2;omega
 have hd0:aL q.den≠0:=fun h=>q.den_nz (aR.1 h)
 refine ab.pure (pZ false q.num.natAbs (by omega)) ?_
 refine ag.no (rfl) ?_
 refine ab.pure (pZ false q.den (by omega)) ?_
 refine ag.no (rfl) ?_
 refine SZ.mk (aL q.den:Int) (by simp) ?_
 refine ag.no (kL (by omega)) ?_
 refine SZ.mk (aL q.num.natAbs:Int) (by simp) ?_
 have n1:aL 1<=549755813888:=Nat.le_trans (cB 1) (by decide)
 by_cases h0:q=0
 ·subst h0
  refine ag.yes (kV (by rw[show(0:Rat).num.natAbs=0 from rfl,aR.2 rfl];rfl)) ?_
  have c1:=mw false false 1 1 n1 n1
  rw[show cP 1 1=0 by decide]at c1
  refine aO.mk (by kernel_rfl) ?_
  repeat refine aj.mk _ _ (And.intro rfl rfl) rfl ?_
  refine aj.mk _ _ (ag.yes rfl (And.intro rfl rfl)) rfl ?_
  repeat refine aj.mk _ _ (And.intro rfl rfl) rfl ?_
  refine aj.mk _ _ (ab.pure (vE) (And.intro rfl rfl)) rfl ?_
  refine aj.mk _ _ (ab.pure (c1) (And.intro rfl rfl)) rfl ?_
  refine aj.mk _ _ (ag.yes rfl (And.intro rfl rfl)) rfl ?_
  repeat refine aj.mk _ _ (And.intro rfl rfl) rfl ?_
  exact aq.pure (.tf _)
 ·have hnz:aL q.num.natAbs≠0:=fun h=>h0 (Rat.num_eq_zero.1 (by have:=aR.1 h;omega))
  refine ag.no (kL (by omega)) ?_
  have c1:=Ac false false q.num.natAbs q.den hn hd
  rw[show Nat.gcd q.num.natAbs q.den=1 from q.reduced]at c1
  have c2:=mw false false 1 1 n1 n1
  rw[show cP 1 1=0 by decide]at c2
  refine ab.pure (c1) ?_
  refine ab.pure (vE) ?_
  refine ab.pure (c2) ?_
  refine ag.yes (rfl) ?_
  exact aq.pure (.tf _)
theorem a5.all {b:PV->Bool} {es:List (PV×PV)} {K:Prop} (h:es.all (fun e=>b e.1)=true) (hk:K):a5 b es K:=
 .mk (fun e he=>List.all_eq_true.1 h e he) hk
theorem dc.add {es:List (PV×PV)} {k v:PV} {K:List (PV×PV)->Prop} (h:es.all (fun e=> !PV.f9 k e.1)=true) (hk:K (es++[(k,v)])):dc es k v K:=
 .new _ (fun e he=>by have:=List.all_eq_true.1 h e he;simpa using this) rfl hk
theorem cd.at {es:List (PV×PV)} {k:PV} {K:Option PV->Prop} (i:Nat) (e:PV×PV) (h:es[i]?=some e) (he:PV.f9 k e.1=true) (hf:es.zipIdx.all (fun x=>Nat.beq x.2 i|| !PV.f9 k x.1.1)=true) (hk:K (some e.2)):cd es k K:=
 .yes i e h he (fun j e' hj hj'=>by
  have:=List.all_eq_true.1 hf (e',j) (List.mem_zipIdx_iff_getElem?.2 hj')
  simpa[hj]using this) hk
theorem cd.none {es:List (PV×PV)} {k:PV} {K:Option PV->Prop} (h:es.all (fun e=> !PV.f9 k e.1)=true) (hk:K Option.none):cd es k K:=
 .no (fun e he=>by have:=List.all_eq_true.1 h e he;simpa using this) hk
theorem CM (m:Bool) (a b:Rat) {k:Nat} (ha:Bz a k) (hb:Bz b k) (hk:k+k<=1048576):au Tryz.prog 262 [aJ b,.eT m (aJ a)] (.p (.bool (decide (a=b)))) []:=by
 refine aa (wr:=a9) a6 mixed Tryz.func262 (by kernel_rfl) rfl (by kernel_rfl) (af rfl) (by simp) ?_
 refine ab.pure (o8 a b ha.sz hb.sz (by omega)) ?_
 exact aq.pure (.p _ (.bool _))
def rV (a:Rat):List Rat->Nat->Int
 |[],_=> -1
 |v::l,i=>if a=v then(i:Int)else rV a l (i+1)
theorem BD (a:Rat):∀(l:List Rat) (i:Nat),(0<=rV a l i)↔a∈l:=by
 intro l
 induction l with
 |nil=>intro i;simp[rV]
 |cons v l ih=>
  intro i
  simp only[rV,List.mem_cons]
  split
  ·rename_i h;simp[h]
  ·rename_i h;rw[ih];simp[h]
theorem drop_cons (l:List Rat) {i:Nat} (h:i<l.length):l.drop i=l.getD i 0::l.drop (i+1):=by
 rw[List.drop_eq_getElem_cons h];simp[List.getD,h]
theorem xV (m m':Bool) (l:List Rat) (a:Rat) {k:Nat} (hl:Bl l k) (ha:Bz a k) (hk:k+k<=1048576) (hn:l.length<=1099511627776):
  au Tryz.prog 268 [ah m l,.fn 262 [.eT m' (aJ a)]] (.p (.int .i64 (rV a l 0))) []:=by
 refine aa (wr:=a9) a6 mixed Tryz.func268 (by kernel_rfl) rfl (by kernel_rfl) (af rfl) (by simp) ?_
 refine SZ.mk (l.length:Int) (by simp) ?_
 refine aM.mk Nat (fun i=>([(0,.p (ah m l)),(1,.p (.fn 262 [.eT m' (aJ a)])),(7,.p (.int .i64 l.length)),(8,.p (.int .i64 i))],[]))
  (fun i=>i<=l.length/\rV a l 0=rV a (l.drop i) i) (fun i=>l.length-i) 0 [] ⟨Nat.zero_le _,rfl⟩ ⟨rfl,.nil,rfl,rfl,rfl,⟨rfl,rfl,rfl,rfl,trivial⟩,trivial⟩ ?_
 intro i ⟨h1,h2⟩
 by_cases hi:i<l.length
 ·refine ag.yes (decide_eq_true (by omega)) ?_
  refine aG.rb i rfl hi ?_
  refine ab.pure (pvs:=[aJ (l.getD i 0),.eT m' (aJ a)]) (CM m' a (l.getD i 0) ha (hl i hi) hk) ?_
  rw[drop_cons l hi,rV]at h2
  refine a8.mk (fun hb=>?_) (fun hb=>?_)
  ·rw[h2,if_pos (of_decide_eq_true hb)]
   exact aq.pure (.p _ (.int _ _))
  ·rw[if_neg (of_decide_eq_false hb)]at h2
   refine ae.ao ((i+1:Nat):Int) (by omega) (by omega) ?_
   exact⟨i+1,[],⟨hi,h2⟩,by show l.length-(i+1)<l.length-i;omega,⟨rfl,.nil,rfl,rfl,rfl,⟨rfl,rfl,rfl,rfl,trivial⟩,trivial⟩⟩
 ·refine ag.no (decide_eq_false (by omega)) ?_
  have:i=l.length:=by omega
  subst this
  rw[h2,List.drop_length,rV]
  exact aq.pure (.p _ (.int _ _))
theorem ra (m m':Bool) (l:List Rat) (a:Rat) {k:Nat} (hl:Bl l k) (ha:Bz a k) (hk:k+k<=1048576) (hn:l.length<=1099511627776):
  au Tryz.prog 261 [ah m l,.fn 262 [.eT m' (aJ a)]] (.p (.bool (decide (a∈l)))) []:=by
 refine aa (wr:=a9) a6 mixed Tryz.func261 (by kernel_rfl) rfl (by kernel_rfl) (af rfl) (by simp) ?_
 refine ab.pure (xV m m' l a hl ha hk hn) ?_
 have:=BD a l 0
 by_cases h:a∈l
 ·refine ag.yes (decide_eq_true (this.2 h)) ?_
  rw[decide_eq_true h]
  exact aq.pure (.tf true)
 ·refine ag.no (decide_eq_false (mt this.1 h)) ?_
  rw[decide_eq_false h]
  exact aq.pure (.tf false)
theorem Bl.take {l:List Rat} {k:Nat} (h:Bl l k) (n:Nat):Bl (l.take n) k:=fun i hi=>by
 rw[List.length_take]at hi
 have:(l.take n).getD i 0=l.getD i 0:=by simp[List.getD,show i<n by omega]
 rw[this];exact h i (by omega)
def d9 (x f:List Rat):Int:=if x.length=0\/x.length≠f.length then 3 else if x.Nodup then 0 else 9
theorem sO (m m':Bool) (x f:List Rat) {k:Nat} (hx:Bl x k) (hk:k+k<=1048576) (hn:x.length<=1099511627776):
  au Tryz.prog 252 [ah m x,ah m' f] (.p (.int .i64 (d9 x f))) []:=by
 refine aa (wr:=a9) a6 mixed Tryz.func252 (by kernel_rfl) rfl (by kernel_rfl) (af rfl) (by simp) ?_
 refine SZ.mk (x.length:Int) (by simp) ?_
 by_cases h0:x.length=0
 ·refine ag.yes (kV (by omega)) ?_
  rw[d9,if_pos (.inl h0)]
  exact aq.pure (.p _ (.int _ _))
 ·refine ag.no (kL (by omega)) ?_
  refine SZ.mk (x.length:Int) (by simp) ?_
  refine SZ.mk (f.length:Int) (by simp) ?_
  refine SZ.mk (x.length:Int) (by simp) ?_
  refine SZ.mk (x.length:Int) (by simp) ?_
  by_cases hl:x.length=f.length
  ·refine ag.no (by simp[hl]) ?_
   rw[d9,if_neg (by omega)]
   refine SZ.mk (x.length:Int) (by simp) ?_
   refine aM.mk Nat (fun i=>([(0,.p (ah m x)),(23,.p (ah m x)),(24,.p (.int .i64 x.length)),(25,.p (.int .i64 i))],[])) (fun i=>i<=x.length/\(x.take i).Nodup) (fun i=>x.length-i) 0 []
    ⟨Nat.zero_le _,List.nodup_nil⟩ ⟨rfl,.nil,rfl,rfl,rfl,⟨rfl,rfl,rfl,rfl,trivial⟩,trivial⟩ ?_
   intro i ⟨h1,h2⟩
   by_cases hi:i<x.length
   ·refine ag.yes (decide_eq_true (by omega)) ?_
    refine aG.rb i rfl hi ?_
    refine SZ.mk (i:Int) rfl ?_
    refine bT.mk (by simp) ?_
    refine fp.mk 0 i rfl rfl (by omega) (by simp;omega) ?_
    refine cH.mk (bd (x.take i)) (by simp[List.map_take]) ?_
    have hc:=ra m true (x.take i) (x.getD i 0) (hx.take i) (hx i hi) hk (by simp;omega)
    refine ab.pure (pvs:=[ah m (x.take i),.fn 262 [.eT true (aJ (x.getD i 0))]]) hc ?_
    have hnd:(x.take (i+1)).Nodup↔x.getD i 0∉x.take i:=by
     rw[qx x hi,List.nodup_append]
     simp[h2]
     constructor
     ·intro h hm;exact h _ hm rfl
     ·intro h a ha e;exact h (e▸ha)
    refine a8.mk (fun hb=>?_) (fun hb=>?_)
    ·have hb:=of_decide_eq_true hb
     rw[if_neg (fun hx=>(hnd.1 (hx.sublist (List.take_sublist _ _))) hb)]
     exact aq.pure (.p _ (.int _ _))
    ·have hb:=of_decide_eq_false hb
     refine ae.ao ((i+1:Nat):Int) (by omega) (by omega) ?_
     exact⟨i+1,[],⟨hi,hnd.2 hb⟩,by show x.length-(i+1)<x.length-i;omega,⟨rfl,.nil,rfl,rfl,rfl,⟨rfl,rfl,rfl,rfl,trivial⟩,trivial⟩⟩
   ·refine ag.no (decide_eq_false (by omega)) ?_
    rw[List.take_of_length_le (by omega)]at h2
    rw[if_pos h2]
    exact aq.pure (.p _ (.int _ _))
  ·refine ag.yes (by simp;omega) ?_
   rw[d9,if_pos (.inr hl)]
   exact aq.pure (.p _ (.int _ _))
def iter {α:Type} (f:Nat->α->α):Nat->α->α
 |0,c=>c
 |k+1,c=>f k (iter f k c)
def dv (x:Nat->Rat) (k:Nat) (c:Nat->Rat):Nat->Rat:=fun m=>if k<m then(c m-c (m-1))/(x m-x (m-(k+1)))else c m
def cL (x:Nat->Rat) (n k:Nat) (c:Nat->Rat):Nat->Rat:=fun m=>if k<=m/\m<n then c m-x k*c (m+1)else c m
def pH (x:Nat->Rat) (n:Nat) (f:Nat->Rat):Nat->Rat:=iter (fun r=>cL x n (n-1-r)) n (iter (dv x) n f)
def bs (t b:Nat):Nat->Nat
 |0=>b
 |r+1=>2*bs t b r+t
theorem eC {t b:Nat} {i j:Nat} (h:i<=j):bs t b i<=bs t b j:=by
 induction j with
 |zero=>rw[Nat.le_zero.1 h];exact Nat.le_refl _
 |succ j ih=>
  by_cases e:i=j+1
  ·rw[e];exact Nat.le_refl _
  ·have:=ih (by omega)
   simp only[bs];omega
def nj (i:Nat) (new dh:Nat->Rat):Nat->Rat:=fun m=>if i<m then new m else dh m
def lp (i:Nat) (new dh:Nat->Rat):Nat->Rat:=fun m=>if m<i then new m else dh m
theorem iD {i m:Nat} {new dh:Nat->Rat} (h:m<=i):nj i new dh m=dh m:=if_neg (by omega)
theorem k3 {i m:Nat} {new dh:Nat->Rat} (h:i<=m):lp i new dh m=dh m:=if_neg (by omega)
theorem sC {i:Nat} {new dh:Nat->Rat} (h:i≠0):bz (nj i new dh) i (new i)=nj (i-1) new dh:=by
 funext m
 simp only[bz,nj]
 by_cases e:m=i
 ·subst e;rw[if_pos rfl,if_pos (by omega)]
 ·rw[if_neg e]
  by_cases h1:i<m
  ·rw[if_pos h1,if_pos (by omega)]
  ·rw[if_neg h1,if_neg (by omega)]
theorem tw {i:Nat} {new dh:Nat->Rat}:bz (lp i new dh) i (new i)=lp (i+1) new dh:=by
 funext m
 simp only[bz,lp]
 by_cases e:m=i
 ·subst e;rw[if_pos rfl,if_pos (by omega)]
 ·rw[if_neg e]
  by_cases h1:m<i
  ·rw[if_pos h1,if_pos (by omega)]
  ·rw[if_neg h1,if_neg (by omega)]
theorem aG.rv {N:Nat} {g:Nat->Rat} {i:Int} {K:Nat->PV->Prop} (j:Nat) (v:Rat) (hi:i=j) (hj:j<N) (hv:g j=v) (hk:K j (aJ v)):aG (bd (ar N g)) i K:=by
 subst hv;exact .rf j hi hj hk
theorem cH.rv {N:Nat} {g:Nat->Rat} {i:Nat} {q:Rat} {K:List PV->Prop} (g':Nat->Rat) (h:bz g i q=g') (hk:K (bd (ar N g'))):cH ((bd (ar N g)).set i (aJ q)) K:=by
 subst h;exact .rf hk
theorem ka {T:TypeId} {W N:Nat} {g h:Nat->Rat} (e:∀i,i<N->g i=h i):aC.vec T W (bd (ar N g))= .vec T W (bd (ar N h)):=by rw[d5 e]
theorem Cg {a b:Rat} (h:a≠b):a-b≠0:=fun e=>h (by grind)
theorem uP (m m':Bool) (n:Nat) (x f:Nat->Rat) {s b:Nat} (hx:∀i,i<n+1->Bz (x i) s) (hf:∀i,i<n+1->Bz (f i) b) (hd:∀i j,i<n+1->j<n+1->x i=x j->i=j)
  (hb:bs (2*s+2) b (n+n+1)<=1048576) (hn:n<=1000000000):
  au Tryz.prog 235 [ah m (ar (n+1) x),ah m' (ar (n+1) f)] (.p (ah false (ar (n+1) (pH x n f)))) []:=by
 refine aa (wr:=a9) a6 mixed Tryz.func235 (by kernel_rfl) rfl (by kernel_rfl) (af rfl) (by simp) ?_
 obtain⟨t,ht⟩:∃t,t=2*s+2:=⟨_,rfl⟩
 rw[<-ht]at hb
 have hB:∀r,r<=n+n->2*bs t b r+t<=1048576:=fun r hr=>Nat.le_trans (eC (t:=t) (b:=b) (show r+1<=n+n+1 by omega)) hb
 have ho:=xq m' (ar (n+1) f) (Bl.ar hf) (k:=b) (by have:=hB 0 (by omega);simp only[bs]at this;omega) (by rw[az];omega)
 rw[az]at ho
 refine ab.fresh ho ?_
 refine SZ.mk ((n+1:Nat):Int) rfl ?_
 refine ae.ao (n:Int) (by omega) (by omega) ?_
 obtain⟨X,hX⟩:∃X,X=ar (n+1) x:=⟨_,rfl⟩
 have hXl:X.length=n+1:=by rw[hX,az]
 have hXB:Bl X s:=by rw[hX];exact Bl.ar hx
 have hXg:∀i,i<n+1->X.getD i 0=x i:=fun i hi=>by rw[hX,bj hi]
 rw[<-hX]
 refine aM.mk Nat (fun k=>([(0,.p (ah m X)),(5,.vec 0 3 0 (n+1)),(6,.p (.int .i64 n)),(16,.p (.int .i64 n)),(17,.p (.int .i64 k))],[.vec 38 3 (bd (ar (n+1) (iter (dv x) k f)))]))
  (fun k=>k<=n/\∀i,i<n+1->Bz (iter (dv x) k f i) (bs t b k)) (fun k=>n-k) 0 [0] ⟨Nat.zero_le _,hf⟩
  ⟨rfl,by simp,rfl,rfl,rfl,⟨rfl,rfl,rfl,rfl,rfl,trivial⟩,⟨rfl,trivial⟩⟩ ?_
 intro k ⟨h1,h2⟩
 by_cases hk:k<n
 ·refine ag.yes (decide_eq_true (by omega)) ?_
  obtain⟨dh,hold⟩:∃dh,dh=iter (dv x) k f:=⟨_,rfl⟩
  rw[<-hold]at h2
  rw[<-hold]
  have hBk:=hB k (by omega)
  refine aM.mk Nat (fun i=>([(0,.p (ah m X)),(5,.vec 0 3 0 (n+1)),(6,.p (.int .i64 n)),(7,.p (.int .i64 k)),(8,.p (.int .i64 i)),(16,.p (.int .i64 n)),(17,.p (.int .i64 k))],[.vec 38 3 (bd (ar (n+1) (nj i (dv x k dh) dh)))]))
   (fun i=>k<=i/\i<=n/\∀j,j<n+1->i<j->Bz (dv x k dh j) (bs t b (k+1))) id n [0] ⟨by omega,Nat.le_refl _,fun j h1 h2=>by omega⟩
   ⟨rfl,by simp,rfl,rfl,rfl,⟨rfl,rfl,rfl,rfl,rfl,rfl,rfl,trivial⟩,⟨ka fun i hi=>iD (by omega),trivial⟩⟩ ?_
  intro i ⟨g1,g2,g3⟩
  by_cases hi:k<i
  ·refine ag.yes (decide_eq_true (by omega)) ?_
   have hA:=qk m X i (k+1) (by omega) (by omega) hXB (by omega) (by omega)
   rw[hXg i (by omega),hXg (i-(k+1)) (by omega)]at hA
   have hne:x i-x (i-(k+1))≠0:=Cg fun e=>by have:=hd _ _ (by omega) (by omega) e;omega
   have z1:=h2 i (by omega)
   have z2:=h2 (i-1) (by omega)
   have z3:=z1.sub z2
   have z4:=(hx i (by omega)).sub (hx (i-(k+1)) (by omega))
   refine aO.mk (by kernel_rfl) ?_
   repeat refine aj.mk _ _ (And.intro rfl rfl) rfl ?_
   refine aj.mk _ _ (aI.mk i rfl (by omega) (And.intro rfl rfl)) rfl ?_
   refine aj.mk _ _ (aG.rv i (dh i) rfl (by omega) (iD (by omega)) (And.intro rfl rfl)) rfl ?_
   repeat refine aj.mk _ _ (And.intro rfl rfl) rfl ?_
   refine aj.mk _ _ (ae.ao ((i-1:Nat):Int) (by omega) (by omega) (And.intro rfl rfl)) rfl ?_
   refine aj.mk _ _ (aI.mk (i-1) rfl (by omega) (And.intro rfl rfl)) rfl ?_
   refine aj.mk _ _ (aG.rv (i-1) (dh (i-1)) rfl (by omega) (iD (by omega)) (And.intro rfl rfl)) rfl ?_
   repeat refine aj.mk _ _ (And.intro rfl rfl) rfl ?_
   refine aj.mk _ _ (ab.pure (cn _ _ z1.sz z2.sz (by omega)) (And.intro rfl rfl)) rfl ?_
   repeat refine aj.mk _ _ (And.intro rfl rfl) rfl ?_
   refine aj.mk _ _ (ae.ao ((k+1:Nat):Int) (by omega) (by omega) (And.intro rfl rfl)) rfl ?_
   refine aj.mk _ _ (ab.pure (hA) (And.intro rfl rfl)) rfl ?_
   refine aj.mk _ _ (ab.pure (tD _ _ hne z3 z4 (by omega)) (And.intro rfl rfl)) rfl ?_
   have hnew:dv x k dh i=(dh i-dh (i-1))/(x i-x (i-(k+1))):=if_pos hi
   refine aj.mk _ _ (aI.mk i rfl (by omega) (And.intro rfl rfl)) rfl ?_
   refine aj.mk _ _ (bT.rf (show i+0<n+1 by omega)<|cH.rv (nj (i-1) (dv x k dh) dh) (by rw[<-hnew];exact sC (by omega)) (And.intro rfl rfl)) rfl ?_
   refine ae.ao ((i-1:Nat):Int) (by omega) (by omega) ?_
   refine⟨i-1,[0],⟨by omega,by omega,fun j hj1 hj2=>?_⟩,by show i-1<i;omega,⟨rfl,by simp,rfl,rfl,rfl,⟨rfl,rfl,rfl,rfl,rfl,rfl,rfl,trivial⟩,⟨rfl,trivial⟩⟩⟩
   by_cases e:j=i
   ·rw[e,hnew]
    refine(z3.div z4).mono ?_
    simp only[bs];omega
   ·exact g3 j hj1 (by omega)
  ·refine ag.no (decide_eq_false (by omega)) ?_
   have hik:i=k:=by omega
   subst hik
   refine ae.ao ((i+1:Nat):Int) (by omega) (by omega) ?_
   have hmix:nj i (dv x i dh) dh=iter (dv x) (i+1) f:=by
    funext m
    rw[iter,<-hold]
    unfold nj
    split
    ·rfl
    ·rename_i h;rw[dv,if_neg h]
   refine⟨i+1,[0],⟨hk,fun j hj=>?_⟩,by show n-(i+1)<n-i;omega,⟨rfl,by simp,rfl,rfl,rfl,⟨rfl,rfl,rfl,rfl,rfl,trivial⟩,⟨congrArg (fun g=>aC.vec 38 3 (bd (ar (n+1) g))) hmix.symm,trivial⟩⟩⟩
   rw[iter,<-hold]
   by_cases e:i<j
   ·exact g3 j hj e
   ·rw[dv,if_neg e]
    exact(h2 j hj).mono (eC (Nat.le_succ _))
 ·refine ag.no (decide_eq_false (by omega)) ?_
  have hkn:k=n:=by omega
  subst hkn
  obtain⟨c1,hc1⟩:∃c1,c1=iter (dv x) k f:=⟨_,rfl⟩
  rw[<-hc1]at h2
  rw[<-hc1]
  have hthr:pH x k f=iter (fun r=>cL x k (k-1-r)) k c1:=by rw[pH,hc1]
  rw[hthr]
  refine ae.ao ((k:Int)-1) rfl (by omega) ?_
  refine aM.mk (Nat×Int) (fun(j,z)=>([(0,.p (ah m X)),(5,.vec 0 3 0 (k+1)),(6,.p (.int .i64 k)),(9,.p (.int .i64 z))],[.vec 38 3 (bd (ar (k+1) (iter (fun r=>cL x k (k-1-r)) (k-j) c1)))]))
   (fun(j,z)=>j<=k/\z=(j:Int)-1/\∀i,i<k+1->Bz (iter (fun r=>cL x k (k-1-r)) (k-j) c1 i) (bs t b (k+(k-j)))) (fun x=>x.1) (k,(k:Int)-1) [0] ⟨Nat.le_refl _,rfl,by rw[Nat.sub_self];exact h2⟩
   ⟨rfl,by simp,rfl,rfl,rfl,⟨rfl,rfl,rfl,rfl,trivial⟩,⟨by rw[Nat.sub_self];rfl,trivial⟩⟩ ?_
  intro⟨j,z⟩ ⟨g1,g2,g3⟩
  by_cases hj:j=0
  ·subst hj
   refine ag.no (decide_eq_false (by omega)) ?_
   exact aq.pure (uZ rfl (by rw[az]))
  ·obtain⟨q,rfl⟩:=Nat.exists_eq_succ_of_ne_zero hj
   have hz:z=(q:Int):=by omega
   subst hz
   refine ag.yes (decide_eq_true (by omega)) ?_
   obtain⟨dh,hold⟩:∃dh,dh=iter (fun r=>cL x k (k-1-r)) (k-(q+1)) c1:=⟨_,rfl⟩
   have g3:∀i,i<k+1->Bz (dh i) (bs t b (k+(k-(q+1)))):=by rw[hold];exact g3
   have hBk:=hB (k+(k-(q+1))) (by omega)
   have hnext:iter (fun r=>cL x k (k-1-r)) (k-q) c1=cL x k q dh:=by
    rw[show k-q=(k-(q+1))+1 by omega,iter,<-hold,show k-1-(k-(q+1))=q by omega]
   refine aM.mk Nat (fun i=>([(0,.p (ah m X)),(5,.vec 0 3 0 (k+1)),(6,.p (.int .i64 k)),(9,.p (.int .i64 q)),(10,.p (.int .i64 i))],[.vec 38 3 (bd (ar (k+1) (lp i (cL x k q dh) dh)))]))
    (fun i=>q<=i/\i<=k/\∀j,j<i->Bz (cL x k q dh j) (bs t b (k+(k-q)))) (fun i=>k-i) q [0]
    ⟨Nat.le_refl _,by omega,fun j hj=>?_⟩
    ⟨rfl,by simp,rfl,rfl,rfl,⟨rfl,rfl,rfl,rfl,rfl,trivial⟩,⟨?_,trivial⟩⟩ ?_
   ·rw[cL,if_neg (by omega)]
    exact(g3 j (by omega)).mono (eC (by omega))
   ·show aC.vec _ _ _=aC.vec _ _ _
    rw[show k-q.succ=k-(q+1)from rfl,<-hold]
    refine ka fun i hi=>?_
    unfold lp
    split
    ·rename_i h;rw[cL,if_neg (by omega)]
    ·rfl
   ·intro i ⟨e1,e2,e3⟩
    by_cases hi:i<k
    ·refine ag.yes (decide_eq_true (by omega)) ?_
     have z1:=g3 i (by omega)
     have z2:=g3 (i+1) (by omega)
     have z3:=(hx q (by omega)).mul z2
     have hnew:cL x k q dh i=dh i-x q*dh (i+1):=if_pos ⟨e1,hi⟩
     refine aO.mk (by kernel_rfl) ?_
     repeat refine aj.mk _ _ (And.intro rfl rfl) rfl ?_
     refine aj.mk _ _ (aI.mk i rfl (by omega) (And.intro rfl rfl)) rfl ?_
     refine aj.mk _ _ (aG.rv i (dh i) rfl (by omega) (k3 (by omega)) (And.intro rfl rfl)) rfl ?_
     repeat refine aj.mk _ _ (And.intro rfl rfl) rfl ?_
     refine aj.mk _ _ (aG.rb q rfl (by omega) (And.intro rfl rfl)) rfl ?_
     repeat refine aj.mk _ _ (And.intro rfl rfl) rfl ?_
     rw[hXg q (by omega)]
     refine aj.mk _ _ (ae.ao ((i+1:Nat):Int) (by omega) (by omega) (And.intro rfl rfl)) rfl ?_
     refine aj.mk _ _ (aI.mk (i+1) rfl (by omega) (And.intro rfl rfl)) rfl ?_
     refine aj.mk _ _ (aG.rv (i+1) (dh (i+1)) rfl (by omega) (k3 (by omega)) (And.intro rfl rfl)) rfl ?_
     refine aj.mk _ _ (ab.pure (b9 _ _ (hx q (by omega)).sz z2.sz (by omega)) (And.intro rfl rfl)) rfl ?_
     refine aj.mk _ _ (ab.pure (cn _ _ z1.sz z3.sz (by omega)) (And.intro rfl rfl)) rfl ?_
     refine aj.mk _ _ (aI.mk i rfl (by omega) (And.intro rfl rfl)) rfl ?_
     refine aj.mk _ _ (bT.rf (show i+0<k+1 by omega)<|cH.rv (lp (i+1) (cL x k q dh) dh) (by rw[<-hnew];exact tw) (And.intro rfl rfl)) rfl ?_
     refine ae.ao ((i+1:Nat):Int) (by omega) (by omega) ?_
     refine⟨i+1,[0],⟨by omega,hi,fun j hj=>?_⟩,by show k-(i+1)<k-i;omega,⟨rfl,by simp,rfl,rfl,rfl,⟨rfl,rfl,rfl,rfl,rfl,trivial⟩,⟨rfl,trivial⟩⟩⟩
     by_cases e:j=i
     ·rw[e,hnew]
      refine(z1.sub z3).mono ?_
      rw[show k+(k-q)=k+(k-(q+1))+1 by omega]
      simp only[bs];omega
     ·exact e3 j (by omega)
    ·refine ag.no (decide_eq_false (by omega)) ?_
     have hik:i=k:=by omega
     subst hik
     refine ae.ao ((q:Int)-1) rfl (by omega) ?_
     have hmix:lp i (cL x i q dh) dh=iter (fun r=>cL x i (i-1-r)) (i-q) c1:=by
      rw[hnext]
      funext m
      unfold lp
      split
      ·rfl
      ·rename_i h;rw[cL,if_neg (by omega)]
     refine⟨(q,(q:Int)-1),[0],⟨by omega,rfl,fun j hj=>?_⟩,Nat.lt_succ_self q,⟨rfl,by simp,rfl,rfl,rfl,⟨rfl,rfl,rfl,rfl,trivial⟩,⟨congrArg (fun g=>aC.vec 38 3 (bd (ar (i+1) g))) hmix.symm,trivial⟩⟩⟩
     rw[hnext]
     by_cases e:j<i
     ·exact e3 j e
     ·rw[cL,if_neg (by omega)]
      exact(g3 j hj).mono (eC (by omega))
theorem DN (g:FuncId) (m m':Bool) (x f:List Rat) {k:Nat} (hx:Bl x k) (hk:k+k<=1048576) (hn:x.length<=1099511627776) (r:List Rat)
  (hc:d9 x f=0->au Tryz.prog g [ah m x,ah m' f] (.p (ah false r)) []):
  au Tryz.prog 234 [ah m x,ah m' f,.fn g []] (if d9 x f=0 then .bq [.p (ah false r),.p (.int .i64 0)]else .bq [.p (ah false []),.p (.int .i64 (d9 x f))]) []:=by
 refine aa (wr:=a9) a6 mixed Tryz.func234 (by kernel_rfl) rfl (by kernel_rfl) (af rfl) (by simp) ?_
 refine ab.pure (sO m m' x f hx hk hn) ?_
 by_cases h:d9 x f=0
 ·rw[if_pos h]
  refine ag.no (f0 h) ?_
  refine ab.pure (pvs:=[ah m x,ah m' f]) (hc h) ?_
  exact aq.pure (.bq rfl fun i c d e1 e2=>by
   match i,e1,e2 with
   |0,e1,e2=>cases e1;cases e2;exact .p _ (.sl _ _ (aB _))
   |1,e1,e2=>cases e1;cases e2;exact .p _ (.int _ _))
 ·rw[if_neg h]
  refine ag.yes (vK h) ?_
  exact aq.pure (.bq rfl fun i c d e1 e2=>by
   match i,e1,e2 with
   |0,e1,e2=>cases e1;cases e2;exact .emp _
   |1,e1,e2=>cases e1;cases e2;exact .p _ (.int _ _))
theorem qu {x:List Rat} (h:x.Nodup) {i j:Nat} (hi:i<x.length) (hj:j<x.length) (e:x.getD i 0=x.getD j 0):i=j:=by
 have:x[i]=x[j]:=by simpa[List.getD,hi,hj]using e
 exact(List.getElem_inj h).1 this
theorem m0 {x f:List Rat} (h:d9 x f=0):x.length≠0/\x.length=f.length/\x.Nodup:=by
 unfold d9 at h
 split at h
 ·cases h
 ·rename_i h1
  split at h
  ·exact⟨by omega,by omega,by assumption⟩
  ·cases h
def Fl (x f:List Rat):List Rat:=ar x.length (pH (fun i=>x.getD i 0) (x.length-1) (fun i=>f.getD i 0))
theorem uV (m m':Bool) (x f:List Rat) {s b:Nat} (hx:Bl x s) (hf:Bl f b) (hs:s+s<=1048576) (hb:bs (2*s+2) b (x.length+x.length)<=1048576) (hn:x.length<=1000000000):
  au Tryz.prog 211 [ah m x,ah m' f] (if d9 x f=0 then .bq [.p (ah false (Fl x f)),.p (.int .i64 0)]else .bq [.p (ah false []),.p (.int .i64 (d9 x f))]) []:=by
 refine aa (wr:=a9) a6 mixed Tryz.func211 (by kernel_rfl) rfl (by kernel_rfl) (af rfl) (by simp) ?_
 have hd:=DN 235 m m' x f hx hs (by omega) (Fl x f) fun h=>by
  obtain⟨h0,h1,h2⟩:=m0 h
  obtain⟨n,hn'⟩:∃n,x.length=n+1:=⟨x.length-1,by omega⟩
  have:=uP m m' n (fun i=>x.getD i 0) (fun i=>f.getD i 0) (s:=s) (b:=b) (fun i hi=>hx i (by omega)) (fun i hi=>hf i (by omega)) (fun i j hi hj e=>qu h2 (by omega) (by omega) e)
   (Nat.le_trans (eC (by omega)) hb) (by omega)
  rw[<-hn',<-Cm,h1,<-Cm]at this
  rw[Fl,h1,show f.length-1=n by omega]
  exact this
 by_cases h:d9 x f=0
 ·rw[if_pos h]at hd⊢
  refine ab.bg (pvs:=[ah m x,ah m' f,.fn 235 []]) hd (fun _=>rfl) ?_
  exact aq.pure (.bq rfl fun i c d e1 e2=>by
   match i,e1,e2 with
   |0,e1,e2=>cases e1;cases e2;exact .p _ (.sl _ _ (aB _))
   |1,e1,e2=>cases e1;cases e2;exact .p _ (.int _ _))
 ·rw[if_neg h]at hd⊢
  refine ab.bg (pvs:=[ah m x,ah m' f,.fn 235 []]) hd (fun _=>rfl) ?_
  exact aq.pure (.bq rfl fun i c d e1 e2=>by
   match i,e1,e2 with
   |0,e1,e2=>cases e1;cases e2;exact .p _ (.sl _ _ (aB _))
   |1,e1,e2=>cases e1;cases e2;exact .p _ (.int _ _))
theorem dR {a n:Int} (hn:0<n):(if a.tmod n<0 then a.tmod n+n else a.tmod n)=a%n:=by
 rw[Int.tmod_eq_emod]
 have h1:=Int.emod_nonneg a (show n≠0 by omega)
 have h2:=Int.emod_lt_of_pos a hn
 have h3:((n.natAbs:Nat):Int)=n:=Int.natAbs_of_nonneg (by omega)
 split
 ·rw[show a%n-((0:Nat):Int)=a%n by simp,if_neg (by omega)]
 ·rw[h3,if_pos (by omega)];omega
theorem iX (a:Int) {n:Int} (hn:0<n): -n<=a.tmod n/\a.tmod n<n:=by
 have:=dR (a:=a) hn
 have h1:=Int.emod_nonneg a (show n≠0 by omega)
 have h2:=Int.emod_lt_of_pos a hn
 split at this
 ·omega
 ·omega
theorem oN (a n:Int) (hn:0<n) (hn':n<4611686018427387904):au Tryz.prog 88 [.int .i64 a,.int .i64 n] (.p (.int .i64 (a%n))) []:=by
 refine aa (wr:=a9) a6 mixed Tryz.func88 (by kernel_rfl) rfl (by kernel_rfl) (af rfl) (by simp) ?_
 have hw:=dR (a:=a) hn
 have hb:=iX a hn
 obtain⟨r,hr⟩:∃r,r=a.tmod n:=⟨_,rfl⟩
 rw[<-hr]at hw hb
 refine ue.mk (by omega) ?_
 refine SZ.mk r hr.symm ?_
 by_cases h:r<0
 ·refine ag.yes (decide_eq_true (by omega)) ?_
  refine ae.ao (r+n) rfl (by omega) ?_
  rw[if_pos h]at hw
  rw[<-hw]
  exact aq.pure (.p _ (.int _ _))
 ·refine ag.no (decide_eq_false (by omega)) ?_
  rw[if_neg h]at hw
  rw[<-hw]
  exact aq.pure (.p _ (.int _ _))
def nM (n:Int):Rat:=ir (decide (n%41-20<0) !=decide (1+n.tdiv 41%5<0)) (n%41-20).natAbs (1+n.tdiv 41%5).natAbs
theorem xR (n:Int):Bz (nM n) 5:=by
 have h1:(1+n.tdiv 41%5).natAbs<=5/\(1+n.tdiv 41%5).natAbs≠0:=by omega
 have h2:(n%41-20).natAbs<=20:=by omega
 exact Bz.ir h1.2 (cK (Nat.lt_of_le_of_lt h2 (by decide))) (cK (Nat.lt_of_le_of_lt h1.1 (by decide)))
theorem jV (n:Int) (hn: -9223372036854775808<=n/\n<9223372036854775808):au Tryz.prog 38 [.int .i64 n] (.p (aJ (nM n))) []:=by
 refine aa (wr:=a9) a6 mixed Tryz.func38 (by kernel_rfl) rfl (by kernel_rfl) (af rfl) (by simp) ?_
 refine ab.pure (oN n 41 (by omega) (by omega)) ?_
 refine ae.ao (n%41-20) rfl (by omega) ?_
 have hq: -9223372036854775808<=n.tdiv 41/\n.tdiv 41<9223372036854775808:=by
  rw[Int.tdiv_eq_ediv,show Int.sign 41=1 from rfl];split<;>omega
 refine ue.mk (by omega) ?_
 refine ae.ao (n.tdiv 41) rfl hq ?_
 refine ab.pure (oN (n.tdiv 41) 5 (by omega) (by omega)) ?_
 refine ae.ao (1+n.tdiv 41%5) rfl (by omega) ?_
 refine ab.bg (w8 (n%41-20) (1+n.tdiv 41%5) (by omega) (by omega) (by omega)) (fun _=>rfl) ?_
 exact aq.pure (.p _ (aS _ _ _))
def oC (n:Int):Prop:= -9223372036854775808<=n/\n<9223372036854775808
def ng (l:List Int):Prop:=∀i,oC (l.getD i 0)
def bl (ns:List Int) (i:Nat):Rat:=nM (if i<ns.length then ns.getD i 0 else 3*i+1)
theorem gj (ns:List Int) (i:Nat):Bz (bl ns i) 5:=xR _
theorem i7 {n:Int} {k:Nat} (h:bitLen n.natAbs<=k) (hk:1<=k):Bz (n:Rat) k:=⟨by simpa using h,by rw[Rat.den_intCast,show bitLen 1=1 by decide];exact hk⟩
theorem sT {i:Nat} {g:Nat->Rat}:ar i g++[g i]=ar (i+1) g:=by rw[ar,ar,List.range_succ,List.map_append];rfl
theorem DJ (m:Bool) (ns:List Int) (hns:ng ns) (n:Nat) (hn:n<=1000000):au Tryz.prog 8 [.sl m 1 (dB ns),.int .i64 n] (.p (ah false (ar n (bl ns)))) []:=by
 refine aa (wr:=a9) a6 mixed Tryz.func8 (by kernel_rfl) rfl (by kernel_rfl) (af rfl) (by simp) ?_
 refine aM.Cf Nat (fun i=>([(0,.p (.sl m 1 (dB ns))),(1,.p (.int .i64 n)),(5,.vec 0 3 0 i),(6,.p (.int .i64 i))],[.vec 38 3 (bd (ar i (bl ns)))])) (fun i=>i<=n) (fun i=>n-i) 0 [0] _ _ (.step 5 38 3 rfl (.done _ _)) (Nat.zero_le _)
  ⟨rfl,by simp,rfl,rfl,rfl,⟨rfl,rfl,rfl,rfl,trivial⟩,⟨rfl,trivial⟩⟩ ?_
 intro i h1
 have h1:i<=n:=h1
 by_cases hi:i<n
 ·refine ag.yes (decide_eq_true (by omega)) ?_
  refine ae.ao ((3*i:Nat):Int) (by omega) (by omega) ?_
  refine ae.ao ((3*i+1:Nat):Int) (by omega) (by omega) ?_
  refine SZ.mk (ns.length:Int) (by simp) ?_
  have next:∀q,q=bl ns i->(bd (ar i (bl ns))++[aJ q])=bd (ar (i+1) (bl ns)):=fun q hq=>by rw[hq,<-sT,bd,bd,List.map_append];rfl
  by_cases hs:i<ns.length
  ·refine ag.yes (decide_eq_true (by omega)) ?_
   refine aG.ib i rfl hs ?_
   refine ab.pure (jV (ns.getD i 0) (hns i)) ?_
   refine ga.mk (by simp[ar]) ?_
   refine bp.all rfl ?_
   refine ck.mk (by simp[ar];omega) (by simp[ar];omega) ?_
   refine cH.mk _ (next _ (by rw[bl,if_pos hs])) ?_
   refine mQ.mk (i+1) (by simp[ar]) ?_
   refine ae.ao ((i+1:Nat):Int) (by omega) (by omega) ?_
   exact⟨i+1,[2],hi,by show n-(i+1)<n-i;omega,⟨rfl,by simp,rfl,rfl,rfl,⟨rfl,rfl,rfl,rfl,trivial⟩,⟨rfl,trivial⟩⟩⟩
  ·refine ag.no (decide_eq_false (by omega)) ?_
   refine ab.pure (jV ((3*i+1:Nat):Int) (by omega)) ?_
   refine ga.mk (by simp[ar]) ?_
   refine bp.all rfl ?_
   refine ck.mk (by simp[ar];omega) (by simp[ar];omega) ?_
   refine cH.mk _ (next _ (by rw[bl,if_neg hs];rfl)) ?_
   refine mQ.mk (i+1) (by simp[ar]) ?_
   refine ae.ao ((i+1:Nat):Int) (by omega) (by omega) ?_
   exact⟨i+1,[2],hi,by show n-(i+1)<n-i;omega,⟨rfl,by simp,rfl,rfl,rfl,⟨rfl,rfl,rfl,rfl,trivial⟩,⟨rfl,trivial⟩⟩⟩
 ·refine ag.no (decide_eq_false (by omega)) ?_
  have:i=n:=by omega
  subst this
  exact aq.pure (uZ rfl (by rw[az]))
theorem o7 (m:Bool) (ns:List Int) (hns:ng ns) (n:Nat) (hn:n<=1000000):au Tryz.prog 8 [.sl m 1 (dB ns),.int .i64 n] (.vec 0 3 0 n) [.vec 38 3 (bd (ar n (bl ns)))]:=by
 refine aa (wr:=a9) a6 mixed Tryz.func8 (by kernel_rfl) rfl (by kernel_rfl) (af rfl) (by simp) ?_
 refine aM.Cf Nat (fun i=>([(0,.p (.sl m 1 (dB ns))),(1,.p (.int .i64 n)),(5,.vec 0 3 0 i),(6,.p (.int .i64 i))],[.vec 38 3 (bd (ar i (bl ns)))])) (fun i=>i<=n) (fun i=>n-i) 0 [0] _ _ (.step 5 38 3 rfl (.done _ _)) (Nat.zero_le _)
  ⟨rfl,by simp,rfl,rfl,rfl,⟨rfl,rfl,rfl,rfl,trivial⟩,⟨rfl,trivial⟩⟩ ?_
 intro i h1
 have h1:i<=n:=h1
 by_cases hi:i<n
 ·refine ag.yes (decide_eq_true (by omega)) ?_
  refine ae.ao ((3*i:Nat):Int) (by omega) (by omega) ?_
  refine ae.ao ((3*i+1:Nat):Int) (by omega) (by omega) ?_
  refine SZ.mk (ns.length:Int) (by simp) ?_
  have next:∀q,q=bl ns i->(bd (ar i (bl ns))++[aJ q])=bd (ar (i+1) (bl ns)):=fun q hq=>by rw[hq,<-sT,bd,bd,List.map_append];rfl
  by_cases hs:i<ns.length
  ·refine ag.yes (decide_eq_true (by omega)) ?_
   refine aG.ib i rfl hs ?_
   refine ab.pure (jV (ns.getD i 0) (hns i)) ?_
   refine ga.mk (by simp[ar]) ?_
   refine bp.all rfl ?_
   refine ck.mk (by simp[ar];omega) (by simp[ar];omega) ?_
   refine cH.mk _ (next _ (by rw[bl,if_pos hs])) ?_
   refine mQ.mk (i+1) (by simp[ar]) ?_
   refine ae.ao ((i+1:Nat):Int) (by omega) (by omega) ?_
   exact⟨i+1,[2],hi,by show n-(i+1)<n-i;omega,⟨rfl,by simp,rfl,rfl,rfl,⟨rfl,rfl,rfl,rfl,trivial⟩,⟨rfl,trivial⟩⟩⟩
  ·refine ag.no (decide_eq_false (by omega)) ?_
   refine ab.pure (jV ((3*i+1:Nat):Int) (by omega)) ?_
   refine ga.mk (by simp[ar]) ?_
   refine bp.all rfl ?_
   refine ck.mk (by simp[ar];omega) (by simp[ar];omega) ?_
   refine cH.mk _ (next _ (by rw[bl,if_neg hs];rfl)) ?_
   refine mQ.mk (i+1) (by simp[ar]) ?_
   refine ae.ao ((i+1:Nat):Int) (by omega) (by omega) ?_
   exact⟨i+1,[2],hi,by show n-(i+1)<n-i;omega,⟨rfl,by simp,rfl,rfl,rfl,⟨rfl,rfl,rfl,rfl,trivial⟩,⟨rfl,trivial⟩⟩⟩
 ·refine ag.no (decide_eq_false (by omega)) ?_
  have:i=n:=by omega
  subst this
  exact aq.new 0 rfl rfl (aB _)
section

def fm:Nat->(Nat->Rat)->Rat->Rat
 |0,c,_=>c 0
 |n+1,c,X=>c 0+X*fm n (fun i=>c (i+1)) X
theorem iC:∀(n:Nat) {c d:Nat->Rat} (X:Rat),(∀i,i<=n->c i=d i)->fm n c X=fm n d X:=by
 intro n
 induction n with
 |zero=>intro c d X h;exact h 0 (Nat.le_refl _)
 |succ n ih=>intro c d X h;simp only[fm];rw[h 0 (Nat.zero_le _),ih X fun i hi=>h (i+1) (by omega)]
theorem DD:∀(n:Nat) (c d:Nat->Rat) (X:Rat),fm n (fun i=>c i-d i) X=fm n c X-fm n d X:=by
 intro n
 induction n with
 |zero=>intro c d X;rfl
 |succ n ih=>intro c d X;simp only[fm];rw[ih];grind
theorem wY:∀(n:Nat) (c d:Nat->Rat) (X:Rat),fm n (fun i=>c i+d i) X=fm n c X+fm n d X:=by
 intro n
 induction n with
 |zero=>intro c d X;rfl
 |succ n ih=>intro c d X;simp only[fm];rw[ih];grind
theorem ox:∀(n:Nat) (a:Rat) (c:Nat->Rat) (X:Rat),fm n (fun i=>a*c i) X=a*fm n c X:=by
 intro n
 induction n with
 |zero=>intro a c X;rfl
 |succ n ih=>intro a c X;simp only[fm];rw[ih];grind
theorem lA:∀(n:Nat) (c:Nat->Rat) (X:Rat),c (n+1)=0->fm (n+1) c X=fm n c X:=by
 intro n
 induction n with
 |zero=>intro c X h;simp only[fm];rw[h];grind
 |succ n ih=>
  intro c X h
  rw[fm,ih (fun i=>c (i+1)) X h]
  rfl
theorem zy (r X:Rat):∀(m:Nat) (u v:Nat->Rat),(∀i,i<=m->v i=u i-r*u (i+1))->v (m+1)=u (m+1)->fm (m+1) v X=u 0+(X-r)*fm m (fun i=>u (i+1)) X:=by
 intro m
 induction m with
 |zero=>
  intro u v h1 h2
  simp only[fm]
  rw[h1 0 (Nat.le_refl _),h2]
  grind
 |succ m ih=>
  intro u v h1 h2
  rw[fm,ih (fun i=>u (i+1)) (fun i=>v (i+1)) (fun i hi=>h1 (i+1) (by omega)) h2,h1 0 (Nat.zero_le _)]
  simp only[fm]
  grind
theorem Dl (r X:Rat):∀(k:Nat) (c:Nat->Rat),fm (k+1) c X-fm (k+1) c r=(X-r)*fm k (fun i=>fm (k-i) (fun j=>c (i+1+j)) r) X:=by
 intro k
 induction k with
 |zero=>
  intro c
  show c 0+X*c 1-(c 0+r*c 1)=(X-r)*c 1
  grind
 |succ k ih=>
  intro c
  have h:=ih (fun i=>c (i+1))
  have e1:∀Y,fm (k+1+1) c Y=c 0+Y*fm (k+1) (fun i=>c (i+1)) Y:=fun Y=>rfl
  have e3:fm (k+1) (fun i=>fm (k+1-i) (fun j=>c (i+1+j)) r) X=fm (k+1-0) (fun j=>c (0+1+j)) r+X*fm k (fun i=>fm (k+1-(i+1)) (fun j=>c (i+1+1+j)) r) X:=rfl
  have e:fm k (fun i=>fm (k+1-(i+1)) (fun j=>c (i+1+1+j)) r) X=fm k (fun i=>fm (k-i) (fun j=>c (i+1+j+1)) r) X:=iC k X fun i hi=>by
   show fm (k+1-(i+1)) _ r=_
   rw[show k+1-(i+1)=k-i by omega]
   exact iC _ _ fun j _=>by show c (i+1+1+j)=c (i+1+j+1);congr 1;omega
  have e0:fm (k+1-0) (fun j=>c (0+1+j)) r=fm (k+1) (fun i=>c (i+1)) r:=iC _ _ fun j _=>by show c (0+1+j)=c (j+1);congr 1;omega
  rw[e1,e1,e3,e,e0]
  grind
def pr (r:Nat->Rat) (X:Rat):Nat->Rat
 |0=>1
 |k+1=>pr r X k*(X-r k)
theorem Gk {r:Nat->Rat} {X:Rat}:∀{k:Nat},(∀l,l<k->X≠r l)->pr r X k≠0:=by
 intro k
 induction k with
 |zero=>intro _;rw[pr];decide
 |succ k ih=>
  intro h
  rw[pr]
  have h1:=ih fun l hl=>h l (by omega)
  have h2:=h k (Nat.lt_succ_self k)
  intro e
  rcases Rat.mul_eq_zero.1 e with e|e
  ·exact h1 e
  ·exact h2 (by grind)
def kR (r:Nat->Rat) (k:Nat):Prop:=∀i j,i<k->j<k->r i=r j->i=j
theorem kR.mono {r:Nat->Rat} {j k:Nat} (h:kR r k) (hj:j<=k):kR r j:=fun a b ha hb=>h a b (by omega) (by omega)
theorem xN (X:Rat):∀(k:Nat) (c r:Nat->Rat),kR r k->(∀l,l<k->fm k c (r l)=0)->fm k c X=c k*pr r X k:=by
 intro k
 induction k with
 |zero=>intro c r _ _;simp only[fm,pr];grind
 |succ k ih=>
  intro c r hi hz
  have hk:=hz k (Nat.lt_succ_self k)
  have hq:∀Y,fm (k+1) c Y=(Y-r k)*fm k (fun i=>fm (k-i) (fun j=>c (i+1+j)) (r k)) Y:=fun Y=>by
   have:=Dl (r k) Y k c
   rw[hk]at this
   grind
  have hz':∀l,l<k->fm k (fun i=>fm (k-i) (fun j=>c (i+1+j)) (r k)) (r l)=0:=fun l hl=>by
   have h1:=hz l (by omega)
   rw[hq]at h1
   rcases Rat.mul_eq_zero.1 h1 with e|e
   ·have:r l=r k:=by grind
    have:=hi l k (by omega) (by omega) this
    omega
   ·exact e
  have:=ih _ r (hi.mono (by omega)) hz'
  rw[hq,this,pr]
  have e:fm (k-k) (fun j=>c (k+1+j)) (r k)=c (k+1):=by rw[Nat.sub_self];rfl
  simp only[e]
  grind
theorem u7:∀(k:Nat) (c r:Nat->Rat),kR r (k+1)->(∀l,l<k+1->fm k c (r l)=0)->∀i,i<=k->c i=0:=by
 intro k
 induction k with
 |zero=>
  intro c r _ hz i hi
  have:=hz 0 (by omega)
  rw[show i=0 by omega];exact this
 |succ k ih=>
  intro c r hi hz
  have hroots:=xN (r (k+1)) (k+1) c r (hi.mono (by omega)) fun l hl=>hz l (by omega)
  rw[hz (k+1) (by omega)]at hroots
  have hne:pr r (r (k+1)) (k+1)≠0:=Gk fun l hl e=>by have:=hi (k+1) l (by omega) (by omega) e;omega
  have htop:c (k+1)=0:=by
   rcases Rat.mul_eq_zero.1 hroots.symm with e|e
   ·exact e
   ·exact(hne e).elim
  have hlow:=ih c r (hi.mono (by omega)) fun l hl=>by rw[<-lA k c _ htop];exact hz l (by omega)
  intro i hle
  by_cases e:i=k+1
  ·rw[e];exact htop
  ·exact hlow i (by omega)
theorem ES {k:Nat} {c d r:Nat->Rat} (hi:kR r (k+1)) (h:∀l,l<k+1->fm k c (r l)=fm k d (r l)):∀i,i<=k->c i=d i:=fun i hk=>by
 have:=u7 k (fun i=>c i-d i) r hi (fun l hl=>by rw[DD,h l hl];grind) i hk
 grind
def A0 (k:Nat) (a:Rat) (g:Rat->Rat):Prop:=∃c:Nat->Rat,c k=a/\∀X,fm k c X=g X
theorem A0.addTop {k:Nat} {a b:Rat} {g h:Rat->Rat} (hg:A0 k a g) (hh:A0 (k+1) b h):A0 (k+1) b (fun X=>g X+h X):=by
 obtain⟨c,h1,h2⟩:=hg
 obtain⟨d,h3,h4⟩:=hh
 refine⟨fun i=>(if i<=k then c i else 0)+d i,by show(if k+1<=k then c (k+1)else 0)+d (k+1)=b;rw[if_neg (by omega),h3];grind,fun X=>?_⟩
 rw[wY,h4,lA k _ X (if_neg (by omega)),iC k (d:=c) X fun i hi=>if_pos hi,h2]
theorem A0.CB {k:Nat} {a:Rat} {g:Rat->Rat} (hg:A0 k a g) (r:Rat):A0 (k+1) a (fun X=>g X*(X-r)):=by
 obtain⟨c,h1,h2⟩:=hg
 obtain⟨u,hu⟩:∃u:Nat->Rat,u=fun i=>match i with|0=>0|i+1=>c i:=⟨_,rfl⟩
 refine⟨fun i=>if i<=k then u i-r*u (i+1)else u i,?_,fun X=>?_⟩
 ·show(if k+1<=k then _ else u (k+1))=a
  rw[if_neg (by omega),hu];exact h1
 ·rw[zy r X k u _ (fun i hi=>if_pos hi) (if_neg (by omega)),hu]
  show 0+(X-r)*fm k (fun i=>c i) X=_
  rw[show fm k (fun i=>c i) X=g X from h2 X]
  grind
theorem A0.smul {k:Nat} {a:Rat} {g:Rat->Rat} (hg:A0 k a g) (b:Rat):A0 k (b*a) (fun X=>b*g X):=by
 obtain⟨c,h1,h2⟩:=hg
 exact⟨fun i=>b*c i,by show b*c k=b*a;rw[h1],fun X=>by rw[ox,h2]⟩
end
section

section
variable (x f:Nat->Rat)
end
def sm:Nat->(Nat->Rat)->Rat
 |0,_=>0
 |n+1,f=>sm n f+f n
theorem pc {f g:Nat->Rat}:∀{n:Nat},(∀i,i<n->f i=g i)->sm n f=sm n g:=by
 intro n
 induction n with
 |zero=>intro _;rfl
 |succ n ih=>intro h;rw[sm,sm,ih fun i hi=>h i (by omega),h n (Nat.lt_succ_self n)]
theorem CV (a:Rat) (f:Nat->Rat):∀n,sm n (fun i=>a*f i)=a*sm n f:=by
 intro n
 induction n with
 |zero=>simp only[sm];grind
 |succ n ih=>simp only[sm];rw[ih];grind
theorem BY (f:Nat->Rat):∀n,sm (n+1) f=f 0+sm n (fun i=>f (i+1)):=by
 intro n
 induction n with
 |zero=>simp only[sm];grind
 |succ n ih=>rw[sm,ih,sm];grind
theorem Di {f:Nat->Rat}:∀{n:Nat},(∀i,i<n->f i=0)->sm n f=0:=by
 intro n
 induction n with
 |zero=>intro _;rfl
 |succ n ih=>intro h;rw[sm,ih fun i hi=>h i (by omega),h n (Nat.lt_succ_self n)];grind
theorem FY (k n:Nat) (a b:Nat->Rat):sm (n+1) (fun j=>if k<j then a (j-1)*b j else 0)=sm (n+1) (fun i=>if k<=i/\i<n then a i*b (i+1)else 0):=by
 rw[BY,sm,if_neg (by omega),if_neg (by omega)]
 have:sm n (fun i=>if k<i+1 then a (i+1-1)*b (i+1)else 0)=sm n (fun i=>if k<=i/\i<n then a i*b (i+1)else 0):=pc fun i hi=>by
  by_cases h:k<=i
  ·rw[if_pos (show k<i+1 by omega),if_pos ⟨h,hi⟩];rfl
  ·rw[if_neg (show ¬k<i+1 by omega),if_neg (by omega)]
 rw[this]
 grind
theorem Fa {n j:Nat} (hj:j<n) (b:Nat->Rat):sm n (fun i=>b i*(if i=j then 1 else 0))=b j:=by
 induction n with
 |zero=>omega
 |succ n ih=>
  rw[sm]
  by_cases e:n=j
  ·subst e
   rw[if_pos rfl,Di fun i hi=>by rw[if_neg (by omega)];grind]
   grind
  ·rw[if_neg e,ih (by omega)];grind
theorem wO {F:Nat->(Nat->Rat)->(Nat->Rat)} {N t:Nat} (h:∀r c B,(∀i,i<N->Bz (c i) B)->∀i,i<N->Bz (F r c i) (2*B+t)):∀(r:Nat) (c:Nat->Rat) (b:Nat),(∀i,i<N->Bz (c i) b)->∀i,i<N->Bz (iter F r c i) (bs t b r):=by
 intro r
 induction r with
 |zero=>intro c b hc;exact hc
 |succ r ih=>intro c b hc;exact h r _ _ (ih c b hc)
theorem Ff (t b:Nat):∀(i j:Nat),bs t (bs t b i) j=bs t b (i+j):=by
 intro i j
 induction j with
 |zero=>rfl
 |succ j ih=>show 2*bs t (bs t b i) j+t=2*bs t b (i+j)+t;rw[ih]
theorem EL {n s b:Nat} {x f:Nat->Rat} (hx:∀i,i<n+1->Bz (x i) s) (hf:∀i,i<n+1->Bz (f i) b):∀i,i<n+1->Bz (pH x n f i) (bs (2*s+2) b (n+n)):=by
 rw[<-Ff]
 refine wO (N:=n+1) (fun r c B hc i hi=>?_) n _ _ (wO (N:=n+1) (fun r c B hc i hi=>?_) n f b hf)
 ·unfold cL
  split
  ·rename_i h;exact((hc i hi).sub ((hx _ (by omega)).mul (hc (i+1) (by omega)))).mono (by omega)
  ·exact(hc i hi).mono (by omega)
 ·unfold dv
  split
  ·exact(((hc i hi).sub (hc (i-1) (by omega))).div ((hx i hi).sub (hx _ (by omega)))).mono (by omega)
  ·exact(hc i hi).mono (by omega)
end
def fl {α:Type} (n:Nat) (f:Nat->α):List α:=(List.range n).map f
@[simp] theorem FC {α:Type} {n:Nat} {f:Nat->α}:(fl n f).length=n:=by simp[fl]
theorem cU {α:Type} {n:Nat} {f:Nat->α} {i:Nat} (h:i<n):(fl n f)[i]?=some (f i):=by simp[fl,h]
theorem bX {α:Type} {n:Nat} {f:Nat->α} {i:Nat} {v:α}:(fl n f)[i]?=some v↔i<n/\f i=v:=by
 constructor
 ·intro h
  have hi:i<n:=by have:=(List.getElem?_eq_some_iff.1 h).1;simpa using this
  rw[cU hi]at h
  exact⟨hi,by simpa using h⟩
 ·rintro⟨hi,rfl⟩;exact cU hi
theorem eX {α:Type} {n:Nat} {f:Nat->α} {i:Nat} {v:α}:(fl n f).set i v=fl n (bz f i v):=by
 apply List.ext_getElem (by simp)
 intro k h1 h2
 simp only[List.getElem_set,fl,List.getElem_map,List.getElem_range,bz]
 by_cases e:i=k
 ·rw[if_pos e,if_pos e.symm]
 ·rw[if_neg e,if_neg (Ne.symm e)]
theorem lC {α:Type} {n:Nat} {f:Nat->α}:fl (n+1) f=fl n f++[f n]:=by simp[fl,List.range_succ]
theorem aX {α:Type} {n:Nat} {f g:Nat->α} (h:∀i,i<n->f i=g i):fl n f=fl n g:=List.map_congr_left fun i hi=>h i (by simpa using hi)
theorem qS {α β:Type} {n:Nat} {f:Nat->α} {g:α->β}:(fl n f).map g=fl n fun i=>g (f i):=by simp[fl]
theorem dq {α:Type} {n:Nat} {f:Nat->α} {x:α} (h:x∈fl n f):∃i,i<n/\f i=x:=by
 simp only[fl,List.mem_map,List.mem_range]at h;exact h
theorem v5 {n:Nat} {g:Nat->Rat}:ar n g=fl n g:=rfl
theorem j4 (k:Nat) (f:Nat->Rat) (q:Rat) (h:q=f k):bd (ar k f)++[aJ q]=bd (ar (k+1) f):=by
 subst h;rw[bd,bd,ar,ar,List.range_succ,List.map_append,List.map_append];rfl
abbrev cm (m m':Bool) (n w:Nat) (A:Nat->Nat->Rat):PV:=.sl m 1 (fl n fun i=>ah m' (ar w (A i)))
theorem aG.mf {m':Bool} {n w:Nat} {A:Nat->Nat->Rat} {i:Int} {K:Nat->PV->Prop} (j:Nat) (hi:i=j) (hj:j<n) (hk:K j (ah m' (ar w (A j)))):aG (fl n fun i=>ah m' (ar w (A i))) i K:=
 .mk j _ hi (cU hj) hk
theorem dr {n w:Nat} {A:Nat->Nat->Rat}:bZ (cm false false n w A):=
 .sl _ _ fun e he c hc=>by
  obtain⟨i,_,rfl⟩:=dq he
  simp only[PV.cells,List.mem_singleton]at hc
  subst hc
  exact .sl _ _ (aB _)
abbrev cZ (p c n:Nat) (s:Nat->Nat):List AV:=fl n fun i=>.vec (.r p (s i)) 3 0 c
abbrev cY (n w:Nat) (G:Nat->Nat->Rat):List (Option (List PV)):=fl n fun k=>some (bd (ar w (G k)))
theorem cq.cZ {p c n:Nat} {s:Nat->Nat} {i:Int} {K:AV->Prop} (j:Nat) (hi:i=j) (hj:j<n) (hk:K (.vec (.r p (s j)) 3 0 c)):cq (cZ p c n s) i K:=.mk j _ hi (cU hj) hk
theorem fX.cY {n w:Nat} {G:Nat->Nat->Rat} {k:Nat} {K:List PV->Prop} (hk:k<n) (hK:K (bd (ar w (G k)))):fX (cY n w G) k K:=.mk _ (cU hk) hK
theorem qq.cY {n w:Nat} {G:Nat->Nat->Rat} {k:Nat} {f:Nat->Rat} {K:List (Option (List PV))->Prop} (hk:k<n) (hK:K (cY n w (bz G k f))):qq (cY n w G) k (some (bd (ar w f))) K:=
 .mk _ (by simpa using hk) (by rw[eX];exact aX fun i _=>by unfold bz;split<;>rfl) hK
theorem bT.cZ {p c n i:Nat} {s:Nat->Nat} {K:Prop} (h:i<n) (hk:K):bT i (cZ p c n s).length K:=.mk (by simpa using h) hk
theorem pT.cZ {p c n i k:Nat} {s:Nat->Nat} {K:List AV->Prop} (hk:K (cZ p c n (bz s i k))):pT ((cZ p c n s).set i (.vec (.r p k) 3 0 c)) K:=
 .mk _ (by rw[eX];exact aX fun j _=>by unfold bz;split<;>rfl) hk
theorem eu {ρ:Hd->Hd} {n:Nat} {f:Nat->AV}:AV.cz ρ (fl n f)=fl n fun i=>(f i).cE ρ:=by rw[AV.bJ,qS]
theorem fA {hs:List Nat} {P:Hp} {p p' q c k:Nat} (hp:hs.getD p 0=p'+1000*(q+1)) (hp':p'<1000) (hl:aN P p=k+1):AV.cz (cO hs P) (cZ p c (k+1) id)=cZ p' c k id++[.vec (.t q) 3 0 c]:=by
 rw[eu,lC]
 have eb:Nat.blt (hs.getD p 0) 1000=false:=by
  cases hb:Nat.blt (hs.getD p 0) 1000 with
  |false=>rfl
  |true=>have:=b8.1 hb;omega
 have e1:hs.getD p 0%1000=p':=by omega
 have e2:hs.getD p 0/1000-1=q:=by omega
 congr 1
 ·refine aX fun i hi=>?_
  have e4:Nat.blt (i+1) (k+1)=true:=b8.2 (by omega)
  simp only[AV.cE,cO,eb,hl,id,e4,cond_false,cond_true,e1]
 ·have e4:Nat.blt (k+1) (k+1)=false:=by
   cases hb:Nat.blt (k+1) (k+1)with
   |false=>rfl
   |true=>have:=b8.1 hb;omega
  simp only[AV.cE,cO,eb,hl,id,e4,cond_false,e2]
theorem aZ {hs:List Nat} {P:Hp} {p c n:Nat} {s:Nat->Nat} (p':Nat) (hp:hs.getD p 0=p') (hp':p'<1000):AV.cz (cO hs P) (cZ p c n s)=cZ p' c n s:=by
 rw[eu]
 refine aX fun i hi=>?_
 have eb:Nat.blt p' 1000=true:=b8.2 hp'
 simp only[AV.cE,cO,hp,eb,cond_true]
theorem dO {n w:Nat} {G:Nat->Nat->Rat}:cY (n+1) w G=cY n w G++[some (bd (ar w (G n)))]:=lC
theorem aV {P:Hp} {p c n:Nat} {s:Nat->Nat} (h:∀i,i<n->s i<aN P p):∀x∈cZ p c n s,∀h,x.aU h->look P h≠ .free:=by
 intro x hx g hg
 obtain⟨i,hi,rfl⟩:=dq hx
 simp only[AV.aU]at hg
 subst hg
 exact iH (h i hi)
theorem xH {H:Hp} {p n w:Nat} {T:TypeId} {G:Nat->Nat->Rat} (hH:H.getD p .free= .bt T 3 (cY n w G)) {k:Nat} (hk:k<n):look H (.r p k)= .vec T 3 (bd (ar w (G k))):=by
 simp only[look,hH,aC.row,cU hk]
theorem ea.cZ {H:Hp} {p n N w:Nat} {T:TypeId} {G:Nat->Nat->Rat} {s:Nat->Nat} {K:List PV->Prop} (hH:H.getD p .free= .bt T 3 (cY N w G)) (hs:∀i,i<n->s i<N) (hk:K (fl n fun i=>ah true (ar w (G (s i))))):ea (look H) (cZ p w n s) n K:=
 .mk _ (by simp) (by simp) (fun i c q e1 e2=>by
  obtain⟨hi,rfl⟩:=bX.1 e1
  obtain⟨_,rfl⟩:=bX.1 e2
  have:=lS.vec (L:=look H) (h:=.r p (s i)) (W:=3) (off:=0) (len:=w) (xH hH (hs i hi)) (by simp[ar])
  rw[List.drop_zero,List.take_of_length_le (by simp[ar])]at this
  exact this) hk
theorem x6 {H:Hp} {h p n N w:Nat} {T T':TypeId} {G:Nat->Nat->Rat} {s:Nat->Nat} (hB:look H h= .rows T (cZ p w n s)) (hH:H.getD p .free= .bt T' 3 (cY N w G)) (hs:∀i,i<n->s i<N):Conv [] H (.vec h 1 0 n) (.p (cm false false n w fun i=>G (s i))):=by
 refine Conv.uZ (h:=h) hB (by simp) (by simp) (fun d hd=>by obtain⟨i,_,rfl⟩:=dq hd;rfl) (by simp) fun i c d e1 e2=>?_
 obtain⟨hi,rfl⟩:=bX.1 e1
 obtain⟨_,rfl⟩:=bX.1 e2
 exact .ze (xH hH (hs i hi)) (by simp) (by simp[ar]) (aB _) (by rw[List.drop_zero];exact List.take_of_length_le (by simp[ar]))
abbrev lW (q:Rat):List AV:=[.p (.bool (decide (q.num<0))),.p (bC q.num.natAbs),.p (bC q.den)]
structure GV where
 k:Nat
 n:Nat
 r:Nat
 A:Nat->Rat
 B:Nat->Rat
 G:Nat->Rat
 H:Nat->Rat
def aw (k n:Nat):Nat:=if k=1\/k=2 then 2*n-1 else if k=6 then 0 else n
def aH (k n:Nat):Nat:=if k=5\/k=7 then n else 0
def aE (k n r:Nat):Nat:=if k=6\/k=7 then n*r else 0
def GV.la (g:GV):Nat:=aw g.k g.n
def GV.lb (g:GV):Nat:=aH g.k g.n
def GV.lh (g:GV):Nat:=aE g.k g.n g.r
abbrev nJ:Nat->Bool:=fun _=>false
abbrev oc (m:Nat->Bool) (g:GV):List PV:=[.int .i64 g.k,.int .i64 g.n,.int .i64 g.r,ah (m 0) (ar g.la g.A),ah (m 1) (ar g.lb g.B),ah (m 2) (ar g.lh g.G),ah (m 3) (ar g.lh g.H)]
abbrev cG (m:Nat->Bool) (g:GV):PV:=.agg (oc m g)
theorem cN (g:GV):bZ (cG nJ g):=.agg _ fun c hc=>by
 simp only[oc,List.mem_cons,List.not_mem_nil,or_false]at hc
 rcases hc with rfl|rfl|rfl|rfl|rfl|rfl|rfl<;>first|exact .int _ _|exact .sl _ _ (aB _)
theorem gE (a n:Int) (hn:0<n) (hn':n<4611686018427387904):au Tryz.prog 85 [.int .i64 a,.int .i64 n] (.p (.int .i64 (a%n))) []:=by
 refine aa (wr:=a9) a6 mixed Tryz.func85 (by kernel_rfl) rfl (by kernel_rfl) (af rfl) (by simp) ?_
 have hw:=dR (a:=a) hn
 have hb:=iX a hn
 obtain⟨r,hr⟩:∃r,r=a.tmod n:=⟨_,rfl⟩
 rw[<-hr]at hw hb
 refine ue.mk (by omega) ?_
 refine SZ.mk r hr.symm ?_
 by_cases h:r<0
 ·refine ag.yes (decide_eq_true (by omega)) ?_
  refine ae.ao (r+n) rfl (by omega) ?_
  rw[if_pos h]at hw
  rw[<-hw]
  exact aq.pure (.p _ (.int _ _))
 ·refine ag.no (decide_eq_false (by omega)) ?_
  rw[if_neg h]at hw
  rw[<-hw]
  exact aq.pure (.p _ (.int _ _))
theorem mT (a n:Int) (hn:0<n) (hn':n<4611686018427387904):au Tryz.prog 83 [.int .i64 a,.int .i64 n] (.p (.int .i64 (a%n))) []:=by
 refine aa (wr:=a9) a6 mixed Tryz.func83 (by kernel_rfl) rfl (by kernel_rfl) (af rfl) (by simp) ?_
 have hw:=dR (a:=a) hn
 have hb:=iX a hn
 obtain⟨r,hr⟩:∃r,r=a.tmod n:=⟨_,rfl⟩
 rw[<-hr]at hw hb
 refine ue.mk (by omega) ?_
 refine SZ.mk r hr.symm ?_
 by_cases h:r<0
 ·refine ag.yes (decide_eq_true (by omega)) ?_
  refine ae.ao (r+n) rfl (by omega) ?_
  rw[if_pos h]at hw
  rw[<-hw]
  exact aq.pure (.p _ (.int _ _))
 ·refine ag.no (decide_eq_false (by omega)) ?_
  rw[if_neg h]at hw
  rw[<-hw]
  exact aq.pure (.p _ (.int _ _))
theorem nC {k:Nat} (h1:1<=k) (h7:k<=7):k=1\/k=2\/k=3\/k=4\/k=5\/k=6\/k=7:=by omega
theorem tx (k:Nat) (h1:1<=k) (h7:k<=7):au Tryz.prog 86 [.int .i64 k] (.p (.bool (decide (k=6\/k=7)))) []:=by
 refine aa (wr:=a9) a6 mixed Tryz.func86 (by kernel_rfl) rfl (by kernel_rfl) (af rfl) (by simp) ?_
 by_cases e6:k=6
 ·refine ag.yes (decide_eq_true (by omega)) ?_
  rw[decide_eq_true (.inl e6)]
  exact aq.pure (.tf _)
 ·refine ag.no (decide_eq_false (by omega)) ?_
  by_cases e7:k=7
  ·refine ag.yes (decide_eq_true (by omega)) ?_
   rw[decide_eq_true (.inr e7)]
   exact aq.pure (.tf _)
  ·refine ag.no (decide_eq_false (by omega)) ?_
   rw[decide_eq_false (by omega)]
   exact aq.pure (.tf _)
theorem kx (k n r:Nat) (h1:1<=k) (h7:k<=7) (hn1:1<=n) (hn:n<=8) (hr:r<=3) (a b c d:PV):
  au Tryz.prog 87 [.agg [.int .i64 k,.int .i64 n,.int .i64 r,a,b,c,d]] (.bq [.p (.int .i64 (aw k n)),.p (.int .i64 (aH k n)),.p (.int .i64 (aE k n r))]) []:=by
 have hnr:n*r<=24:=Nat.mul_le_mul hn hr
 have hnz:((n*r:Nat):Int)=(n:Int)*(r:Int):=Int.natCast_mul n r
 refine aa (wr:=a9) a6 mixed Tryz.func87 (by kernel_rfl) rfl (by kernel_rfl) (af rfl) (by simp) ?_
 rcases nC h1 h7 with rfl|rfl|rfl|rfl|rfl|rfl|rfl
 ·refine ag.yes (rfl) ?_
  refine ae.ao ((2*n:Nat):Int) (by omega) (by omega) ?_
  refine ae.ao ((2*n-1:Nat):Int) (by omega) (by omega) ?_
  exact aq.pure (.bq rfl fun i c d e1 e2=>by
   match i,e1,e2 with
   |0,e1,e2=>cases e1;cases e2;exact .p _ (.int _ _)
   |1,e1,e2=>cases e1;cases e2;exact .p _ (.int _ _)
   |2,e1,e2=>cases e1;cases e2;exact .p _ (.int _ _))
 ·refine ag.no (rfl) ?_
  refine ag.yes (rfl) ?_
  refine ae.ao ((2*n:Nat):Int) (by omega) (by omega) ?_
  refine ae.ao ((2*n-1:Nat):Int) (by omega) (by omega) ?_
  exact aq.pure (.bq rfl fun i c d e1 e2=>by
   match i,e1,e2 with
   |0,e1,e2=>cases e1;cases e2;exact .p _ (.int _ _)
   |1,e1,e2=>cases e1;cases e2;exact .p _ (.int _ _)
   |2,e1,e2=>cases e1;cases e2;exact .p _ (.int _ _))
 ·refine ag.no (rfl) ?_
  refine ag.no (rfl) ?_
  refine ag.yes (rfl) ?_
  exact aq.pure (.bq rfl fun i c d e1 e2=>by
   match i,e1,e2 with
   |0,e1,e2=>cases e1;cases e2;exact .p _ (.int _ _)
   |1,e1,e2=>cases e1;cases e2;exact .p _ (.int _ _)
   |2,e1,e2=>cases e1;cases e2;exact .p _ (.int _ _))
 ·refine ag.no (rfl) ?_
  refine ag.no (rfl) ?_
  refine ag.no (rfl) ?_
  refine ag.yes (rfl) ?_
  exact aq.pure (.bq rfl fun i c d e1 e2=>by
   match i,e1,e2 with
   |0,e1,e2=>cases e1;cases e2;exact .p _ (.int _ _)
   |1,e1,e2=>cases e1;cases e2;exact .p _ (.int _ _)
   |2,e1,e2=>cases e1;cases e2;exact .p _ (.int _ _))
 ·refine ag.no (rfl) ?_
  refine ag.no (rfl) ?_
  refine ag.no (rfl) ?_
  refine ag.no (rfl) ?_
  refine ag.yes (rfl) ?_
  refine aO.mk (by kernel_rfl) ?_
  repeat refine aj.mk _ _ (And.intro rfl rfl) rfl ?_
  exact aq.pure (.bq rfl fun i c d e1 e2=>by
   match i,e1,e2 with
   |0,e1,e2=>cases e1;cases e2;exact .p _ (.int _ _)
   |1,e1,e2=>cases e1;cases e2;exact .p _ (.int _ _)
   |2,e1,e2=>cases e1;cases e2;exact .p _ (.int _ _))
 ·refine ag.no (rfl) ?_
  refine ag.no (rfl) ?_
  refine ag.no (rfl) ?_
  refine ag.no (rfl) ?_
  refine ag.no (rfl) ?_
  refine ag.yes (rfl) ?_
  refine aO.mk (by kernel_rfl) ?_
  repeat refine aj.mk _ _ (And.intro rfl rfl) rfl ?_
  refine aj.mk _ _ (ae.ao ((n*r:Nat):Int) (by omega) (by omega) (And.intro rfl rfl)) rfl ?_
  repeat refine aj.mk _ _ (And.intro rfl rfl) rfl ?_
  exact aq.pure (.bq rfl fun i c d e1 e2=>by
   match i,e1,e2 with
   |0,e1,e2=>cases e1;cases e2;exact .p _ (.int _ _)
   |1,e1,e2=>cases e1;cases e2;exact .p _ (.int _ _)
   |2,e1,e2=>cases e1;cases e2;exact .p _ (.int _ _))
 ·refine ag.no (rfl) ?_
  refine ag.no (rfl) ?_
  refine ag.no (rfl) ?_
  refine ag.no (rfl) ?_
  refine ag.no (rfl) ?_
  refine ag.no (rfl) ?_
  refine aO.mk (by kernel_rfl) ?_
  repeat refine aj.mk _ _ (And.intro rfl rfl) rfl ?_
  refine aj.mk _ _ (ae.ao ((n*r:Nat):Int) (by omega) (by omega) (And.intro rfl rfl)) rfl ?_
  repeat refine aj.mk _ _ (And.intro rfl rfl) rfl ?_
  exact aq.pure (.bq rfl fun i c d e1 e2=>by
   match i,e1,e2 with
   |0,e1,e2=>cases e1;cases e2;exact .p _ (.int _ _)
   |1,e1,e2=>cases e1;cases e2;exact .p _ (.int _ _)
   |2,e1,e2=>cases e1;cases e2;exact .p _ (.int _ _))
theorem y4 {neg:Bool} {a d:Nat} (ha:a<=20) (hd:d≠0): -20<=ir neg a d/\ir neg a d<=20:=by
 have h0:(0:Rat)<(d:Rat):=by exact_mod_cast Nat.pos_of_ne_zero hd
 have h1:(1:Rat)<=(d:Rat):=by exact_mod_cast Nat.pos_of_ne_zero hd
 have e:ir neg a d*(d:Rat)=((c6 neg a:Int):Rat):=by
  rw[ir,Rat.mkRat_eq_div]
  grind
 have s1:(-20:Int)<=c6 neg a/\c6 neg a<=20:=by unfold c6;cases neg<;>simp<;>omega
 have s2:(-20:Rat)<=((c6 neg a:Int):Rat):=by have:=Rat.intCast_le_intCast.2 s1.1;rw[show(-20:Rat)=((-20:Int):Rat)from rfl];exact this
 have s3:((c6 neg a:Int):Rat)<=20:=by have:=s1.2;exact_mod_cast this
 generalize ir neg a d=q at e
 generalize((c6 neg a:Int):Rat)=s at e s2 s3
 generalize(d:Rat)=D at e h0 h1
 constructor
 ·by_cases c: -20<=q
  ·exact c
  ·have c:q< -20:=Rat.not_le.1 c
   have:=Rat.mul_lt_mul_of_pos_right c h0
   grind
 ·by_cases c:q<=20
  ·exact c
  ·have c:20<q:=Rat.not_le.1 c
   have:=Rat.mul_lt_mul_of_pos_right c h0
   grind
theorem lK (n:Int): -20<=nM n/\nM n<=20:=y4 (by omega) (by omega)
def eQ (f:Nat->Rat) (j:Nat) (b:Rat):Nat->Rat
 |0=>b
 |i+1=>if f i=eQ f j b i then eQ f j b i+(((100+j:Nat):Int):Rat)else eQ f j b i
theorem tY {f:Nat->Rat} (hf:∀i,-20<=f i/\f i<=20) {j:Nat} {b:Rat} (hb: -20<=b/\b<=20):∀i,(eQ f j b i=b/\∀t,t<i->f t≠b)\/eQ f j b i=b+(((100+j:Nat):Int):Rat):=by
 intro i
 have big:(100:Rat)<=(((100+j:Nat):Int):Rat):=by
  have:(100:Int)<=((100+j:Nat):Int):=by omega
  exact_mod_cast this
 induction i with
 |zero=>exact .inl ⟨rfl,fun t ht=>absurd ht (Nat.not_lt_zero _)⟩
 |succ i ih=>
  simp only[eQ]
  rcases ih with⟨ih,hn⟩|ih
  ·rw[ih]
   by_cases c:f i=b
   ·rw[if_pos c];exact .inr rfl
   ·rw[if_neg c]
    exact .inl ⟨rfl,fun t ht=>by
     by_cases e:t=i
     ·rw[e];exact c
     ·exact hn t (by omega)⟩
  ·rw[ih,if_neg]
   ·exact .inr rfl
   ·have:=(hf i).2
    have:=hb.1
    generalize(((100+j:Nat):Int):Rat)=z at big
    grind
theorem CH {f:Nat->Rat} (hf:∀i,-20<=f i/\f i<=20) {j:Nat} {b:Rat} (hb: -20<=b/\b<=20) {i t:Nat} (ht:t<i):f t≠eQ f j b i:=by
 rcases tY hf (j:=j) hb i with⟨h,hn⟩|h
 ·rw[h];exact hn t ht
 ·have big:(100:Rat)<=(((100+j:Nat):Int):Rat):=by
   have:(100:Int)<=((100+j:Nat):Int):=by omega
   exact_mod_cast this
  rw[h]
  have:=(hf t).2
  have:=hb.1
  generalize(((100+j:Nat):Int):Rat)=z at big
  grind
theorem rL {f:Nat->Rat} (hf:∀i,-20<=f i/\f i<=20) {j:Nat} (hj:j<28) {b:Rat} (hb: -20<=b/\b<=20) (hz:Bz b 5) (i:Nat):Bz (eQ f j b i) 13:=by
 rcases tY hf (j:=j) hb i with⟨h,_⟩|h
 ·rw[h];exact hz.mono (by omega)
 ·rw[h];exact(hz.add (i7 (k:=7) (cK (by rw[Int.natAbs_natCast];omega)) (by omega))).mono (by omega)
def wI (kind:Int):Nat:=(1+kind%7).toNat
def iw (n most:Int):Nat:=(1+n%most).toNat
def tE (k:Nat) (n:Int):Nat:=if k=6\/k=7 then(1+n.tdiv 8%2).toNat else 0
def uf (k n r:Nat) (f:Nat->Rat):GV:=
 ⟨k,n,r,f,fun j=>eQ f j (f (aw k n+j)) (aw k n),fun t=>f (aw k n+aH k n+t),fun t=>f (aw k n+aH k n+aE k n r+t)⟩
theorem bU {k n r:Nat} (hn1:1<=n) (hn:n<=8) (hr:r<=3):aw k n<=15/\aH k n<=8/\aE k n r<=24/\aH k n<=n:=by
 have hnr:n*r<=24:=Nat.mul_le_mul hn hr
 unfold aw aH aE
 refine⟨?_,?_,?_,?_⟩<;>(repeat' split)<;>omega
abbrev fB:PV:=.raw (.slice none 0 0)
def pS:List AV:=[.p (.int .i64 0),.p (.int .i64 0),.p (.int .i64 0),.p fB,.p fB,.p fB,.p fB]
def kI (k N r:Nat):List AV:=[.p (.int .i64 k),.p (.int .i64 N),.p (.int .i64 r),.vec 2 3 (0+0) (aw k N-0),.vec 2 3 (0+aw k N) (aw k N+aH k N-aw k N),
 .vec 2 3 (0+(aw k N+aH k N)) (aw k N+aH k N+aE k N r-(aw k N+aH k N)),.vec 2 3 (0+(aw k N+aH k N+aE k N r)) (aw k N+aH k N+2*aE k N r-(aw k N+aH k N+aE k N r))]
theorem gC {H:Hp} {h:Hd} {T:TypeId} {N off len l:Nat} {F g:Nat->Rat} (hB:look H h= .vec T 3 (bd (ar N F))) (hl:off+len<=N) (hlen:len=l) (hg:∀t,t<l->F (off+t)=g t):Conv [] H (.vec h 3 off len) (.p (ah false (ar l g))):=by
 subst hlen
 refine .ze hB (by simp) (by simpa[ar]using hl) (aB _) ?_
 apply List.ext_getElem
 ·simp[ar];omega
 ·intro i h1 h2
  have hi:i<len:=by simpa[ar]using h2
  simp[ar,bd,hg i hi]
theorem jG (m:Bool) (kind n most:Int) (ns:List Int) (hkind:oC kind) (hn:oC n) (hns:ng ns) (hm1:1<=most) (hm8:most<=8):
  au Tryz.prog 37 [.int .i64 kind,.int .i64 n,.sl m 1 (dB ns),.int .i64 most] (.p (cG nJ (uf (wI kind) (iw n most) (tE (wI kind) n) (bl ns)))) []:=by
 have hkz:((wI kind:Nat):Int)=1+kind%7:=by unfold wI;omega
 have hmz:=Int.emod_nonneg n (show most≠0 by omega)
 have hmz2:=Int.emod_lt_of_pos n (show(0:Int)<most by omega)
 have hnz:((iw n most:Nat):Int)=1+n%most:=by unfold iw;omega
 obtain⟨k,hk⟩:∃k,k=wI kind:=⟨_,rfl⟩
 obtain⟨N,hN⟩:∃N,N=iw n most:=⟨_,rfl⟩
 obtain⟨r,hr⟩:∃r,r=tE k n:=⟨_,rfl⟩
 rw[<-hk]at hkz⊢
 rw[<-hN]at hnz⊢
 rw[<-hr]
 have k1:1<=k:=by omega
 have k7:k<=7:=by omega
 have n1:1<=N:=by omega
 have n8:N<=8:=by omega
 have hr3:r<=3:=by rw[hr];unfold tE;split<;>omega
 obtain⟨ca,cb,ch,cbn⟩:=bU (k:=k) (r:=r) n1 n8 hr3
 have hf:∀i,-20<=bl ns i/\bl ns i<=20:=fun i=>lK _
 have hfb:∀i,Bz (bl ns i) 5:=gj ns
 refine aa (wr:=a9) a6 mixed Tryz.func37 (by kernel_rfl) rfl (by kernel_rfl) (af rfl) (by simp) ?_
 refine ab.pure (gE kind 7 (by omega) (by omega)) ?_
 refine ae.ao (k:Int) (by omega) (by omega) ?_
 refine ab.pure (gE n most (by omega) (by omega)) ?_
 refine ae.ao (N:Int) (by omega) (by omega) ?_
 refine ab.pure (tx k k1 k7) ?_
 by_cases hl:k=6\/k=7
 ·rw[decide_eq_true hl]
  refine a8.mk (fun _=>?_) (fun h=>by cases h)
  have hq: -9223372036854775808<=n.tdiv 8/\n.tdiv 8<9223372036854775808:=by
   unfold oC at hn
   rw[Int.tdiv_eq_ediv,show Int.sign 8=1 from rfl];split<;>omega
  refine ue.mk (by omega) ?_
  refine ae.ao (n.tdiv 8) rfl hq ?_
  refine ab.pure (gE (n.tdiv 8) 2 (by omega) (by omega)) ?_
  have hrz:1+n.tdiv 8%2=(r:Int):=by rw[hr];unfold tE;rw[if_pos hl];omega
  refine ae.ao (r:Int) hrz (by omega) ?_
  have hc:=kx k N r k1 k7 n1 n8 hr3 fB fB fB fB
  refine ab.bg (hc) (fun _=>rfl) ?_
  refine ae.ao ((aw k N+aH k N:Nat):Int) (by omega) (by omega) ?_
  refine ae.ao ((2*aE k N r:Nat):Int) (by omega) (by omega) ?_
  refine ae.ao ((aw k N+aH k N+2*aE k N r:Nat):Int) (by omega) (by omega) ?_
  refine ab.fresh (pvs:=[.sl m 1 (dB ns),.int .i64 ((aw k N+aH k N+2*aE k N r:Nat):Int)]) (o7 m ns hns (aw k N+aH k N+2*aE k N r) (by omega)) ?_
  refine aO.cM (by kernel_rfl) ?_
  repeat refine aj.mk _ _ (And.intro rfl rfl) rfl ?_
  refine aj.mk _ _ (SZ.mk (aw k N:Int) rfl<|bT.mk (by simp)<|fp.mk (0) (aw k N) rfl rfl (by omega) (by omega) (And.intro rfl rfl)) rfl ?_
  repeat refine aj.mk _ _ (And.intro rfl rfl) rfl ?_
  refine aj.mk _ _ (ae.ao ((aw k N+aH k N:Nat):Int) (by omega) (by omega) (And.intro rfl rfl)) rfl ?_
  repeat refine aj.mk _ _ (And.intro rfl rfl) rfl ?_
  refine aj.mk _ _ (ae.ao ((aw k N+aH k N:Nat):Int) (by omega) (by omega) (And.intro rfl rfl)) rfl ?_
  refine aj.mk _ _ (SZ.mk ((aw k N+aH k N:Nat):Int) rfl<|bT.mk (by simp)<|fp.mk (aw k N) (aw k N+aH k N) rfl rfl (by omega) (by omega) (And.intro rfl rfl)) rfl ?_
  repeat refine aj.mk _ _ (And.intro rfl rfl) rfl ?_
  refine aj.mk _ _ (ae.ao ((aw k N+aH k N:Nat):Int) (by omega) (by omega) (And.intro rfl rfl)) rfl ?_
  repeat refine aj.mk _ _ (And.intro rfl rfl) rfl ?_
  refine aj.mk _ _ (ae.ao ((aw k N+aH k N:Nat):Int) (by omega) (by omega) (And.intro rfl rfl)) rfl ?_
  repeat refine aj.mk _ _ (And.intro rfl rfl) rfl ?_
  refine aj.mk _ _ (ae.ao ((aw k N+aH k N+aE k N r:Nat):Int) (by omega) (by omega) (And.intro rfl rfl)) rfl ?_
  repeat refine aj.mk _ _ (And.intro rfl rfl) rfl ?_
  refine aj.mk _ _ (ae.ao ((aw k N+aH k N:Nat):Int) (by omega) (by omega) (And.intro rfl rfl)) rfl ?_
  repeat refine aj.mk _ _ (And.intro rfl rfl) rfl ?_
  refine aj.mk _ _ (ae.ao ((aw k N+aH k N+aE k N r:Nat):Int) (by omega) (by omega) (And.intro rfl rfl)) rfl ?_
  refine aj.mk _ _ (SZ.mk ((aw k N+aH k N+aE k N r:Nat):Int) rfl<|bT.mk (by simp)<|fp.mk (aw k N+aH k N) (aw k N+aH k N+aE k N r) rfl rfl (by omega) (by omega) (And.intro rfl rfl)) rfl ?_
  repeat refine aj.mk _ _ (And.intro rfl rfl) rfl ?_
  refine aj.mk _ _ (ae.ao ((aw k N+aH k N:Nat):Int) (by omega) (by omega) (And.intro rfl rfl)) rfl ?_
  repeat refine aj.mk _ _ (And.intro rfl rfl) rfl ?_
  refine aj.mk _ _ (ae.ao ((aw k N+aH k N+aE k N r:Nat):Int) (by omega) (by omega) (And.intro rfl rfl)) rfl ?_
  refine aj.mk _ _ (fp.mk (aw k N+aH k N+aE k N r) (aw k N+aH k N+2*aE k N r) rfl rfl (by omega) (by omega) (And.intro rfl rfl)) rfl ?_
  repeat refine aj.mk _ _ (And.intro rfl rfl) rfl ?_
  refine br.mk (by kernel_rfl) ?_
  refine aM.mk (Nat×(Nat->Rat)) (fun(j,F)=>([(8,.aF 0 0),(9,.aF 1 0),(10,.p (.int .i64 (aw k N))),(11,.p (.int .i64 (aH k N))),(14,.p (.int .i64 j))],
    [.box 26 pS,.box 26 (kI k N r),.vec 38 3 (bd (ar (aw k N+aH k N+2*aE k N r) F))]))
   (fun(j,F)=>j<=aH k N/\∀t,t<aw k N+aH k N+2*aE k N r->F t=if aw k N<=t/\t<aw k N+j then eQ (bl ns) (t-aw k N) (bl ns t) (aw k N)else bl ns t) (fun x=>aH k N-x.1) (0,bl ns) [0,1,2]
   ⟨Nat.zero_le _,fun t _=>by rw[if_neg (by omega)]⟩ ⟨rfl,by simp,rfl,rfl,rfl,⟨rfl,rfl,rfl,rfl,rfl,trivial⟩,⟨rfl,rfl,rfl,trivial⟩⟩ ?_
  intro⟨j,F⟩ ⟨j1,j2⟩
  by_cases hj:j<aH k N
  ·refine ag.yes (decide_eq_true (by omega)) ?_
   refine aM.mk (Nat×(Nat->Rat)) (fun(i,F)=>([(8,.aF 0 0),(9,.aF 1 0),(10,.p (.int .i64 (aw k N))),(11,.p (.int .i64 (aH k N))),(14,.p (.int .i64 j)),(15,.p (.int .i64 i))],
     [.box 26 pS,.box 26 (kI k N r),.vec 38 3 (bd (ar (aw k N+aH k N+2*aE k N r) F))]))
    (fun(i,F')=>i<=aw k N/\∀t,t<aw k N+aH k N+2*aE k N r->F' t=if t=aw k N+j then eQ (bl ns) j (bl ns (aw k N+j)) i else F t) (fun x=>aw k N-x.1) (0,F) [0,1,2]
    ⟨Nat.zero_le _,fun t ht=>by
     split
     ·rename_i e;rw[j2 t ht,if_neg (by omega),e];rfl
     ·rfl⟩ ⟨rfl,by simp,rfl,rfl,rfl,⟨rfl,rfl,rfl,rfl,rfl,rfl,trivial⟩,⟨rfl,rfl,rfl,trivial⟩⟩ ?_
   intro⟨i,F'⟩ ⟨i1,i2⟩
   by_cases hi:i<aw k N
   ·refine ag.yes (decide_eq_true (by omega)) ?_
    have eA:F' i=bl ns i:=by rw[i2 i (by omega),if_neg (by omega),j2 i (by omega),if_neg (by omega)]
    have eB:F' (aw k N+j)=eQ (bl ns) j (bl ns (aw k N+j)) i:=by rw[i2 _ (by omega),if_pos rfl]
    have zA:Bz (bl ns i) 13:=(hfb i).mono (by omega)
    have zB:=rL hf (j:=j) (by omega) (hf (aw k N+j)) (hfb _) i
    refine aO.mk (by kernel_rfl) ?_
    repeat refine aj.mk _ _ (And.intro rfl rfl) rfl ?_
    refine aj.mk _ _ (aI.mk i rfl (by omega) (And.intro rfl rfl)) rfl ?_
    refine aj.mk _ _ (aG.rv (i+(0+0)) (bl ns i) rfl (by omega) eA (And.intro rfl rfl)) rfl ?_
    repeat refine aj.mk _ _ (And.intro rfl rfl) rfl ?_
    refine aj.mk _ _ (aI.mk j rfl (by omega) (And.intro rfl rfl)) rfl ?_
    refine aj.mk _ _ (aG.rv (j+(0+aw k N)) (eQ (bl ns) j (bl ns (aw k N+j)) i) rfl (by omega) (by rw[<-eB];congr 1;omega) (And.intro rfl rfl)) rfl ?_
    repeat refine aj.mk _ _ (And.intro rfl rfl) rfl ?_
    refine aj.mk _ _ (ab.pure (oJ _ _ zA zB (by omega)) (And.intro rfl rfl)) rfl ?_
    repeat refine aj.mk _ _ (And.intro rfl rfl) rfl ?_
    by_cases heq:bl ns i=eQ (bl ns) j (bl ns (aw k N+j)) i
    ·refine a8.mk (fun _=>?_) (fun hb=>absurd heq (of_decide_eq_false hb))
     have zO:Bz (((100+j:Nat):Int):Rat) 7:=i7 (k:=7) (cK (by rw[Int.natAbs_natCast];omega)) (by omega)
     refine aO.cM (by kernel_rfl) ?_
     repeat refine aj.mk _ _ (And.intro rfl rfl) rfl ?_
     refine aj.mk _ _ (aI.mk j rfl (by omega) (And.intro rfl rfl)) rfl ?_
     refine aj.mk _ _ (aG.rv (j+(0+aw k N)) (eQ (bl ns) j (bl ns (aw k N+j)) i) rfl (by omega) (by rw[<-eB];congr 1;omega) (And.intro rfl rfl)) rfl ?_
     repeat refine aj.mk _ _ (And.intro rfl rfl) rfl ?_
     refine aj.mk _ _ (ae.ao ((100+j:Nat):Int) (by omega) (by omega) (And.intro rfl rfl)) rfl ?_
     refine aj.mk _ _ (ab.pure (eZ ((100+j:Nat):Int) (by omega)) (And.intro rfl rfl)) rfl ?_
     refine aj.mk _ _ (ab.pure (t7 _ _ zB zO (by omega)) (And.intro rfl rfl)) rfl ?_
     refine aj.mk _ _ (aI.mk j rfl (by omega) (And.intro rfl rfl)) rfl ?_
     refine aj.mk _ _ (bT.rf (by omega)<|cH.rf (And.intro rfl rfl)) rfl ?_
     refine br.mk (by kernel_rfl) ?_
     refine ae.ao ((i+1:Nat):Int) (by omega) (by omega) ?_
     refine⟨(i+1,_),[0,1,2],⟨hi,fun t ht=>?_⟩,by show aw k N-(i+1)<aw k N-i;omega,⟨rfl,by simp,rfl,rfl,rfl,⟨rfl,rfl,rfl,rfl,rfl,rfl,trivial⟩,⟨rfl,rfl,rfl,trivial⟩⟩⟩
     by_cases e:t=aw k N+j
     ·have e':t=j+(0+aw k N):=by omega
      rw[if_pos e,e',aA];simp only[eQ];rw[if_pos heq]
     ·rw[if_neg e,aD _ _ (by omega),i2 t ht,if_neg e]
    ·refine a8.mk (fun hb=>absurd (of_decide_eq_true hb) heq) (fun _=>?_)
     refine ae.ao ((i+1:Nat):Int) (by omega) (by omega) ?_
     refine⟨(i+1,F'),[0,1,2],⟨hi,fun t ht=>?_⟩,by show aw k N-(i+1)<aw k N-i;omega,⟨rfl,by simp,rfl,rfl,rfl,⟨rfl,rfl,rfl,rfl,rfl,rfl,trivial⟩,⟨rfl,rfl,rfl,trivial⟩⟩⟩
     rw[i2 t ht]
     by_cases e:t=aw k N+j
     ·rw[if_pos e,if_pos e];simp only[eQ];rw[if_neg heq]
     ·rw[if_neg e,if_neg e]
   ·refine ag.no (decide_eq_false (by omega)) ?_
    obtain rfl:i=aw k N:=by omega
    refine ae.ao ((j+1:Nat):Int) (by omega) (by omega) ?_
    refine⟨(j+1,F'),[0,1,2],⟨hj,fun t ht=>?_⟩,by show aH k N-(j+1)<aH k N-j;omega,⟨rfl,by simp,rfl,rfl,rfl,⟨rfl,rfl,rfl,rfl,rfl,trivial⟩,⟨rfl,rfl,rfl,trivial⟩⟩⟩
    rw[i2 t ht]
    by_cases e:t=aw k N+j
    ·rw[if_pos e,if_pos (by omega),e,show aw k N+j-aw k N=j by omega]
    ·rw[if_neg e,j2 t ht]
     by_cases e2:aw k N<=t/\t<aw k N+j
     ·rw[if_pos e2,if_pos (by omega)]
     ·rw[if_neg e2,if_neg (by omega)]
  ·refine ag.no (decide_eq_false (by omega)) ?_
   obtain rfl:j=aH k N:=by omega
   have hL:look [.box 26 pS,.box 26 (kI k N r),.vec 38 3 (bd (ar (aw k N+aH k N+2*aE k N r) F))] (2:Nat)= .vec 38 3 (bd (ar (aw k N+aH k N+2*aE k N r) F)):=rfl
   refine aq.pure (.mJ (ps:=oc nJ (uf k N r (bl ns))) (fun d hd=>by simp at hd;rcases hd with rfl|rfl|rfl|rfl|rfl|rfl|rfl<;>rfl) rfl fun i c d e1 e2=>?_)
   match i,e1,e2 with
   |0,e1,e2=>cases e1;cases e2;exact .p _ (.int _ _)
   |1,e1,e2=>cases e1;cases e2;exact .p _ (.int _ _)
   |2,e1,e2=>cases e1;cases e2;exact .p _ (.int _ _)
   |3,e1,e2=>
    cases e1;cases e2
    exact gC (N:=aw k N+aH k N+2*aE k N r) (F:=F) rfl (by omega) (Nat.sub_zero _) fun t ht=>by
     have ht:t<aw k N:=ht
     rw[j2 _ (by omega),if_neg (by omega)];show bl ns (0+0+t)=bl ns t;congr 1;omega
   |4,e1,e2=>
    cases e1;cases e2
    exact gC (N:=aw k N+aH k N+2*aE k N r) (F:=F) rfl (by omega) (by show _=aH k N;omega) fun t ht=>by
     have ht:t<aH k N:=ht
     rw[j2 _ (by omega),if_pos (by omega)]
     show eQ _ (0+aw k N+t-aw k N) _ _=eQ _ t (bl ns (aw k N+t)) _
     rw[show 0+aw k N+t=aw k N+t by omega,show aw k N+t-aw k N=t by omega]
   |5,e1,e2=>
    cases e1;cases e2
    exact gC (N:=aw k N+aH k N+2*aE k N r) (F:=F) rfl (by omega) (by show _=aE k N r;omega) fun t ht=>by
     have ht:t<aE k N r:=ht
     rw[j2 _ (by omega),if_neg (by omega)];show bl ns _=bl ns (aw k N+aH k N+t);congr 1;omega
   |6,e1,e2=>
    cases e1;cases e2
    exact gC (N:=aw k N+aH k N+2*aE k N r) (F:=F) rfl (by omega) (by show _=aE k N r;omega) fun t ht=>by
     have ht:t<aE k N r:=ht
     rw[j2 _ (by omega),if_neg (by omega)];show bl ns _=bl ns (aw k N+aH k N+aE k N r+t);congr 1;omega
 ·rw[decide_eq_false hl]
  refine a8.mk (fun h=>by cases h) (fun _=>?_)
  have hr0:r=0:=by rw[hr];unfold tE;rw[if_neg hl]
  subst hr0
  have hc:=kx k N 0 k1 k7 n1 n8 hr3 fB fB fB fB
  refine ab.bg (hc) (fun _=>rfl) ?_
  refine ae.ao ((aw k N+aH k N:Nat):Int) (by omega) (by omega) ?_
  refine ae.ao ((2*aE k N 0:Nat):Int) (by omega) (by omega) ?_
  refine ae.ao ((aw k N+aH k N+2*aE k N 0:Nat):Int) (by omega) (by omega) ?_
  refine ab.fresh (pvs:=[.sl m 1 (dB ns),.int .i64 ((aw k N+aH k N+2*aE k N 0:Nat):Int)]) (o7 m ns hns (aw k N+aH k N+2*aE k N 0) (by omega)) ?_
  refine aO.cM (by kernel_rfl) ?_
  repeat refine aj.mk _ _ (And.intro rfl rfl) rfl ?_
  refine aj.mk _ _ (SZ.mk (aw k N:Int) rfl<|bT.mk (by simp)<|fp.mk (0) (aw k N) rfl rfl (by omega) (by omega) (And.intro rfl rfl)) rfl ?_
  repeat refine aj.mk _ _ (And.intro rfl rfl) rfl ?_
  refine aj.mk _ _ (ae.ao ((aw k N+aH k N:Nat):Int) (by omega) (by omega) (And.intro rfl rfl)) rfl ?_
  repeat refine aj.mk _ _ (And.intro rfl rfl) rfl ?_
  refine aj.mk _ _ (ae.ao ((aw k N+aH k N:Nat):Int) (by omega) (by omega) (And.intro rfl rfl)) rfl ?_
  refine aj.mk _ _ (SZ.mk ((aw k N+aH k N:Nat):Int) rfl<|bT.mk (by simp)<|fp.mk (aw k N) (aw k N+aH k N) rfl rfl (by omega) (by omega) (And.intro rfl rfl)) rfl ?_
  repeat refine aj.mk _ _ (And.intro rfl rfl) rfl ?_
  refine aj.mk _ _ (ae.ao ((aw k N+aH k N:Nat):Int) (by omega) (by omega) (And.intro rfl rfl)) rfl ?_
  repeat refine aj.mk _ _ (And.intro rfl rfl) rfl ?_
  refine aj.mk _ _ (ae.ao ((aw k N+aH k N:Nat):Int) (by omega) (by omega) (And.intro rfl rfl)) rfl ?_
  repeat refine aj.mk _ _ (And.intro rfl rfl) rfl ?_
  refine aj.mk _ _ (ae.ao ((aw k N+aH k N+aE k N 0:Nat):Int) (by omega) (by omega) (And.intro rfl rfl)) rfl ?_
  repeat refine aj.mk _ _ (And.intro rfl rfl) rfl ?_
  refine aj.mk _ _ (ae.ao ((aw k N+aH k N:Nat):Int) (by omega) (by omega) (And.intro rfl rfl)) rfl ?_
  repeat refine aj.mk _ _ (And.intro rfl rfl) rfl ?_
  refine aj.mk _ _ (ae.ao ((aw k N+aH k N+aE k N 0:Nat):Int) (by omega) (by omega) (And.intro rfl rfl)) rfl ?_
  refine aj.mk _ _ (SZ.mk ((aw k N+aH k N+aE k N 0:Nat):Int) rfl<|bT.mk (by simp)<|fp.mk (aw k N+aH k N) (aw k N+aH k N+aE k N 0) rfl rfl (by omega) (by omega) (And.intro rfl rfl)) rfl ?_
  repeat refine aj.mk _ _ (And.intro rfl rfl) rfl ?_
  refine aj.mk _ _ (ae.ao ((aw k N+aH k N:Nat):Int) (by omega) (by omega) (And.intro rfl rfl)) rfl ?_
  repeat refine aj.mk _ _ (And.intro rfl rfl) rfl ?_
  refine aj.mk _ _ (ae.ao ((aw k N+aH k N+aE k N 0:Nat):Int) (by omega) (by omega) (And.intro rfl rfl)) rfl ?_
  refine aj.mk _ _ (fp.mk (aw k N+aH k N+aE k N 0) (aw k N+aH k N+2*aE k N 0) rfl rfl (by omega) (by omega) (And.intro rfl rfl)) rfl ?_
  repeat refine aj.mk _ _ (And.intro rfl rfl) rfl ?_
  refine br.mk (by kernel_rfl) ?_
  refine aM.mk (Nat×(Nat->Rat)) (fun(j,F)=>([(8,.aF 0 0),(9,.aF 1 0),(10,.p (.int .i64 (aw k N))),(11,.p (.int .i64 (aH k N))),(14,.p (.int .i64 j))],
    [.box 26 pS,.box 26 (kI k N 0),.vec 38 3 (bd (ar (aw k N+aH k N+2*aE k N 0) F))]))
   (fun(j,F)=>j<=aH k N/\∀t,t<aw k N+aH k N+2*aE k N 0->F t=if aw k N<=t/\t<aw k N+j then eQ (bl ns) (t-aw k N) (bl ns t) (aw k N)else bl ns t) (fun x=>aH k N-x.1) (0,bl ns) [0,1,2]
   ⟨Nat.zero_le _,fun t _=>by rw[if_neg (by omega)]⟩ ⟨rfl,by simp,rfl,rfl,rfl,⟨rfl,rfl,rfl,rfl,rfl,trivial⟩,⟨rfl,rfl,rfl,trivial⟩⟩ ?_
  intro⟨j,F⟩ ⟨j1,j2⟩
  by_cases hj:j<aH k N
  ·refine ag.yes (decide_eq_true (by omega)) ?_
   refine aM.mk (Nat×(Nat->Rat)) (fun(i,F)=>([(8,.aF 0 0),(9,.aF 1 0),(10,.p (.int .i64 (aw k N))),(11,.p (.int .i64 (aH k N))),(14,.p (.int .i64 j)),(15,.p (.int .i64 i))],
     [.box 26 pS,.box 26 (kI k N 0),.vec 38 3 (bd (ar (aw k N+aH k N+2*aE k N 0) F))]))
    (fun(i,F')=>i<=aw k N/\∀t,t<aw k N+aH k N+2*aE k N 0->F' t=if t=aw k N+j then eQ (bl ns) j (bl ns (aw k N+j)) i else F t) (fun x=>aw k N-x.1) (0,F) [0,1,2]
    ⟨Nat.zero_le _,fun t ht=>by
     split
     ·rename_i e;rw[j2 t ht,if_neg (by omega),e];rfl
     ·rfl⟩ ⟨rfl,by simp,rfl,rfl,rfl,⟨rfl,rfl,rfl,rfl,rfl,rfl,trivial⟩,⟨rfl,rfl,rfl,trivial⟩⟩ ?_
   intro⟨i,F'⟩ ⟨i1,i2⟩
   by_cases hi:i<aw k N
   ·refine ag.yes (decide_eq_true (by omega)) ?_
    have eA:F' i=bl ns i:=by rw[i2 i (by omega),if_neg (by omega),j2 i (by omega),if_neg (by omega)]
    have eB:F' (aw k N+j)=eQ (bl ns) j (bl ns (aw k N+j)) i:=by rw[i2 _ (by omega),if_pos rfl]
    have zA:Bz (bl ns i) 13:=(hfb i).mono (by omega)
    have zB:=rL hf (j:=j) (by omega) (hf (aw k N+j)) (hfb _) i
    refine aO.mk (by kernel_rfl) ?_
    repeat refine aj.mk _ _ (And.intro rfl rfl) rfl ?_
    refine aj.mk _ _ (aI.mk i rfl (by omega) (And.intro rfl rfl)) rfl ?_
    refine aj.mk _ _ (aG.rv (i+(0+0)) (bl ns i) rfl (by omega) eA (And.intro rfl rfl)) rfl ?_
    repeat refine aj.mk _ _ (And.intro rfl rfl) rfl ?_
    refine aj.mk _ _ (aI.mk j rfl (by omega) (And.intro rfl rfl)) rfl ?_
    refine aj.mk _ _ (aG.rv (j+(0+aw k N)) (eQ (bl ns) j (bl ns (aw k N+j)) i) rfl (by omega) (by rw[<-eB];congr 1;omega) (And.intro rfl rfl)) rfl ?_
    repeat refine aj.mk _ _ (And.intro rfl rfl) rfl ?_
    refine aj.mk _ _ (ab.pure (oJ _ _ zA zB (by omega)) (And.intro rfl rfl)) rfl ?_
    repeat refine aj.mk _ _ (And.intro rfl rfl) rfl ?_
    by_cases heq:bl ns i=eQ (bl ns) j (bl ns (aw k N+j)) i
    ·refine a8.mk (fun _=>?_) (fun hb=>absurd heq (of_decide_eq_false hb))
     have zO:Bz (((100+j:Nat):Int):Rat) 7:=i7 (k:=7) (cK (by rw[Int.natAbs_natCast];omega)) (by omega)
     refine aO.cM (by kernel_rfl) ?_
     repeat refine aj.mk _ _ (And.intro rfl rfl) rfl ?_
     refine aj.mk _ _ (aI.mk j rfl (by omega) (And.intro rfl rfl)) rfl ?_
     refine aj.mk _ _ (aG.rv (j+(0+aw k N)) (eQ (bl ns) j (bl ns (aw k N+j)) i) rfl (by omega) (by rw[<-eB];congr 1;omega) (And.intro rfl rfl)) rfl ?_
     repeat refine aj.mk _ _ (And.intro rfl rfl) rfl ?_
     refine aj.mk _ _ (ae.ao ((100+j:Nat):Int) (by omega) (by omega) (And.intro rfl rfl)) rfl ?_
     refine aj.mk _ _ (ab.pure (eZ ((100+j:Nat):Int) (by omega)) (And.intro rfl rfl)) rfl ?_
     refine aj.mk _ _ (ab.pure (t7 _ _ zB zO (by omega)) (And.intro rfl rfl)) rfl ?_
     refine aj.mk _ _ (aI.mk j rfl (by omega) (And.intro rfl rfl)) rfl ?_
     refine aj.mk _ _ (bT.rf (by omega)<|cH.rf (And.intro rfl rfl)) rfl ?_
     refine br.mk (by kernel_rfl) ?_
     refine ae.ao ((i+1:Nat):Int) (by omega) (by omega) ?_
     refine⟨(i+1,_),[0,1,2],⟨hi,fun t ht=>?_⟩,by show aw k N-(i+1)<aw k N-i;omega,⟨rfl,by simp,rfl,rfl,rfl,⟨rfl,rfl,rfl,rfl,rfl,rfl,trivial⟩,⟨rfl,rfl,rfl,trivial⟩⟩⟩
     by_cases e:t=aw k N+j
     ·have e':t=j+(0+aw k N):=by omega
      rw[if_pos e,e',aA];simp only[eQ];rw[if_pos heq]
     ·rw[if_neg e,aD _ _ (by omega),i2 t ht,if_neg e]
    ·refine a8.mk (fun hb=>absurd (of_decide_eq_true hb) heq) (fun _=>?_)
     refine ae.ao ((i+1:Nat):Int) (by omega) (by omega) ?_
     refine⟨(i+1,F'),[0,1,2],⟨hi,fun t ht=>?_⟩,by show aw k N-(i+1)<aw k N-i;omega,⟨rfl,by simp,rfl,rfl,rfl,⟨rfl,rfl,rfl,rfl,rfl,rfl,trivial⟩,⟨rfl,rfl,rfl,trivial⟩⟩⟩
     rw[i2 t ht]
     by_cases e:t=aw k N+j
     ·rw[if_pos e,if_pos e];simp only[eQ];rw[if_neg heq]
     ·rw[if_neg e,if_neg e]
   ·refine ag.no (decide_eq_false (by omega)) ?_
    obtain rfl:i=aw k N:=by omega
    refine ae.ao ((j+1:Nat):Int) (by omega) (by omega) ?_
    refine⟨(j+1,F'),[0,1,2],⟨hj,fun t ht=>?_⟩,by show aH k N-(j+1)<aH k N-j;omega,⟨rfl,by simp,rfl,rfl,rfl,⟨rfl,rfl,rfl,rfl,rfl,trivial⟩,⟨rfl,rfl,rfl,trivial⟩⟩⟩
    rw[i2 t ht]
    by_cases e:t=aw k N+j
    ·rw[if_pos e,if_pos (by omega),e,show aw k N+j-aw k N=j by omega]
    ·rw[if_neg e,j2 t ht]
     by_cases e2:aw k N<=t/\t<aw k N+j
     ·rw[if_pos e2,if_pos (by omega)]
     ·rw[if_neg e2,if_neg (by omega)]
  ·refine ag.no (decide_eq_false (by omega)) ?_
   obtain rfl:j=aH k N:=by omega
   have hL:look [.box 26 pS,.box 26 (kI k N 0),.vec 38 3 (bd (ar (aw k N+aH k N+2*aE k N 0) F))] (2:Nat)= .vec 38 3 (bd (ar (aw k N+aH k N+2*aE k N 0) F)):=rfl
   refine aq.pure (.mJ (ps:=oc nJ (uf k N 0 (bl ns))) (fun d hd=>by simp at hd;rcases hd with rfl|rfl|rfl|rfl|rfl|rfl|rfl<;>rfl) rfl fun i c d e1 e2=>?_)
   match i,e1,e2 with
   |0,e1,e2=>cases e1;cases e2;exact .p _ (.int _ _)
   |1,e1,e2=>cases e1;cases e2;exact .p _ (.int _ _)
   |2,e1,e2=>cases e1;cases e2;exact .p _ (.int _ _)
   |3,e1,e2=>
    cases e1;cases e2
    exact gC (N:=aw k N+aH k N+2*aE k N 0) (F:=F) rfl (by omega) (Nat.sub_zero _) fun t ht=>by
     have ht:t<aw k N:=ht
     rw[j2 _ (by omega),if_neg (by omega)];show bl ns (0+0+t)=bl ns t;congr 1;omega
   |4,e1,e2=>
    cases e1;cases e2
    exact gC (N:=aw k N+aH k N+2*aE k N 0) (F:=F) rfl (by omega) (by show _=aH k N;omega) fun t ht=>by
     have ht:t<aH k N:=ht
     rw[j2 _ (by omega),if_pos (by omega)]
     show eQ _ (0+aw k N+t-aw k N) _ _=eQ _ t (bl ns (aw k N+t)) _
     rw[show 0+aw k N+t=aw k N+t by omega,show aw k N+t-aw k N=t by omega]
   |5,e1,e2=>
    cases e1;cases e2
    exact gC (N:=aw k N+aH k N+2*aE k N 0) (F:=F) rfl (by omega) (by show _=aE k N 0;omega) fun t ht=>by
     have ht:t<aE k N 0:=ht
     rw[j2 _ (by omega),if_neg (by omega)];show bl ns _=bl ns (aw k N+aH k N+t);congr 1;omega
   |6,e1,e2=>
    cases e1;cases e2
    exact gC (N:=aw k N+aH k N+2*aE k N 0) (F:=F) rfl (by omega) (by show _=aE k N 0;omega) fun t ht=>by
     have ht:t<aE k N 0:=ht
     rw[j2 _ (by omega),if_neg (by omega)];show bl ns _=bl ns (aw k N+aH k N+aE k N 0+t);congr 1;omega
def qR (N:Nat) (ns:List Int):Prop:=1<ns.length/\ns.getD 1 0%4=0/\1<N
instance (N:Nat) (ns:List Int):Decidable (qR N ns):=inferInstanceAs (Decidable (_/\_/\_))
def xf (g:GV) (ns:List Int):GV:=if qR g.n ns then{g with A:=bz g.A (g.n-1) (g.A 0)}else g
theorem qg {q:Rat} {k:Nat} (h:Bz q k) (hk:k<=1099511627776):au Tryz.prog 84 [aJ q] (.p (aJ q)) []:=AU q h hk
theorem vP (m:Bool) (n most:Int) (ns:List Int) (like:Bool) (hn:oC n) (hns:ng ns) (hm1:1<=most) (hm8:most<=8):
  au Tryz.prog 36 [.int .i64 n,.sl m 1 (dB ns),.bool like,.int .i64 most] (.p (cG nJ (xf (uf (if like then 7 else 5) (iw n most) (tE (if like then 7 else 5) n) (bl ns)) ns))) []:=by
 cases like with
 |true=>
  obtain⟨g,hg⟩:∃g,g=uf 7 (iw n most) (tE 7 n) (bl ns):=⟨_,rfl⟩
  have hm:=jG m 6 n most ns (by unfold oC;omega) hn hns hm1 hm8
  have e13:wI 6=7:=by decide
  rw[e13,<-hg]at hm
  have gn:g.n=iw n most:=by rw[hg];rfl
  have gk:g.k=7:=by rw[hg];rfl
  have gA:g.A=bl ns:=by rw[hg];rfl
  have hmz:=Int.emod_nonneg n (show most≠0 by omega)
  have hmz2:=Int.emod_lt_of_pos n (show(0:Int)<most by omega)
  have hnz:((iw n most:Nat):Int)=1+n%most:=by unfold iw;omega
  rw[<-gn]at hnz
  have n1:1<=g.n:=by omega
  have n8:g.n<=8:=by omega
  have hla:g.la=g.n:=by unfold GV.la aw;rw[gk];rfl
  have bA:∀i,Bz (g.A i) 5:=by rw[gA];exact gj ns
  show au _ _ _ (.p (cG nJ (xf (uf 7 (iw n most) (tE 7 n) (bl ns)) ns))) []
  rw[<-hg]
  have conv:au Tryz.prog 36 [.int .i64 n,.sl m 1 (dB ns),.bool true,.int .i64 most] (.p (cG nJ (xf g ns))) []:=by
   refine aa (wr:=a9) a6 mixed Tryz.func36 (by kernel_rfl) rfl (by kernel_rfl) (af rfl) (by simp) ?_
   refine a8.mk (fun _=>?_) (fun h=>by cases h)
   refine ab.pure (hm) ?_
   refine SZ.mk (ns.length:Int) (by simp) ?_
   have fin0:¬qR g.n ns->xf g ns=g:=fun h=>if_neg h
   by_cases c1:1<ns.length
   ·refine ag.yes (decide_eq_true (by omega)) ?_
    refine aG.ib 1 rfl c1 ?_
    refine ab.pure (mT (ns.getD 1 0) 4 (by omega) (by omega)) ?_
    by_cases c2:ns.getD 1 0%4=0
    ·refine ag.yes (decide_eq_true c2) ?_
     by_cases c3:1<g.n
     ·refine ag.yes (decide_eq_true (by omega)) ?_
      have ht:xf g ns={g with A:=bz g.A (g.n-1) (g.A 0)}:=if_pos ⟨c1,c2,c3⟩
      rw[ht]
      have hlen:(bd (ar g.la g.A)).length=g.la:=by simp[ar]
      refine ck.mk (by simp[ar];omega) (by simp[ar];omega) ?_
      refine aO.cM (by kernel_rfl) ?_
      repeat refine aj.mk _ _ (And.intro rfl rfl) rfl ?_
      refine aj.mk _ _ (ae.ao ((g.n-1:Nat):Int) (by omega) (by omega) (And.intro rfl rfl)) rfl ?_
      repeat refine aj.mk _ _ (And.intro rfl rfl) rfl ?_
      refine aj.mk _ _ (aI.mk 0 rfl (by omega) (And.intro rfl rfl)) rfl ?_
      refine aj.mk _ _ (aG.rv (0+0) (g.A 0) rfl (by omega) rfl (And.intro rfl rfl)) rfl ?_
      refine aj.mk _ _ (ab.pure (qg (bA 0) (by omega)) (And.intro rfl rfl)) rfl ?_
      refine aj.mk _ _ (aI.mk (g.n-1) rfl (by omega) (And.intro rfl rfl)) rfl ?_
      refine aj.mk _ _ (bT.rf (by omega)<|cH.rf (And.intro rfl rfl)) rfl ?_
      repeat refine aj.mk _ _ (And.intro rfl rfl) rfl ?_
      refine br.mk (by kernel_rfl) ?_
      refine aq.pure (.mJ (ps:=oc nJ {g with A:=bz g.A (g.n-1) (g.A 0)}) (fun d hd=>by simp at hd;rcases hd with rfl|rfl|rfl|rfl|rfl|rfl|rfl<;>rfl) rfl fun i c d e1 e2=>?_)
      match i,e1,e2 with
      |0,e1,e2=>cases e1;cases e2;exact .p _ (.int _ _)
      |1,e1,e2=>cases e1;cases e2;exact .p _ (.int _ _)
      |2,e1,e2=>cases e1;cases e2;exact .p _ (.int _ _)
      |3,e1,e2=>cases e1;cases e2;exact gC (N:=g.la) (F:=bz g.A (g.n-1+0) (g.A 0)) rfl (by omega) hlen fun t _=>by rw[Nat.zero_add];rfl
      |4,e1,e2=>cases e1;cases e2;exact .p _ (.sl _ _ (aB _))
      |5,e1,e2=>cases e1;cases e2;exact .p _ (.sl _ _ (aB _))
      |6,e1,e2=>cases e1;cases e2;exact .p _ (.sl _ _ (aB _))
     ·refine ag.no (decide_eq_false (by omega)) ?_
      rw[fin0 fun h=>c3 h.2.2]
      exact aq.pure (.p _ (cN g))
    ·refine ag.no (decide_eq_false c2) ?_
     rw[fin0 fun h=>c2 h.2.1]
     exact aq.pure (.p _ (cN g))
   ·refine ag.no (decide_eq_false (by omega)) ?_
    rw[fin0 fun h=>c1 h.1]
    exact aq.pure (.p _ (cN g))
  exact conv
 |false=>
  obtain⟨g,hg⟩:∃g,g=uf 5 (iw n most) (tE 5 n) (bl ns):=⟨_,rfl⟩
  have hm:=jG m 4 n most ns (by unfold oC;omega) hn hns hm1 hm8
  have e13:wI 4=5:=by decide
  rw[e13,<-hg]at hm
  have gn:g.n=iw n most:=by rw[hg];rfl
  have gk:g.k=5:=by rw[hg];rfl
  have gA:g.A=bl ns:=by rw[hg];rfl
  have hmz:=Int.emod_nonneg n (show most≠0 by omega)
  have hmz2:=Int.emod_lt_of_pos n (show(0:Int)<most by omega)
  have hnz:((iw n most:Nat):Int)=1+n%most:=by unfold iw;omega
  rw[<-gn]at hnz
  have n1:1<=g.n:=by omega
  have n8:g.n<=8:=by omega
  have hla:g.la=g.n:=by unfold GV.la aw;rw[gk];rfl
  have bA:∀i,Bz (g.A i) 5:=by rw[gA];exact gj ns
  show au _ _ _ (.p (cG nJ (xf (uf 5 (iw n most) (tE 5 n) (bl ns)) ns))) []
  rw[<-hg]
  have conv:au Tryz.prog 36 [.int .i64 n,.sl m 1 (dB ns),.bool false,.int .i64 most] (.p (cG nJ (xf g ns))) []:=by
   refine aa (wr:=a9) a6 mixed Tryz.func36 (by kernel_rfl) rfl (by kernel_rfl) (af rfl) (by simp) ?_
   refine a8.mk (fun h=>by cases h) (fun _=>?_)
   refine ab.pure (hm) ?_
   refine SZ.mk (ns.length:Int) (by simp) ?_
   have fin0:¬qR g.n ns->xf g ns=g:=fun h=>if_neg h
   by_cases c1:1<ns.length
   ·refine ag.yes (decide_eq_true (by omega)) ?_
    refine aG.ib 1 rfl c1 ?_
    refine ab.pure (mT (ns.getD 1 0) 4 (by omega) (by omega)) ?_
    by_cases c2:ns.getD 1 0%4=0
    ·refine ag.yes (decide_eq_true c2) ?_
     by_cases c3:1<g.n
     ·refine ag.yes (decide_eq_true (by omega)) ?_
      have ht:xf g ns={g with A:=bz g.A (g.n-1) (g.A 0)}:=if_pos ⟨c1,c2,c3⟩
      rw[ht]
      have hlen:(bd (ar g.la g.A)).length=g.la:=by simp[ar]
      refine ck.mk (by simp[ar];omega) (by simp[ar];omega) ?_
      refine aO.cM (by kernel_rfl) ?_
      repeat refine aj.mk _ _ (And.intro rfl rfl) rfl ?_
      refine aj.mk _ _ (ae.ao ((g.n-1:Nat):Int) (by omega) (by omega) (And.intro rfl rfl)) rfl ?_
      repeat refine aj.mk _ _ (And.intro rfl rfl) rfl ?_
      refine aj.mk _ _ (aI.mk 0 rfl (by omega) (And.intro rfl rfl)) rfl ?_
      refine aj.mk _ _ (aG.rv (0+0) (g.A 0) rfl (by omega) rfl (And.intro rfl rfl)) rfl ?_
      refine aj.mk _ _ (ab.pure (qg (bA 0) (by omega)) (And.intro rfl rfl)) rfl ?_
      refine aj.mk _ _ (aI.mk (g.n-1) rfl (by omega) (And.intro rfl rfl)) rfl ?_
      refine aj.mk _ _ (bT.rf (by omega)<|cH.rf (And.intro rfl rfl)) rfl ?_
      repeat refine aj.mk _ _ (And.intro rfl rfl) rfl ?_
      refine br.mk (by kernel_rfl) ?_
      refine aq.pure (.mJ (ps:=oc nJ {g with A:=bz g.A (g.n-1) (g.A 0)}) (fun d hd=>by simp at hd;rcases hd with rfl|rfl|rfl|rfl|rfl|rfl|rfl<;>rfl) rfl fun i c d e1 e2=>?_)
      match i,e1,e2 with
      |0,e1,e2=>cases e1;cases e2;exact .p _ (.int _ _)
      |1,e1,e2=>cases e1;cases e2;exact .p _ (.int _ _)
      |2,e1,e2=>cases e1;cases e2;exact .p _ (.int _ _)
      |3,e1,e2=>cases e1;cases e2;exact gC (N:=g.la) (F:=bz g.A (g.n-1+0) (g.A 0)) rfl (by omega) hlen fun t _=>by rw[Nat.zero_add];rfl
      |4,e1,e2=>cases e1;cases e2;exact .p _ (.sl _ _ (aB _))
      |5,e1,e2=>cases e1;cases e2;exact .p _ (.sl _ _ (aB _))
      |6,e1,e2=>cases e1;cases e2;exact .p _ (.sl _ _ (aB _))
     ·refine ag.no (decide_eq_false (by omega)) ?_
      rw[fin0 fun h=>c3 h.2.2]
      exact aq.pure (.p _ (cN g))
    ·refine ag.no (decide_eq_false c2) ?_
     rw[fin0 fun h=>c2 h.2.1]
     exact aq.pure (.p _ (cN g))
   ·refine ag.no (decide_eq_false (by omega)) ?_
    rw[fin0 fun h=>c1 h.1]
    exact aq.pure (.p _ (cN g))
  exact conv
theorem uL {q:Rat} {b:Nat} (h:Bz q b):∀k,Bz (q^k) (b*k+1)
 |0=>by rw[Rat.pow_zero,Nat.mul_zero];exact cR
 |k+1=>by
  have:=(uL h k).mul h
  rw[Rat.pow_succ]
  exact this.mono (by rw[Nat.mul_succ];omega)
def pN (g:GV) (i j:Nat):Rat:=sm g.r fun t=>g.G (i*g.r+t)*g.H (j*g.r+t)
def aW (g:GV) (i j:Nat):Rat:=
 if g.k=1 then g.A (i+g.n-1-j)else if g.k=2 then g.A (i+j)else if g.k=3 then g.A ((i+g.n-j)%g.n)else if g.k=4 then g.A i^j
 else if g.k=5 then 1/(g.A i-g.B j)else if g.k=6 then sm (min i j+1) fun m=>pN g (i-m) (j-m)else pN g i j/(g.A i-g.B j)
structure Wf (g:GV) (b c:Nat):Prop where
 k1:1<=g.k
 k7:g.k<=7
 n1:1<=g.n
 n6:g.n<=6
 r2:g.r<=2
 r1:g.k=6\/g.k=7->1<=g.r
 r0:g.k<=5->g.r=0
 bA:∀i,i<g.la->Bz (g.A i) b
 bB:∀i,i<g.lb->Bz (g.B i) c
 bG:∀i,i<g.lh->Bz (g.G i) b
 bH:∀i,i<g.lh->Bz (g.H i) b
 ne:∀i j,i<g.la->j<g.lb->g.A i≠g.B j
 bc:b<=c
 c4:c<=100
abbrev nN (m:Nat->Bool) (g:GV):List AV:=[.p (.int .i64 g.k),.p (.int .i64 g.n),.p (.int .i64 g.r),.p (ah (m 0) (ar g.la g.A)),.p (ah (m 1) (ar g.lb g.B)),.p (ah (m 2) (ar g.lh g.G)),.p (ah (m 3) (ar g.lh g.H))]
theorem r6 {i n r t:Nat} (hi:i<n) (ht:t<r):i*r+t<n*r:=by
 have:(i+1)*r<=n*r:=Nat.mul_le_mul_right _ hi
 rw[Nat.succ_mul]at this;omega
theorem ik {F:Nat->Rat} {B n:Nat} (h:∀i,i<n->Bz (F i) B):∀k,k<=n->Bz (sm k F) (k*(B+1)+1):=by
 intro k
 induction k with
 |zero=>exact fun _=>bS.mono (by omega)
 |succ k ih=>
  intro hk
  exact((ih (by omega)).add (h k (by omega))).mono (by rw[Nat.succ_mul];omega)
theorem Wf.lh {g:GV} {b c:Nat} (h:Wf g b c) (hk:g.k=6\/g.k=7):g.lh=g.n*g.r:=if_pos hk
theorem Wf.prod {g:GV} {b c:Nat} (h:Wf g b c) (hk:g.k=6\/g.k=7) {i j:Nat} (hi:i<g.n) (hj:j<g.n):∀t,t<g.r->Bz (g.G (i*g.r+t)*g.H (j*g.r+t)) (2*b):=fun t ht=>
 ((h.bG _ (by rw[h.lh hk];exact r6 hi ht)).mul (h.bH _ (by rw[h.lh hk];exact r6 hj ht))).mono (by omega)
theorem Wf.CQ {g:GV} {b c:Nat} (h:Wf g b c) (hk:g.k=6\/g.k=7) {i j:Nat} (hi:i<g.n) (hj:j<g.n):Bz (pN g i j) (2*(2*b+1)+1):=
 (ik (h.prod hk hi hj) g.r (Nat.le_refl _)).mono (Nat.add_le_add_right (Nat.mul_le_mul_right _ h.r2) 1)
abbrev ub:List AV:=[.p (.bool false),.p (.sl false 1 []),.p (.sl false 1 [])]
theorem yf (k:Nat) (h1:1<=k) (h7:k<=7):au Tryz.prog 152 [.int .i64 k] (.p (.bool (decide (k=6\/k=7)))) []:=by
 refine aa (wr:=a9) a6 mixed Tryz.func152 (by kernel_rfl) rfl (by kernel_rfl) (af rfl) (by simp) ?_
 by_cases e6:k=6
 ·refine ag.yes (decide_eq_true (by omega)) ?_
  rw[decide_eq_true (.inl e6)]
  exact aq.pure (.tf _)
 ·refine ag.no (decide_eq_false (by omega)) ?_
  by_cases e7:k=7
  ·refine ag.yes (decide_eq_true (by omega)) ?_
   rw[decide_eq_true (.inr e7)]
   exact aq.pure (.tf _)
  ·refine ag.no (decide_eq_false (by omega)) ?_
   rw[decide_eq_false (by omega)]
   exact aq.pure (.tf _)
theorem gM (m:Nat->Bool) (g:GV) {b c:Nat} (h:Wf g b c):au Tryz.prog 90 [cG m g] (.p (.bool true)) []:=by
 have h1:=h.k1
 have h7:=h.k7
 have n1:=h.n1
 have n6:=h.n6
 have r2:=h.r2
 refine aa (wr:=a9) a6 mixed Tryz.func90 (by kernel_rfl) rfl (by kernel_rfl) (af rfl) (by simp) ?_
 refine ag.no (decide_eq_false (by omega)) ?_
 refine ag.no (decide_eq_false (by omega)) ?_
 refine ab.pure (yf g.k h1 h7) ?_
 by_cases hl:g.k=6\/g.k=7
 ·have r1:=h.r1 hl
  rw[decide_eq_true hl]
  refine a8.mk (fun _=>?_) (fun h=>by cases h)
  refine ag.yes (decide_eq_true (by omega)) ?_
  refine ag.yes (decide_eq_true (by omega)) ?_
  exact aq.pure (.tf _)
 ·have r0:=h.r0 (by omega)
  rw[decide_eq_false hl]
  refine a8.mk (fun h=>by cases h) (fun _=>?_)
  refine ag.yes (decide_eq_true (by omega)) ?_
  exact aq.pure (.tf _)
theorem eF (m:Nat->Bool) (g:GV):wy Tryz.prog 91 [cG m g] (.agg [ah (m 0) (ar g.la g.A),ah (m 1) (ar g.lb g.B),ah (m 2) (ar g.lh g.G),ah (m 3) (ar g.lh g.H)]):=by
 refine mW (wr:=a9) a6 mixed Tryz.func91 (by kernel_rfl) rfl (by kernel_rfl) (af rfl) ?_
 exact rfl
abbrev mD (k i:Int):PV:=.agg [.int .i64 k,.int .i64 i]
abbrev mG (a b c:Int):PV:=.agg [.int .i64 a,.int .i64 b,.int .i64 c]
abbrev pG:List (PV×PV):=[(mD 1 0,mG 2 0 (-1)),(mD 2 0,mG 2 0 (-1)),(mD 3 0,mG 1 0 0),(mD 4 0,mG 1 0 0),(mD 5 0,mG 1 0 0),(mD 5 1,mG 1 0 0),(mD 6 2,mG 0 1 0),(mD 6 3,mG 0 1 0),(mD 7 0,mG 1 0 0),(mD 7 1,mG 1 0 0),(mD 7 2,mG 0 1 0),(mD 7 3,mG 0 1 0)]
theorem fG:au Tryz.prog 92 [] (.p (.mp false pG)) []:=by
 refine aa (wr:=a9) a6 mixed Tryz.func92 (by kernel_rfl) rfl (by kernel_rfl) (af rfl) (by simp) ?_
 refine aO.cM (by kernel_rfl) ?_
 repeat refine aj.mk _ _ (And.intro rfl rfl) rfl ?_
 refine aj.mk _ _ (a5.all rfl<|dc.add rfl (And.intro rfl rfl)) rfl ?_
 repeat refine aj.mk _ _ (And.intro rfl rfl) rfl ?_
 refine aj.mk _ _ (a5.all rfl<|dc.add rfl (And.intro rfl rfl)) rfl ?_
 repeat refine aj.mk _ _ (And.intro rfl rfl) rfl ?_
 refine aj.mk _ _ (a5.all rfl<|dc.add rfl (And.intro rfl rfl)) rfl ?_
 repeat refine aj.mk _ _ (And.intro rfl rfl) rfl ?_
 refine aj.mk _ _ (a5.all rfl<|dc.add rfl (And.intro rfl rfl)) rfl ?_
 repeat refine aj.mk _ _ (And.intro rfl rfl) rfl ?_
 refine aj.mk _ _ (a5.all rfl<|dc.add rfl (And.intro rfl rfl)) rfl ?_
 repeat refine aj.mk _ _ (And.intro rfl rfl) rfl ?_
 refine aj.mk _ _ (a5.all rfl<|dc.add rfl (And.intro rfl rfl)) rfl ?_
 repeat refine aj.mk _ _ (And.intro rfl rfl) rfl ?_
 refine aj.mk _ _ (a5.all rfl<|dc.add rfl (And.intro rfl rfl)) rfl ?_
 repeat refine aj.mk _ _ (And.intro rfl rfl) rfl ?_
 refine aj.mk _ _ (a5.all rfl<|dc.add rfl (And.intro rfl rfl)) rfl ?_
 repeat refine aj.mk _ _ (And.intro rfl rfl) rfl ?_
 refine aj.mk _ _ (a5.all rfl<|dc.add rfl (And.intro rfl rfl)) rfl ?_
 repeat refine aj.mk _ _ (And.intro rfl rfl) rfl ?_
 refine aj.mk _ _ (a5.all rfl<|dc.add rfl (And.intro rfl rfl)) rfl ?_
 repeat refine aj.mk _ _ (And.intro rfl rfl) rfl ?_
 refine aj.mk _ _ (a5.all rfl<|dc.add rfl (And.intro rfl rfl)) rfl ?_
 repeat refine aj.mk _ _ (And.intro rfl rfl) rfl ?_
 refine aj.mk _ _ (a5.all rfl<|dc.add rfl (And.intro rfl rfl)) rfl ?_
 repeat refine aj.mk _ _ (And.intro rfl rfl) rfl ?_
 refine br.G8 (by kernel_rfl) ?_
 refine FT.mk pG rfl rfl fun es hp=>?_
 refine aq.pure (.vG (es:=es) rfl (by simp) hp fun e he=>?_)
 have:∀a b c d f:Int,bZ (mD a b)/\bZ (mG c d f):=fun a b c d f=>⟨.agg _ fun x hx=>by
  simp only[List.mem_cons,List.not_mem_nil,or_false]at hx;rcases hx with rfl|rfl<;>exact .int _ _,.agg _ fun x hx=>by
  simp only[List.mem_cons,List.not_mem_nil,or_false]at hx;rcases hx with rfl|rfl|rfl<;>exact .int _ _⟩
 have he:=hp.mem_iff.1 he
 simp only[pG,List.mem_cons,List.not_mem_nil,or_false]at he
 rcases he with rfl|rfl|rfl|rfl|rfl|rfl|rfl|rfl|rfl|rfl|rfl|rfl<;>exact this _ _ _ _ _
theorem DY {q:Rat} (h:Bz q 100):aL q.num.natAbs<=4/\aL q.den<=4:=by
 have:∀{a:Nat},bitLen a<=100->aL a<=4:=fun{a} ha=>dz (Nat.lt_of_lt_of_le (dY a) (Nat.le_trans (Nat.pow_le_pow_right (by decide) ha) (by decide)))
 exact⟨this h.1,this h.2⟩
theorem yq (q:Rat) (h:Bz q 100):au Tryz.prog 95 [aJ q] (.p (.bool true)) []:=by
 obtain⟨h1,h2⟩:=DY h
 refine aa (wr:=a9) a6 mixed Tryz.func95 (by kernel_rfl) rfl (by kernel_rfl) (af rfl) (by simp) ?_
 refine SZ.mk (aL q.num.natAbs:Int) (by simp) ?_
 refine ag.yes (decide_eq_true (by omega)) ?_
 refine SZ.mk (aL q.den:Int) (by simp) ?_
 refine ag.yes (decide_eq_true (by omega)) ?_
 refine ab.pure (dS q h.sz (by omega)) ?_
 exact aq.pure (.p _ (.bool _))
theorem bu (q:Rat) (h:Bz q 100):au Tryz.prog 94 [aJ q] (.p (.bool false)) []:=by
 refine aa (wr:=a9) a6 mixed Tryz.func94 (by kernel_rfl) rfl (by kernel_rfl) (af rfl) (by simp) ?_
 refine ab.pure (yq q h) ?_
 refine ag.no (rfl) ?_
 exact aq.pure (.tf _)
theorem fz (m:Bool) (a b:Rat) {k:Nat} (ha:Bz a k) (hb:Bz b k) (hk:k+k<=1048576):au Tryz.prog 96 [aJ b,.eT m (aJ a)] (.p (.bool (decide (a=b)))) []:=by
 refine aa (wr:=a9) a6 mixed Tryz.func96 (by kernel_rfl) rfl (by kernel_rfl) (af rfl) (by simp) ?_
 refine ab.pure (o8 a b ha.sz hb.sz (by omega)) ?_
 exact aq.pure (.p _ (.bool _))
theorem x9 (m:Bool) (l:List Rat) (hF:∀i,i<l.length->au Tryz.prog 94 [aJ (l.getD i 0)] (.p (.bool false)) []) (hn:l.length<=1099511627776):
  au Tryz.prog 153 [ah m l,.fn 94 []] (.p (.int .i64 (-1))) []:=by
 refine aa (wr:=a9) a6 mixed Tryz.func153 (by kernel_rfl) rfl (by kernel_rfl) (af rfl) (by simp) ?_
 refine SZ.mk (l.length:Int) (by simp) ?_
 refine aM.mk Nat (fun i=>([(0,.p (ah m l)),(1,.p (.fn 94 [])),(7,.p (.int .i64 l.length)),(8,.p (.int .i64 i))],[]))
  (fun i=>i<=l.length) (fun i=>l.length-i) 0 [] (Nat.zero_le _) ⟨rfl,.nil,rfl,rfl,rfl,⟨rfl,rfl,rfl,rfl,trivial⟩,trivial⟩ ?_
 intro i h1
 have h1:i<=l.length:=h1
 by_cases hi:i<l.length
 ·refine ag.yes (decide_eq_true (by omega)) ?_
  refine aG.rb i rfl hi ?_
  refine ab.pure (pvs:=[aJ (l.getD i 0)]) (hF i hi) ?_
  refine a8.mk (fun h=>by cases h) (fun _=>?_)
  refine ae.ao ((i+1:Nat):Int) (by omega) (by omega) ?_
  exact⟨i+1,[],hi,by show l.length-(i+1)<l.length-i;omega,⟨rfl,.nil,rfl,rfl,rfl,⟨rfl,rfl,rfl,rfl,trivial⟩,trivial⟩⟩
 ·refine ag.no (decide_eq_false (by omega)) ?_
  exact aq.pure (.p _ (.int _ _))
theorem bN (m:Bool) (l:List Rat) (hF:∀i,i<l.length->au Tryz.prog 94 [aJ (l.getD i 0)] (.p (.bool false)) []) (hn:l.length<=1099511627776):
  au Tryz.prog 93 [ah m l,.fn 94 []] (.p (.bool false)) []:=by
 refine aa (wr:=a9) a6 mixed Tryz.func93 (by kernel_rfl) rfl (by kernel_rfl) (af rfl) (by simp) ?_
 refine ab.pure (pvs:=[ah m l,.fn 94 []]) (x9 m l hF hn) ?_
 refine ag.no (rfl) ?_
 exact aq.pure (.tf _)
theorem yA (m:Bool) (m2:Bool) (a:Rat) (l:List Rat) (hF:∀i,i<l.length->au Tryz.prog 96 [aJ (l.getD i 0),.eT m2 (aJ a)] (.p (.bool false)) []) (hn:l.length<=1099511627776):
  au Tryz.prog 153 [ah m l,.fn 96 [.eT m2 (aJ a)]] (.p (.int .i64 (-1))) []:=by
 refine aa (wr:=a9) a6 mixed Tryz.func153 (by kernel_rfl) rfl (by kernel_rfl) (af rfl) (by simp) ?_
 refine SZ.mk (l.length:Int) (by simp) ?_
 refine aM.mk Nat (fun i=>([(0,.p (ah m l)),(1,.p (.fn 96 [.eT m2 (aJ a)])),(7,.p (.int .i64 l.length)),(8,.p (.int .i64 i))],[]))
  (fun i=>i<=l.length) (fun i=>l.length-i) 0 [] (Nat.zero_le _) ⟨rfl,.nil,rfl,rfl,rfl,⟨rfl,rfl,rfl,rfl,trivial⟩,trivial⟩ ?_
 intro i h1
 have h1:i<=l.length:=h1
 by_cases hi:i<l.length
 ·refine ag.yes (decide_eq_true (by omega)) ?_
  refine aG.rb i rfl hi ?_
  refine ab.pure (pvs:=[aJ (l.getD i 0),.eT m2 (aJ a)]) (hF i hi) ?_
  refine a8.mk (fun h=>by cases h) (fun _=>?_)
  refine ae.ao ((i+1:Nat):Int) (by omega) (by omega) ?_
  exact⟨i+1,[],hi,by show l.length-(i+1)<l.length-i;omega,⟨rfl,.nil,rfl,rfl,rfl,⟨rfl,rfl,rfl,rfl,trivial⟩,trivial⟩⟩
 ·refine ag.no (decide_eq_false (by omega)) ?_
  exact aq.pure (.p _ (.int _ _))
theorem gD (m:Bool) (m2:Bool) (a:Rat) (l:List Rat) (hF:∀i,i<l.length->au Tryz.prog 96 [aJ (l.getD i 0),.eT m2 (aJ a)] (.p (.bool false)) []) (hn:l.length<=1099511627776):
  au Tryz.prog 93 [ah m l,.fn 96 [.eT m2 (aJ a)]] (.p (.bool false)) []:=by
 refine aa (wr:=a9) a6 mixed Tryz.func93 (by kernel_rfl) rfl (by kernel_rfl) (af rfl) (by simp) ?_
 refine ab.pure (pvs:=[ah m l,.fn 96 [.eT m2 (aJ a)]]) (yA m m2 a l hF hn) ?_
 refine ag.no (rfl) ?_
 exact aq.pure (.tf _)
abbrev cg (i k:Nat):PV:=.agg [.int .i64 (i:Int),.int .i64 (k:Int)]
abbrev dK (n:Nat) (f:Nat->Nat->Rat) (c:Nat):List (PV×PV):=fl c fun t=>(cg (t/n) (t%n),aJ (f (t/n) (t%n)))
theorem cF (a b c d:Nat):PV.f9 (cg a b) (cg c d)=decide (a=c/\b=d):=by
 show(decide (IntKind.i64=IntKind.i64)&&(((a:Int)==(c:Int))&&(decide (IntKind.i64=IntKind.i64)&&(((b:Int)==(d:Int))&&true))))=_
 have hd:decide (IntKind.i64=IntKind.i64)=true:=rfl
 rw[hd,Bool.true_and,Bool.true_and,Bool.and_true]
 by_cases e1:a=c
 ·by_cases e2:b=d
  ·rw[decide_eq_true (show a=c/\b=d from⟨e1,e2⟩),e1,e2];simp
  ·rw[decide_eq_false (show ¬(a=c/\b=d)from fun h=>e2 h.2),beq_eq_false_iff_ne.2 (show(b:Int)≠d by omega),Bool.and_false]
 ·rw[decide_eq_false (show ¬(a=c/\b=d)from fun h=>e1 h.1),beq_eq_false_iff_ne.2 (show(a:Int)≠c by omega),Bool.false_and]
theorem nO {i k n:Nat} (hk:k<n):(i*n+k)/n=i:=by
 rw[Nat.add_comm,Nat.add_mul_div_right _ _ (by omega),Nat.div_eq_of_lt hk,Nat.zero_add]
theorem oH {i k n:Nat} (hk:k<n):(i*n+k)%n=k:=by
 rw[Nat.add_comm,Nat.add_mul_mod_self_right,Nat.mod_eq_of_lt hk]
theorem wz {t n i k:Nat} (hk:k<n) (h1:t/n=i) (h2:t%n=k):t=i*n+k:=by
 rw[<-h1,<-h2]
 have:=Nat.div_add_mod t n
 rw[Nat.mul_comm];exact this.symm
theorem k6 {n:Nat} {f:Nat->Nat->Rat} {c:Nat} {e:PV×PV} (h:e∈dK n f c):∃t,t<c/\e=(cg (t/n) (t%n),aJ (f (t/n) (t%n))):=by
 obtain⟨t,ht,e⟩:=dq h
 exact⟨t,ht,e.symm⟩
theorem a5.kB {b:PV->Bool} {n:Nat} {f:Nat->Nat->Rat} {c:Nat} {K:Prop} (hb:∀i k:Nat,b (cg i k)=true) (hk:K):a5 b (dK n f c) K:=
 .mk (fun e he=>by obtain⟨t,_,rfl⟩:=k6 he;exact hb _ _) hk
theorem yC {n i k:Nat} {f:Nat->Nat->Rat} (hk:k<n):dK n f (i*n+k+1)=dK n f (i*n+k)++[(cg i k,aJ (f i k))]:=by
 rw[dK,lC,nO hk,oH hk]
theorem dc.kB {n i k:Nat} {f:Nat->Nat->Rat} {v:PV} {K:List (PV×PV)->Prop} (hk:k<n) (hv:v=aJ (f i k)) (hK:K (dK n f (i*n+k+1))):dc (dK n f (i*n+k)) (cg i k) v K:=by
 subst hv
 refine .new _ (fun e he=>?_) (yC hk).symm hK
 obtain⟨t,ht,rfl⟩:=k6 he
 rw[cF]
 exact decide_eq_false fun⟨h1,h2⟩=>by have:=wz hk h1.symm h2.symm;omega
theorem Bx {i k m n:Nat} (hi:i<m) (hk:k<n):i*n+k<m*n:=by
 have:(i+1)*n<=m*n:=Nat.mul_le_mul_right _ hi
 rw[Nat.succ_mul]at this;omega
theorem cd.kB {n m i k:Nat} {f:Nat->Nat->Rat} {K:Option PV->Prop} (hi:i<m) (hk:k<n) (hK:K (some (aJ (f i k)))):cd (dK n f (m*n)) (cg i k) K:=by
 refine .yes (i*n+k) (cg i k,aJ (f i k)) ?_ ?_ (fun j e' hj hj'=>?_) hK
 ·rw[dK,cU (Bx hi hk),nO hk,oH hk]
 ·rw[cF];exact decide_eq_true ⟨rfl,rfl⟩
 ·obtain⟨hjc,rfl⟩:=bX.1 hj'
  rw[cF]
  exact decide_eq_false fun⟨h1,h2⟩=>hj (wz hk h1.symm h2.symm)
theorem dc.EK {n m i k:Nat} {f:Nat->Nat->Rat} {q:Rat} {K:List (PV×PV)->Prop} (hi:i<m) (hk:k<n) (hK:K (dK n (fun a b=>if a=i/\b=k then q else f a b) (m*n))):dc (dK n f (m*n)) (cg i k) (aJ q) K:=by
 refine .dh (i*n+k) (cg i k,aJ (f i k)) _ ?_ ?_ (fun j e' hj hj'=>?_) ?_ hK
 ·rw[dK,cU (Bx hi hk),nO hk,oH hk]
 ·rw[cF];exact decide_eq_true ⟨rfl,rfl⟩
 ·obtain⟨hjc,rfl⟩:=bX.1 hj'
  rw[cF]
  exact decide_eq_false fun⟨h1,h2⟩=>by have:=wz hk h1.symm h2.symm;omega
 ·rw[dK,eX]
  refine aX fun t ht=>?_
  unfold bz
  by_cases e:t=i*n+k
  ·rw[if_pos e];subst e
   show _=(cg ((i*n+k)/n) ((i*n+k)%n),aJ (if(i*n+k)/n=i/\(i*n+k)%n=k then q else _))
   rw[nO hk,oH hk,if_pos ⟨rfl,rfl⟩]
  ·rw[if_neg e]
   show _=(cg (t/n) (t%n),aJ (if t/n=i/\t%n=k then q else _))
   rw[if_neg fun⟨h1,h2⟩=>e (wz hk h1 h2)]
theorem mh (i k:Nat):bZ (cg i k):=.agg _ fun x hx=>by
 simp only[List.mem_cons,List.not_mem_nil,or_false]at hx;rcases hx with rfl|rfl<;>exact .int _ _
theorem iz {n:Nat} {f:Nat->Nat->Rat} {c:Nat}:∀e∈dK n f c,bZ e.1/\bZ e.2:=fun e he=>by
 obtain⟨t,_,rfl⟩:=k6 he
 exact⟨mh _ _,aS _ _ _⟩
def g9 (s:List Nat):Nat->Nat
 |0=>0
 |n+1=>g9 s n+if n∈s then 0 else 1
theorem yw {s:List Nat} {i:Nat}:∀n,g9 (s++[i]) n<=g9 s n:=by
 intro n
 induction n with
 |zero=>exact Nat.le_refl _
 |succ n ih=>
  simp only[g9]
  by_cases e:n∈s
  ·rw[if_pos e,if_pos (List.mem_append_left _ e)];omega
  ·rw[if_neg e];split<;>omega
theorem yP {s:List Nat} {i:Nat} (hi:i∉s):∀{n},i<n->g9 (s++[i]) n<g9 s n:=by
 intro n
 induction n with
 |zero=>intro h;exact absurd h (Nat.not_lt_zero _)
 |succ n ih=>
  intro h
  simp only[g9]
  by_cases e:i=n
  ·subst e
   rw[if_neg hi,if_pos (List.mem_append_right _ (List.mem_singleton.2 rfl))]
   have:=yw (s:=s) (i:=i) i;omega
  ·have:=ih (by omega)
   by_cases e2:n∈s
   ·rw[if_pos e2,if_pos (List.mem_append_left _ e2)];omega
   ·rw[if_neg e2,if_neg (fun h=>by rcases List.mem_append.1 h with h|h;exact e2 h;exact e (List.mem_singleton.1 h).symm)];omega
theorem ab.news {P:Program} {wr:Bool} {f:FuncId} {L:Hd->aC} {base:Nat} {K:AV->List (Hd×aC)->Prop} {pvs:List PV} {r:AV} {nb:List aC} (hc:au P f pvs r nb) (hf:∀B∈nb,B≠ .free)
  (hk:K (r.cE (bn [] base)) (nb.zipIdx.map fun x=>(.t (dJ [] base x.2),x.1.cE (bn [] base)))) {raw:List AV}:ab P wr f raw (pvs.map .p) L base K:=
 .mk [] (pvs.map .p) r [] nb (fun _=>rfl) .nil (fun _ h=>by simp at h) (by rw[AV.bJ,List.map_map];exact List.map_congr_left fun _ _=>rfl) rfl (fun i h B e=>by simp at e) (fun _ h=>by simp at h) (fun _ h=>by simp at h) (Nat.zero_le _) hf
  (fun a ha k hk=>by obtain⟨v,_,rfl⟩:=List.mem_map.1 ha;simp only[AV.aU]at hk) hc hk
theorem ab.three {P:Program} {f:FuncId} {L:Hd->aC} {base:Nat} {K:AV->List (Hd×aC)->Prop} {args args':List AV} {r:AV} {B0 B1 B2 C0 C1 C2:aC} (h0 h1 h2:Nat) (hc:cw P f args' [B0,B1,B2] r [C0,C1,C2])
  (hn:[h0,h1,h2].Nodup) (hb0:h0<base) (hb1:h1<base) (hb2:h2<base) (ha:AV.cz (bn [h0,h1,h2] base) args'=args)
  (e0:L (.t h0)=(B0.cE (bn [h0,h1,h2] base)).top/\∀k,L (.r h0 k)=B0.row k) (e1:L (.t h1)=(B1.cE (bn [h0,h1,h2] base)).top/\∀k,L (.r h1 k)=B1.row k) (e2:L (.t h2)=(B2.cE (bn [h0,h1,h2] base)).top/\∀k,L (.r h2 k)=B2.row k)
  (hl:∀B∈[B0,B1,B2],B≠ .free/\B≠ .dead) (hm:∀B∈[B0,B1,B2],∀k,B.aU k->k.key<3) (hf:∀B∈[C0,C1,C2],B≠ .free) (hargs:∀a∈args',∀k,a.aU k->k.key<3)
  (hk:K (r.cE (bn [h0,h1,h2] base)) [(.t h0,C0.cE (bn [h0,h1,h2] base)),(.t h1,C1.cE (bn [h0,h1,h2] base)),(.t h2,C2.cE (bn [h0,h1,h2] base))]) {raw:List AV}:ab P true f raw args L base K:=
 .mk [h0,h1,h2] args' r [B0,B1,B2] [C0,C1,C2] (fun e=>by cases e) hn (fun h hh=>by simp at hh;rcases hh with rfl|rfl|rfl<;>assumption) ha rfl (fun i h B g1 g2=>by
  match i,g1,g2 with
  |0,g1,g2=>cases g1;cases g2;exact e0
  |1,g1,g2=>cases g1;cases g2;exact e1
  |2,g1,g2=>cases g1;cases g2;exact e2) hl hm (Nat.le_refl _) hf hargs hc hk
theorem aq.ml {nin:Hp} {av:AV} {H:Hp} {r:AV} {Hout:Hp} (hl:Hout.length=nin.length) (hp:∀B∈nin,∀k,B.row k= .free) (hlv:∀i,i<nin.length->(H.getD i .free).top.live)
  (hb:∀(i:Nat) B,Hout[i]?=some B->g7 (List.range nin.length) H (H.getD i .free) B) (hv:Conv (List.range nin.length) H av r):aq nin av H r Hout:=by
 have key:∀h:Hd,look nin h≠ .free->∃i,h= .t i/\i<nin.length:=fun h hh=>by
  have hk:=cD hh
  cases h with
  |t i=>exact⟨i,rfl,hk⟩
  |r i k=>
   exfalso
   have hk:i<nin.length:=hk
   refine hh ?_
   simp only[look]
   have:nin.getD i .free=nin[i]:=by simp[List.getD,List.getElem?_eq_getElem hk]
   rw[this];exact hp _ (List.getElem_mem hk) k
 have lv:∀h:Hd,look nin h≠ .free->(look H h).live:=fun h hh=>by
  obtain⟨i,rfl,hi⟩:=key h hh
  exact hlv i hi
 refine .mk (List.range nin.length) (by simp) List.nodup_range (by simp[hl]) (by simp) (fun h hh=>lv h (aC.bQ hh)) (fun h hh=>aC.bQ (lv h hh)) (fun i h B e1 e2=>?_) hv
 have hi:i<nin.length:=by have:=(List.getElem?_eq_some_iff.1 e1).1;simpa using this
 rw[List.getElem?_range hi]at e1
 cases e1
 exact hb i B e2
section

def y8 (A:Nat->Nat->Rat) (j:Nat):Nat->Nat->Nat
 |0,p=>p
 |d+1,p=>if A p j=0 then y8 A j d (p+1)else p
def pv (A:Nat->Nat->Rat) (j n r:Nat):Nat:=y8 A j (n-r) r
theorem Fb {A:Nat->Nat->Rat} {j:Nat}:∀(d r p:Nat),r<=p->p<=r+d->(∀i,r<=i->i<p->A i j=0)->(p=r+d\/A p j≠0)->y8 A j d r=p:=by
 intro d
 induction d with
 |zero=>intro r p h1 h2 _ _;simp only[y8];omega
 |succ d ih=>
  intro r p h1 h2 h3 h4
  simp only[y8]
  by_cases e:r=p
  ·subst e
   rcases h4 with h4|h4
   ·omega
   ·rw[if_neg h4]
  ·rw[if_pos (h3 r (Nat.le_refl _) (by omega))]
   exact ih (r+1) p (by omega) (by omega) (fun i hi=>h3 i (by omega)) (h4.imp (fun h=>by omega) id)
theorem FV {A:Nat->Nat->Rat} {j n r p:Nat} (h1:r<=p) (h2:p<=n) (h3:∀i,r<=i->i<p->A i j=0) (h4:p=n\/A p j≠0):pv A j n r=p:=
 Fb _ _ _ h1 (by omega) h3 (h4.imp (fun h=>by omega) id)
theorem Cp {A:Nat->Nat->Rat} {j:Nat}:∀(d r:Nat),r<=y8 A j d r/\y8 A j d r<=r+d/\(∀i,r<=i->i<y8 A j d r->A i j=0)/\(y8 A j d r=r+d\/A (y8 A j d r) j≠0):=by
 intro d
 induction d with
 |zero=>intro r;simp only[y8];exact⟨Nat.le_refl _,Nat.le_refl _,fun i h1 h2=>by omega,.inl rfl⟩
 |succ d ih=>
  intro r
  simp only[y8]
  by_cases e:A r j=0
  ·rw[if_pos e]
   obtain⟨h1,h2,h3,h4⟩:=ih (r+1)
   refine⟨by omega,by omega,fun i hi hi2=>?_,h4.imp (fun h=>by omega) id⟩
   by_cases ei:i=r
   ·subst ei;exact e
   ·exact h3 i (by omega) hi2
  ·rw[if_neg e];exact⟨Nat.le_refl _,by omega,fun i h1 h2=>by omega,.inr e⟩
theorem nr {A:Nat->Nat->Rat} {j n r:Nat} (h:r<=n):r<=pv A j n r/\pv A j n r<=n/\(∀i,r<=i->i<pv A j n r->A i j=0)/\(pv A j n r=n\/A (pv A j n r) j≠0):=by
 obtain⟨h1,h2,h3,h4⟩:=Cp (A:=A) (j:=j) (n-r) r
 have e:r+(n-r)=n:=by omega
 rw[e]at h2 h4
 exact⟨h1,h2,h3,h4⟩
def dU (A:Nat->Nat->Rat) (p r:Nat):Nat->Nat->Rat:=fun i=>A (if i=p then r else if i=r then p else i)
def AM (B:Nat->Nat->Rat) (r j:Nat):Nat->Nat->Rat:=fun i k=>if r<i/\j<=k then B i k-B i j/B r j*B r k else B i k
structure GZ where
 A:Nat->Nat->Rat
 FU:Rat
 r:Nat
def GS (n j:Nat) (s:GZ):GZ:=
 if n<=pv s.A j n s.r then⟨s.A,0,s.r⟩else
  ⟨AM (dU s.A (pv s.A j n s.r) s.r) s.r j,(if pv s.A j n s.r=s.r then s.FU else-s.FU)*dU s.A (pv s.A j n s.r) s.r s.r j,s.r+1⟩
def elim (n:Nat) (A:Nat->Nat->Rat) (j:Nat):GZ:=iter (GS n) j ⟨A,1,0⟩
theorem y7 {n:Nat} {A:Nat->Nat->Rat} {j:Nat}:elim n A (j+1)=GS n j (elim n A j):=rfl
def bb (b:Nat):Nat->Nat
 |0=>b
 |k+1=>4*bb b k+1
theorem FL {R:Nat->Nat} (h:∀k,R k<=R (k+1)) {i j:Nat} (hij:i<=j):R i<=R j:=by
 induction j with
 |zero=>rw[Nat.le_zero.1 hij];exact Nat.le_refl _
 |succ j ih=>
  by_cases e:i=j+1
  ·rw[e];exact Nat.le_refl _
  ·exact Nat.le_trans (ih (by omega)) (h j)
theorem yO {A:Nat->Nat->Rat} {r:Nat}:dU A r r=A:=by
 funext i
 unfold dU
 by_cases e:i=r
 ·rw[if_pos e,e]
 ·rw[if_neg e,if_neg e]
theorem rU {A:Nat->Nat->Rat} {p r:Nat}:dU A p r r=A p:=by
 unfold dU
 by_cases e:r=p
 ·rw[if_pos e,e]
 ·rw[if_neg e,if_pos rfl]
theorem Dk {B:Nat->Nat->Rat} {r j i k:Nat} (h:i<=r\/k<j):AM B r j i k=B i k:=if_neg (by omega)
theorem Cz {B:Nat->Nat->Rat} {r j i k:Nat} (h1:r<i) (h2:j<=k):AM B r j i k=B i k-B i j/B r j*B r k:=if_pos ⟨h1,h2⟩
theorem CA {b:Nat} (k:Nat):bb b k<=bb b (k+1):=by simp only[bb];omega
end
theorem nW {m m':Bool} {n w:Nat} {A B:Nat->Nat->Rat} (h:∀i k,i<n->k<w->A i k=B i k):cm m m' n w A=cm m m' n w B:=
 congrArg (PV.sl m 1) (aX fun i hi=>by rw[d5 fun k hk=>h i k hi hk])
theorem p6 {S:Nat->Nat} {G2 G1:Nat->Nat->Rat} {f g:Nat->Rat} {i w q k:Nat} {v:Rat} (inj:∀p q,p<i->q<i->S p=S q->p=q) (hq:q<i) (hk:k<w)
  (h:∀t c,t<i->c<w->G2 (S t) c=if t=q then(if c<k then f c else g c)else G1 (S t) c) (hv:v=f k):
  ∀t c,t<i->c<w->bz G2 (S (q+0)) (bz (G2 (S (q+0))) (k+0) v) (S t) c=if t=q then(if c<k+1 then f c else g c)else G1 (S t) c:=by
 intro t c ht hc
 rw[Nat.add_zero,Nat.add_zero]
 by_cases e:t=q
 ·subst e
  rw[aA,if_pos rfl]
  by_cases ec:c=k
  ·subst ec;rw[aA,if_pos (by omega),hv]
  ·rw[aD _ _ ec,h t c ht hc,if_pos rfl]
   by_cases e2:c<k
   ·rw[if_pos e2,if_pos (by omega)]
   ·rw[if_neg e2,if_neg (by omega)]
 ·rw[aD _ _ (fun e'=>e (inj t q ht hq e')),h t c ht hc,if_neg e,if_neg e]
def sb (a x:Nat->Rat) (s0:Rat) (from':Nat):Nat->Rat
 |0=>s0
 |d+1=>sb a x s0 from' d-a (from'+d)*x (from'+d)
def kO (n:Nat) (A:Nat->Nat->Rat) (y:Nat->Rat):Nat->Nat->Rat:=fun i k=>if k<n then A i k else y i
theorem xi (n:Nat) (A:Nat->Nat->Rat) (y:Nat->Rat) (i:Nat):bd (ar n (A i))++[aJ (y i)]=bd (ar (n+1) (kO n A y i)):=by
 rw[<-j4 n (kO n A y i) (y i) (by unfold kO;rw[if_neg (Nat.lt_irrefl n)])]
 rw[d5 (g:=kO n A y i) (h:=A i) fun k hk=>by unfold kO;rw[if_pos hk]]
theorem aG.fl {n:Nat} {f:Nat->PV} {i:Int} {K:Nat->PV->Prop} (j:Nat) (v:PV) (hi:i=j) (hj:j<n) (hv:f j=v) (hk:K j v):aG (fl n f) i K:=by
 subst hv;exact .mk j _ hi (cU hj) hk
theorem bE {α:Type} (n:Nat) (z:α):List.replicate n z=fl n fun _=>z:=by
 apply List.ext_getElem (by simp)
 intro i h1 h2
 simp[Go.Proofs.YtnilcfiemgmfdaaGreat.fl]
section

theorem yl {n:Nat} {A:Nat->Nat->Rat} {j:Nat} (h:(elim n A j).r=j) (hp:pv (elim n A j).A j n j<n):
  elim n A (j+1)=⟨AM (dU (elim n A j).A (pv (elim n A j).A j n j) j) j j,(if pv (elim n A j).A j n j=j then(elim n A j).FU else-(elim n A j).FU)*(elim n A j).A (pv (elim n A j).A j n j) j,j+1⟩:=by
 rw[y7];unfold GS;rw[h,if_neg (by omega),rU]
end
section

def pm:Nat->(Nat->Rat)->Rat
 |0,_=>1
 |n+1,f=>pm n f*f n
def kW (n k:Nat) (f:Nat->Rat):Rat:=pm n fun t=>if t=k then 1 else f t
theorem B8 {f g:Nat->Rat}:∀{n:Nat},(∀i,i<n->f i=g i)->pm n f=pm n g:=by
 intro n
 induction n with
 |zero=>exact fun _=>rfl
 |succ n ih=>intro h;simp only[pm];rw[ih fun i hi=>h i (by omega),h n (by omega)]
theorem D3 {f:Nat->Rat}:∀{n:Nat},(∀i,i<n->f i≠0)->pm n f≠0:=by
 intro n
 induction n with
 |zero=>intro _;simp only[pm];decide
 |succ n ih=>
  intro h e
  rcases Rat.mul_eq_zero.1 e with e|e
  ·exact ih (fun i hi=>h i (by omega)) e
  ·exact h n (by omega) e
theorem Dg {f:Nat->Rat} {k:Nat}:∀{n:Nat},k<n->f k=0->pm n f=0:=by
 intro n
 induction n with
 |zero=>intro h;exact absurd h (Nat.not_lt_zero _)
 |succ n ih=>
  intro h e
  simp only[pm]
  by_cases c:k=n
  ·rw[<-c,e];exact Rat.mul_zero _
  ·rw[ih (by omega) e];exact Rat.zero_mul _
theorem EH {f:Nat->Rat} {n k:Nat} (h:∀i,i<n->i≠k->f i≠0):kW n k f≠0:=
 D3 fun i hi=>by
  by_cases e:i=k
  ·rw[if_pos e];decide
  ·rw[if_neg e];exact h i hi e
theorem Ag {f:Nat->Rat} {n k l:Nat} (hl:l<n) (hk:l≠k) (h:f l=0):kW n k f=0:=Dg hl (by rw[if_neg hk];exact h)
theorem EN {f:Nat->Rat} {n k:Nat} (h:n<=k):kW n k f=pm n f:=B8 fun i hi=>if_neg (by omega)
theorem tr {f:Nat->Rat} {n k:Nat} (h:n≠k):kW (n+1) k f=kW n k f*f n:=by
 show pm n _*(if n=k then 1 else f n)=_
 rw[if_neg h];rfl
theorem n7 {f:Nat->Rat} {n:Nat}:kW (n+1) n f=pm n f:=by
 show pm n _*(if n=n then 1 else f n)=_
 rw[if_pos rfl,Rat.mul_one];exact EN (Nat.le_refl n)
theorem B6 {f:Nat->Rat} {k:Nat}:∀{n:Nat},k<n->pm n f=f k*kW n k f:=by
 intro n
 induction n with
 |zero=>intro h;exact absurd h (Nat.not_lt_zero _)
 |succ n ih=>
  intro h
  by_cases c:k=n
  ·subst c;rw[n7];simp only[pm];exact Rat.mul_comm _ _
  ·rw[tr (by omega)];simp only[pm];rw[ih (by omega)];grind
def ff (k:Nat) (g:Rat->Rat):Prop:=∃c:Nat->Rat,∀X,fm k c X=g X
theorem ff.zero (k:Nat):ff k fun _=>0:=⟨fun i=>0*(0:Rat),fun X=>by rw[ox k 0 (fun _=>0) X];exact Rat.zero_mul _⟩
theorem ff.add {k:Nat} {g h:Rat->Rat} (hg:ff k g) (hh:ff k h):ff k fun X=>g X+h X:=by
 obtain⟨c,hc⟩:=hg
 obtain⟨d,hd⟩:=hh
 exact⟨fun i=>c i+d i,fun X=>by rw[wY,hc,hd]⟩
theorem ff.smul {k:Nat} {g:Rat->Rat} (b:Rat) (hg:ff k g):ff k fun X=>b*g X:=by
 obtain⟨c,hc⟩:=hg
 exact⟨fun i=>b*c i,fun X=>by rw[ox,hc]⟩
theorem ff.CB {k:Nat} {g:Rat->Rat} (hg:ff k g) (r:Rat):ff (k+1) fun X=>g X*(r-X):=by
 obtain⟨c,hc⟩:=hg
 obtain⟨d,_,hd⟩:=(A0.CB (g:=g) ⟨c,rfl,hc⟩ r).smul (-1)
 exact⟨d,fun X=>by rw[hd];grind⟩
theorem ff.pm (a:Nat->Rat):∀n,ff n fun X=>pm n fun t=>a t-X:=by
 intro n
 induction n with
 |zero=>exact⟨fun _=>1,fun X=>rfl⟩
 |succ n ih=>exact ih.CB (a n)
theorem ff.kW (a:Nat->Rat) (j:Nat):∀n,j<n+1->ff n fun X=>kW (n+1) j fun t=>a t-X:=by
 intro n
 induction n with
 |zero=>
  intro h
  obtain rfl:j=0:=by omega
  have:(fun X:Rat=>Go.Proofs.YtnilcfiemgmfdaaGreat.kW (0+1) 0 fun t=>a t-X)=fun X=>Go.Proofs.YtnilcfiemgmfdaaGreat.pm 0 fun t=>a t-X:=by funext X;exact n7
  rw[this];exact ff.pm a 0
 |succ n ih=>
  intro h
  by_cases e:j=n+1
  ·subst e
   have:(fun X:Rat=>Go.Proofs.YtnilcfiemgmfdaaGreat.kW (n+1+1) (n+1) fun t=>a t-X)=fun X=>Go.Proofs.YtnilcfiemgmfdaaGreat.pm (n+1) fun t=>a t-X:=by funext X;exact n7
   rw[this];exact ff.pm a (n+1)
  ·have:(fun X:Rat=>Go.Proofs.YtnilcfiemgmfdaaGreat.kW (n+1+1) j fun t=>a t-X)=fun X=>(Go.Proofs.YtnilcfiemgmfdaaGreat.kW (n+1) j fun t=>a t-X)*(a (n+1)-X):=by funext X;exact tr (by omega)
   rw[this];exact(ih (by omega)).CB _
theorem ff.sum {k:Nat} {G:Nat->Rat->Rat}:∀m,(∀t,t<m->ff k (G t))->ff k fun X=>sm m fun t=>G t X:=by
 intro m
 induction m with
 |zero=>exact fun _=>ff.zero k
 |succ m ih=>intro h;exact(ih fun t ht=>h t (by omega)).add (h m (by omega))
theorem ff.eq {k:Nat} {g h:Rat->Rat} {r:Nat->Rat} (hg:ff k g) (hh:ff k h) (hi:kR r (k+1)) (he:∀l,l<k+1->g (r l)=h (r l)) (X:Rat):g X=h X:=by
 obtain⟨c,hc⟩:=hg
 obtain⟨d,hd⟩:=hh
 rw[<-hc,<-hd]
 exact iC k X (ES hi fun l hl=>by rw[hc,hd];exact he l hl)
def xa (a b:Nat->Rat) (i k:Nat):Nat->Rat
 |0=>1/(a k-b i)
 |m+1=>if m=i then(if m=k then xa a b i k m*((a k-b m)*(a m-b i))else xa a b i k m*((a k-b m)*(a m-b i))/(a k-a m))
  else(if m=k then xa a b i k m*((a k-b m)*(a m-b i))else xa a b i k m*((a k-b m)*(a m-b i))/(a k-a m))/(b m-b i)
structure vX (n:Nat) (a b:Nat->Rat):Prop where
 ia:kR a n
 ib:kR b n
 ne:∀i k,i<n->k<n->a i≠b k
theorem jP {a b:Rat} (h:a≠b):a-b≠0:=fun e=>h (by grind)
theorem vX.da {n:Nat} {a b:Nat->Rat} (h:vX n a b) {i k:Nat} (hi:i<n) (hk:k<n) (e:i≠k):a i-a k≠0:=jP fun c=>e (h.ia i k hi hk c)
theorem vX.dx {n:Nat} {a b:Nat->Rat} (h:vX n a b) {i k:Nat} (hi:i<n) (hk:k<n):a i-b k≠0:=jP (h.ne i k hi hk)
theorem vX.db {n:Nat} {a b:Nat->Rat} (h:vX n a b) {i k:Nat} (hi:i<n) (hk:k<n) (e:i≠k):b i-b k≠0:=jP fun c=>e (h.ib i k hi hk c)
theorem parts {n:Nat} {b:Nat->Rat} (hb:kR b n) {g:Rat->Rat} (hn:1<=n) (hg:ff (n-1) g) {x:Rat} (hx:∀k,k<n->x≠b k):
  sm n (fun k=>1/(x-b k)*(g (b k)/kW n k fun t=>b t-b k))= -(g x/pm n fun t=>b t-x):=by
 obtain⟨m,rfl⟩:∃m,n=m+1:=⟨n-1,by omega⟩
 have hnz:∀k,k<m+1->(kW (m+1) k fun t=>b t-b k)≠0:=fun k hk=>EH fun t ht e=>jP fun c=>e (hb t k ht hk c)
 have key:=ff.eq (g:=fun X=>sm (m+1) fun k=>g (b k)/(kW (m+1) k fun t=>b t-b k)*kW (m+1) k fun t=>b t-X) (ff.sum (m+1) fun k hk=>(ff.kW b k m hk).smul _) hg hb (fun l hl=>by
  show(sm (m+1) fun k=>g (b k)/(kW (m+1) k fun t=>b t-b k)*kW (m+1) k fun t=>b t-b l)=g (b l)
  have:(sm (m+1) fun k=>g (b k)/(kW (m+1) k fun t=>b t-b k)*kW (m+1) k fun t=>b t-b l)=sm (m+1) fun k=>g (b k)*(if k=l then 1 else 0):=pc fun k hk=>by
   by_cases e:k=l
   ·subst e;rw[if_pos rfl];have:=hnz k hk;grind
   ·rw[if_neg e,Ag (f:=fun t=>b t-b l) (l:=l) hl (Ne.symm e) (by grind)];grind
  rw[this];exact Fa hl _) x
 have hp:pm (m+1) (fun t=>b t-x)≠0:=D3 fun t ht=>jP fun c=>hx t ht c.symm
 have key:(sm (m+1) fun k=>g (b k)/(kW (m+1) k fun t=>b t-b k)*kW (m+1) k fun t=>b t-x)=g x:=key
 rw[<-key]
 have:(sm (m+1) fun k=>g (b k)/(kW (m+1) k fun t=>b t-b k)*kW (m+1) k fun t=>b t-x)= -(pm (m+1) fun t=>b t-x)*sm (m+1) (fun k=>1/(x-b k)*(g (b k)/kW (m+1) k fun t=>b t-b k)):=by
  rw[<-CV]
  refine pc fun k hk=>?_
  rw[B6 hk]
  have h1:=hnz k hk
  have h2:x-b k≠0:=jP (hx k hk)
  generalize(kW (m+1) k fun t=>b t-x)=u
  generalize(kW (m+1) k fun t=>b t-b k)=v at h1
  generalize g (b k)=y
  generalize b k=z at h2
  grind
 rw[this]
 generalize(sm (m+1) fun k=>1/(x-b k)*(g (b k)/kW (m+1) k fun t=>b t-b k))=S
 generalize pm (m+1) (fun t=>b t-x)=p at hp
 grind
end
section

def gs (A:Nat->Nat->Rat):Nat->Nat->Nat->Rat
 |0=>A
 |k+1=>AM (gs A k) k k
def xL (A:Nat->Nat->Rat) (k:Nat):Rat:=gs A k k k
theorem D9 {A:Nat->Nat->Rat} {k i j:Nat} (h1:k<i) (h2:k<=j):gs A (k+1) i j=gs A k i j-gs A k i k/gs A k k k*gs A k k j:=Cz h1 h2
theorem qC {A:Nat->Nat->Rat} {k i j:Nat} (h:i<=k\/j<k):gs A (k+1) i j=gs A k i j:=Dk h
theorem EO {A:Nat->Nat->Rat} {i j:Nat}:∀d,gs A (i+d) i j=gs A i i j:=by
 intro d
 induction d with
 |zero=>rfl
 |succ d ih=>rw[<-ih,<-Nat.add_assoc];exact qC (.inl (by omega))
theorem C3 {A:Nat->Nat->Rat} {i j k:Nat} (h:i<=k):gs A k i j=gs A i i j:=by
 obtain⟨d,rfl⟩:∃d,k=i+d:=⟨k-i,by omega⟩
 exact EO d
def jf (A:Nat->Nat->Rat) (i j:Nat):Rat:=if i=j then 1 else if j<i then gs A j i j/gs A j j j else 0
def mi (A:Nat->Nat->Rat) (i j:Nat):Rat:=if j<i then 0 else gs A i i j
theorem Gy {A:Nat->Nat->Rat} {m:Nat}:∀j,j<=m->(∀t,t<j->xL A t≠0)->elim m A j=⟨gs A j,pm j (xL A),j⟩:=by
 intro j
 induction j with
 |zero=>intro _ _;rfl
 |succ j ih=>
  intro hj hp
  have e:=ih (by omega) fun t ht=>hp t (by omega)
  have h1:(elim m A j).r=j:=by rw[e]
  have hA:(elim m A j).A=gs A j:=by rw[e]
  have hpv:pv (elim m A j).A j m j=j:=FV (Nat.le_refl _) (by omega) (fun i h1 h2=>by omega) (.inr (by rw[hA];exact hp j (by omega)))
  rw[yl h1 (by rw[hpv];omega),hpv,if_pos rfl,yO,hA]
  have hd:(elim m A j).FU=pm j (xL A):=by rw[e]
  rw[hd];rfl
def DG (A:Nat->Nat->Rat) (n:Nat):Nat->Nat
 |0=>n
 |d+1=>if xL A (n-(d+1))=0 then n-(d+1)else DG A n d
def sR (A:Nat->Nat->Rat) (n:Nat):Nat:=DG A n n
theorem Au {A:Nat->Nat->Rat} {n:Nat}:∀d,d<=n->n-d<=DG A n d/\DG A n d<=n/\(∀t,n-d<=t->t<DG A n d->xL A t≠0)/\(DG A n d<n->xL A (DG A n d)=0):=by
 intro d
 induction d with
 |zero=>intro _;simp only[DG];exact⟨by omega,Nat.le_refl _,fun t h1 h2=>by omega,fun h=>absurd h (Nat.lt_irrefl _)⟩
 |succ d ih=>
  intro hd
  obtain⟨h1,h2,h3,h4⟩:=ih (by omega)
  simp only[DG]
  by_cases e:xL A (n-(d+1))=0
  ·rw[if_pos e];exact⟨Nat.le_refl _,by omega,fun t h1 h2=>by omega,fun _=>e⟩
  ·rw[if_neg e]
   refine⟨by omega,h2,fun t h5 h6=>?_,h4⟩
   by_cases et:t=n-(d+1)
   ·rw[et];exact e
   ·exact h3 t (by omega) h6
theorem qs (A:Nat->Nat->Rat) (n:Nat):sR A n<=n/\(∀t,t<sR A n->xL A t≠0)/\(sR A n<n->xL A (sR A n)=0):=by
 obtain⟨h1,h2,h3,h4⟩:=Au (A:=A) (n:=n) n (Nat.le_refl _)
 exact⟨h2,fun t ht=>h3 t (by omega) ht,h4⟩
end
theorem Wf.G4 {g:GV} {b c:Nat} (h:Wf g b c) {i j:Nat} (hi:i<g.la) (hj:j<g.lb):Bz (g.A i-g.B j) (b+c+1)/\g.A i-g.B j≠0:=
 ⟨(h.bA i hi).sub (h.bB j hj),fun e=>h.ne i j hi hj (by grind)⟩
def eb (b c:Nat):Nat:=24*b+c+30
theorem Wf.DE {g:GV} {b c:Nat} (h:Wf g b c) (hk:g.k=1\/g.k=2):g.la=2*g.n-1:=by unfold GV.la aw;rw[if_pos hk]
theorem Wf.Cx {g:GV} {b c:Nat} (h:Wf g b c) (hk:g.k=3\/g.k=4\/g.k=5\/g.k=7):g.la=g.n:=by unfold GV.la aw;rw[if_neg (by omega),if_neg (by omega)]
theorem Wf.GI {g:GV} {b c:Nat} (h:Wf g b c) (hk:g.k=5\/g.k=7):g.lb=g.n:=by unfold GV.lb aH;rw[if_pos hk]
theorem Wf.FX {g:GV} {b c:Nat} (h:Wf g b c) (hk:g.k=6\/g.k=7) {i j:Nat} (hi:i<g.n) (hj:j<g.n):∀k,k<=min i j+1->Bz (sm k fun m=>pN g (i-m) (j-m)) (k*(2*(2*b+1)+1+1)+1):=
 ik (F:=fun m=>pN g (i-m) (j-m)) (n:=min i j+1) fun m hm=>h.CQ hk (by omega) (by omega)
theorem Wf.vj {g:GV} {b c:Nat} (h:Wf g b c) {i j:Nat} (hi:i<g.n) (hj:j<g.n):Bz (aW g i j) (eb b c):=by
 have h8:=h.n6
 unfold aW eb
 rcases nC h.k1 h.k7 with e|e|e|e|e|e|e
 ·rw[if_pos e]
  exact(h.bA _ (by rw[h.DE (by omega)];omega)).mono (by omega)
 ·rw[if_neg (by omega),if_pos e]
  exact(h.bA _ (by rw[h.DE (by omega)];omega)).mono (by omega)
 ·rw[if_neg (by omega),if_neg (by omega),if_pos e]
  exact(h.bA _ (by rw[h.Cx (by omega)];exact Nat.mod_lt _ (by omega))).mono (by omega)
 ·rw[if_neg (by omega),if_neg (by omega),if_neg (by omega),if_pos e]
  have hj7:b*j<=b*5:=Nat.mul_le_mul_left _ (by omega)
  exact(uL (h.bA i (by rw[h.Cx (by omega)];exact hi)) j).mono (by omega)
 ·rw[if_neg (by omega),if_neg (by omega),if_neg (by omega),if_neg (by omega),if_pos e]
  have:=h.G4 (i:=i) (j:=j) (by rw[h.Cx (by omega)];exact hi) (by rw[h.GI (by omega)];exact hj)
  exact(cR.div this.1).mono (by omega)
 ·rw[if_neg (by omega),if_neg (by omega),if_neg (by omega),if_neg (by omega),if_neg (by omega),if_pos e]
  have z:=h.FX (.inl e) hi hj (min i j+1) (Nat.le_refl _)
  have:=Nat.mul_le_mul_right (2*(2*b+1)+1+1) (show min i j+1<=6 by omega)
  exact z.mono (by omega)
 ·rw[if_neg (by omega),if_neg (by omega),if_neg (by omega),if_neg (by omega),if_neg (by omega),if_neg (by omega)]
  have:=h.G4 (i:=i) (j:=j) (by rw[h.Cx (by omega)];exact hi) (by rw[h.GI (by omega)];exact hj)
  exact((h.CQ (.inr e) hi hj).div this.1).mono (by omega)
end Go.Proofs.YtnilcfiemgmfdaaGreat
