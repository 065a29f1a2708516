/- FTOwn: what its proof needs, part 8. -/
import Derived.Test.YtnilcfiemgmfdaaGreatMTOwn7
set_option linter.unusedVariables false
set_option linter.unusedSimpArgs false
namespace Go.Proofs.YtnilcfiemgmfdaaGreat
open Go
set_option maxRecDepth 10000
section
theorem Fs.Hc {A:Nat->Nat->Rat} {n b:Nat} (n1:1<=n) (hA:∀i j,i<n->j<n->Bz (A i j) b):Fs A n (bb b (n-1)):=fun k hk i j hi hj=>by
 by_cases e:k=n
 ·obtain⟨d,rfl⟩:∃d,n=d+1:=⟨n-1,by omega⟩
  rw[e,qC (.inl (by omega))]
  exact(En hA d (by omega) i j hi hj)
 ·exact(En hA k hk i j hi hj).mono (nD (by omega))
theorem v9 {g:GV} (h:Wf g 5 13) (h5:g.n<=5):Fs (aW g) g.n 42100:=fun k hk i j hi hj=>
 (Fs.Hc (b:=163) h.n1 (fun i j hi hj=>h.vj hi hj) k hk i j hi hj).mono (Nat.le_trans (nD (show g.n-1<=4 by omega)) (by decide+kernel))
theorem Fu {g:GV} (h:Wf g 5 13) (h5:g.n<=5) {i j:Nat} (hi:i<g.n) (hj:j<g.n):Bz (jf (aW g) i j) 84201:=by
 have hB:=v9 h h5
 unfold jf
 split
 ·exact cR.mono (by omega)
 ·split
  ·exact((hB j (by omega) i j hi hj).div (hB j (by omega) j j hj hj)).mono (by omega)
  ·exact bS.mono (by omega)
theorem EF {g:GV} (h:Wf g 5 13) (h5:g.n<=5) {i j:Nat} (hi:i<g.n) (hj:j<g.n):Bz (mi (aW g) i j) 42101:=by
 unfold mi
 split
 ·exact bS.mono (by omega)
 ·exact(v9 h h5 i (by omega) i j hi hj).mono (by omega)
theorem Fo {g:GV} (h:Wf g 5 13) (h5:g.n<=5):An g.n (aW g) 42100:=fun k hk i j hi hj=>
 (An.of (b:=163) h.n1 (fun i j hi hj=>h.vj hi hj) k hk i j hi hj).mono (Nat.le_trans (nD (show g.n-1<=4 by omega)) (by decide+kernel))
def Way (f:FuncId) (args:List PV) (N:Nat):Prop:=
 (∃x:Nat->Rat,(∀i,i<N->Bz (x i) 10000000000)/\au Tryz.prog f args (.bq [.vec 0 3 0 N,.p (.int .i64 0)]) [.vec 38 3 (bd (ar N x))])\/
  ∃e:Int,e≠0/\au Tryz.prog f args (.bq [.p (ah false []),.p (.int .i64 e)]) []
theorem AB (f:Nat->Rat) (n:Nat):∃K,K<=n/\(∀t,t<K->f t≠0)/\(K<n->f K=0):=by
 induction n with
 |zero=>exact⟨0,Nat.le_refl _,fun t h=>absurd h (Nat.not_lt_zero _),fun h=>absurd h (Nat.not_lt_zero _)⟩
 |succ n ih=>
  obtain⟨K,h1,h2,h3⟩:=ih
  by_cases e:K=n
  ·by_cases z:f n=0
   ·exact⟨n,by omega,fun t ht=>h2 t (by omega),fun _=>z⟩
   ·refine⟨n+1,Nat.le_refl _,fun t ht=>?_,fun h=>absurd h (by omega)⟩
    by_cases et:t=n
    ·rw[et];exact z
    ·exact h2 t (by omega)
  ·exact⟨K,by omega,h2,fun _=>h3 (by omega)⟩
theorem wc (q:Rat) {k:Nat} (hq:Sz q k) (hk:k<=137438953472):au Tryz.prog 233 [aJ q] (.p (.bool false)) []:=by
 refine aa (wr:=a9) a6 mixed Tryz.func233 (by kernel_rfl) rfl (by kernel_rfl) (af rfl) (by simp) ?_
 refine ab.pure (dS q hq hk) ?_
 refine ag.no (rfl) ?_
 exact aq.pure (.tf _)
theorem yZ (m:Bool) (l:List Rat) (hF:∀i,i<l.length->au Tryz.prog 233 [aJ (l.getD i 0)] (.p (.bool false)) []) (hn:l.length<=1099511627776):
  au Tryz.prog 153 [ah m l,.fn 233 []] (.p (.int .i64 (-1))) []:=by
 refine aa (wr:=a9) a6 mixed Tryz.func153 (by kernel_rfl) rfl (by kernel_rfl) (af rfl) (by simp) ?_
 refine SZ.mk (l.length:Int) (by simp) ?_
 refine aM.mk Nat (fun i=>([(0,.p (ah m l)),(1,.p (.fn 233 [])),(7,.p (.int .i64 l.length)),(8,.p (.int .i64 i))],[]))
  (fun i=>i<=l.length) (fun i=>l.length-i) 0 [] (Nat.zero_le _) ⟨rfl,.nil,rfl,rfl,rfl,⟨rfl,rfl,rfl,rfl,trivial⟩,trivial⟩ ?_
 intro i h1
 have h1:i<=l.length:=h1
 by_cases hi:i<l.length
 ·refine ag.yes (decide_eq_true (by omega)) ?_
  refine aG.rb i rfl hi ?_
  refine ab.pure (pvs:=[aJ (l.getD i 0)]) (hF i hi) ?_
  refine a8.mk (fun h=>by cases h) (fun _=>?_)
  refine ae.ao ((i+1:Nat):Int) (by omega) (by omega) ?_
  exact⟨i+1,[],hi,by show l.length-(i+1)<l.length-i;omega,⟨rfl,.nil,rfl,rfl,rfl,⟨rfl,rfl,rfl,rfl,trivial⟩,trivial⟩⟩
 ·refine ag.no (decide_eq_false (by omega)) ?_
  exact aq.pure (.p _ (.int _ _))
theorem z9 (m:Bool) (l:List Rat) (hF:∀i,i<l.length->au Tryz.prog 233 [aJ (l.getD i 0)] (.p (.bool false)) []) (hn:l.length<=1099511627776):
  au Tryz.prog 93 [ah m l,.fn 233 []] (.p (.bool false)) []:=by
 refine aa (wr:=a9) a6 mixed Tryz.func93 (by kernel_rfl) rfl (by kernel_rfl) (af rfl) (by simp) ?_
 refine ab.pure (pvs:=[ah m l,.fn 233 []]) (yZ m l hF hn) ?_
 refine ag.no (rfl) ?_
 exact aq.pure (.tf _)
theorem u9 (m:Nat->Bool) (m':Bool) (g:GV) (h:Wf g 5 13) (hk:g.k=3) (n5:g.n<=5) (y:Nat->Rat) (hy:∀i,i<g.n->Bz (y i) 5) (R:AV) (nb:List aC)
  (e1:(uh g.n (aW g) y).r<g.n->R= .bq [.p (ah false []),.p (.int .i64 9)]/\nb=[]) (e2:(uh g.n (aW g) y).r=g.n->R= .bq [.vec 0 3 0 g.n,.p (.int .i64 0)]/\nb=[.vec 38 3 (bd (ar g.n (xD g.n (aW g) y)))]):
  au Tryz.prog 210 [cG m g,ah m' (ar g.n y)] R nb:=by
 have n1:=h.n1
 have hs:=fun R nb e1 e2=>qo false false m' g.n (aW g) y (D:=163) (fun i k hi hk=>h.vj hi hk) (fun i hi=>(hy i hi).mono (by decide)) n1 n5 (by decide) (by decide) R nb e1 e2
 have hf:=tg 3 g.n
 have ho:=A3 m m' g g.n y
 rw[hk]at ho
 have hcf:=z9 m' (ar g.n y) (fun i hi=>by
  rw[az]at hi
  rw[bj hi];exact wc (y i) (hy i hi).sz (by decide)) (by rw[az];omega)
 refine aa (wr:=a9) a6 mixed Tryz.func210 (by kernel_rfl) rfl (by kernel_rfl) (af rfl) (by simp) ?_
 refine aO.mk (by kernel_rfl) ?_
 repeat refine aj.mk _ _ (And.intro rfl rfl) rfl ?_
 refine aj.mk _ _ (ab.pure (ho) (And.intro rfl rfl)) rfl ?_
 repeat refine aj.mk _ _ (And.intro rfl rfl) rfl ?_
 refine aj.mk _ _ (ab.pure (hf) (And.intro rfl rfl)) rfl ?_
 repeat refine aj.mk _ _ (And.intro rfl rfl) rfl ?_
 refine ag.no (rfl) ?_
 refine ab.pure (pvs:=[ah m' (ar g.n y),.fn 233 []]) hcf ?_
 refine a8.mk (fun h=>by cases h) (fun _=>?_)
 refine ab.pure (eH m g h) ?_
 by_cases hr:(uh g.n (aW g) y).r<g.n
 ·obtain⟨rfl,rfl⟩:=e1 hr
  refine ab.bg (hs _ _ (fun _=>⟨rfl,rfl⟩) (fun e=>absurd e (by omega))) (fun _=>rfl) ?_
  exact aq.pure (.bq rfl fun i c d e1 e2=>by
   match i,e1,e2 with
   |0,e1,e2=>cases e1;cases e2;exact .p _ (.sl _ _ (aB []))
   |1,e1,e2=>cases e1;cases e2;exact .p _ (.int _ _))
 ·have hr':(uh g.n (aW g) y).r=g.n:=by
   have:=(jZ (mF (D:=163) (fun i k hi hk=>h.vj hi hk) (fun i hi=>(hy i hi).mono (by decide))) (by decide) (Nat.le_succ g.n) g.n (Nat.le_refl _)).rn
   have:(uh g.n (aW g) y).r<=g.n:=this
   omega
  obtain⟨rfl,rfl⟩:=e2 hr'
  refine ab.cV (hs _ _ (fun e=>absurd e hr) (fun _=>⟨rfl,rfl⟩)) ?_
  exact aq.cV 1 rfl (.int _ _) rfl (aB _)
abbrev kg (m:Nat->Bool) (m':Bool) (g:GV) (y:Nat->Rat):PV:=.agg [.int .i64 g.k,.int .i64 g.n,.int .i64 g.r,ah (m 0) (ar g.la g.A),ah (m 1) (ar g.lb g.B),ah (m 2) (ar g.lh g.G),ah (m 3) (ar g.lh g.H),ah m' (ar g.n y)]
structure Sys (g:GV) (y:Nat->Rat):Prop where
 wf:Wf g 5 13
 n5:g.n<=5
 hy:∀i,i<g.n->Bz (y i) 5
variable {g:GV} {y:Nat->Rat}
theorem Sys.hA (h:Sys g y):∀i j,i<g.n->j<g.n->Bz (aW g i j) 163:=fun i j hi hj=>h.wf.vj hi hj
theorem Cj (m:Nat->Bool) (m':Bool) (h:Sys g y) (hk:g.k=1):Way 158 [kg m m' g y] g.n:=by
 obtain⟨K,h1,h2,h3⟩:=AB (FH (aW g)) g.n
 have hl:=kA m m' g h.wf hk h.n5 y h.hA h.hy K h1 h2 h3
 by_cases hK:K<g.n
 ·have hl:=hl _ _ (fun _=>⟨rfl,rfl⟩) (fun e=>absurd e (by omega))
  refine .inr ⟨8,by decide,?_⟩
  refine aa (wr:=a9) a6 mixed Tryz.func158 (by kernel_rfl) rfl (by kernel_rfl) (af rfl) (by simp) ?_
  refine ab.bg (hl) (fun _=>rfl) ?_
  exact aq.pure (.bq rfl fun i c d e1 e2=>by
   match i,e1,e2 with
   |0,e1,e2=>cases e1;cases e2;exact .p _ (.sl _ _ (aB []))
   |1,e1,e2=>cases e1;cases e2;exact .p _ (.int _ _))
 ·have hl:=hl _ _ (fun e=>absurd e hK) (fun _=>⟨rfl,rfl⟩)
  refine .inl ⟨_,fun i hi=>(vI h.n5 h.hA (by decide) (by decide) h.hy g.n (Nat.le_refl _) i hi).mono (by have:=(kz (D:=163) (by decide) h.n5).2;omega),?_⟩
  refine aa (wr:=a9) a6 mixed Tryz.func158 (by kernel_rfl) rfl (by kernel_rfl) (af rfl) (by simp) ?_
  refine ab.d7 hl ?_
  exact aq.cV 1 rfl (.int _ _) rfl (aB _)
theorem AI (m:Nat->Bool) (m':Bool) (h:Sys g y) (hk:g.k=2):Way 159 [kg m m' g y] g.n:=by
 obtain⟨K,h1,h2,h3⟩:=AB (FH (aW (D4 g))) g.n
 have hl:=uF m m' g h.wf hk h.n5 y h.hy K h1 h2 h3
 have w:=BS h.wf hk
 by_cases hK:K<g.n
 ·have hl:=hl _ _ (fun _=>⟨rfl,rfl⟩) (fun e=>absurd e (by omega))
  refine .inr ⟨8,by decide,?_⟩
  refine aa (wr:=a9) a6 mixed Tryz.func159 (by kernel_rfl) rfl (by kernel_rfl) (af rfl) (by simp) ?_
  refine ab.bg (hl) (fun _=>rfl) ?_
  exact aq.pure (.bq rfl fun i c d e1 e2=>by
   match i,e1,e2 with
   |0,e1,e2=>cases e1;cases e2;exact .p _ (.sl _ _ (aB []))
   |1,e1,e2=>cases e1;cases e2;exact .p _ (.int _ _))
 ·have hl:=hl _ _ (fun e=>absurd e hK) (fun _=>⟨rfl,rfl⟩)
  refine .inl ⟨_,fun i hi=>(vI (n:=g.n) (D:=163) h.n5 (fun i j hi hj=>w.vj hi hj) (by decide) (by decide) h.hy g.n (Nat.le_refl _) (g.n-1-i) (by omega)).mono (by have:=(kz (D:=163) (by decide) h.n5).2;omega),?_⟩
  refine aa (wr:=a9) a6 mixed Tryz.func159 (by kernel_rfl) rfl (by kernel_rfl) (af rfl) (by simp) ?_
  refine ab.d7 hl ?_
  exact aq.cV 1 rfl (.int _ _) rfl (aB _)
theorem Bh (m:Nat->Bool) (m':Bool) (h:Sys g y) (hk:g.k=3):Way 160 [kg m m' g y] g.n:=by
 have hc:=u9 m m' g h.wf hk h.n5 y h.hy
 by_cases hr:(uh g.n (aW g) y).r<g.n
 ·have hc:=hc _ _ (fun _=>⟨rfl,rfl⟩) (fun e=>absurd e (by omega))
  refine .inr ⟨9,by decide,?_⟩
  refine aa (wr:=a9) a6 mixed Tryz.func160 (by kernel_rfl) rfl (by kernel_rfl) (af rfl) (by simp) ?_
  refine ab.bg (hc) (fun _=>rfl) ?_
  exact aq.pure (.bq rfl fun i c d e1 e2=>by
   match i,e1,e2 with
   |0,e1,e2=>cases e1;cases e2;exact .p _ (.sl _ _ (aB []))
   |1,e1,e2=>cases e1;cases e2;exact .p _ (.int _ _))
 ·have hr':(uh g.n (aW g) y).r=g.n:=by
   have:=(jZ (mF (D:=163) h.hA (fun i hi=>(h.hy i hi).mono (by decide))) (by decide) (Nat.le_succ g.n) g.n (Nat.le_refl _)).rn
   have:(uh g.n (aW g) y).r<=g.n:=this
   omega
  have hc:=hc _ _ (fun e=>absurd e hr) (fun _=>⟨rfl,rfl⟩)
  refine .inl ⟨_,fun i hi=>(D8 (D:=163) h.hA (fun i hi=>(h.hy i hi).mono (by decide)) (by decide) (by decide) h.n5 i hi).mono (by decide),?_⟩
  refine aa (wr:=a9) a6 mixed Tryz.func160 (by kernel_rfl) rfl (by kernel_rfl) (af rfl) (by simp) ?_
  refine ab.cV hc ?_
  exact aq.cV 1 rfl (.int _ _) rfl (aB _)
theorem yi (m:Nat->Bool) (m':Bool) (h:Sys g y):Way 102 [kg m m' g y] g.n:=by
 have hs:=fun R nb e1 e2=>qo false false m' g.n (aW g) y (D:=163) h.hA (fun i hi=>(h.hy i hi).mono (by decide)) h.wf.n1 h.n5 (by decide) (by decide) R nb e1 e2
 by_cases hr:(uh g.n (aW g) y).r<g.n
 ·have hc:=hs _ _ (fun _=>⟨rfl,rfl⟩) (fun e=>absurd e (by omega))
  refine .inr ⟨9,by decide,?_⟩
  refine aa (wr:=a9) a6 mixed Tryz.func102 (by kernel_rfl) rfl (by kernel_rfl) (af rfl) (by simp) ?_
  refine aO.cM (by kernel_rfl) ?_
  repeat refine aj.mk _ _ (And.intro rfl rfl) rfl ?_
  refine aj.mk _ _ (ab.pure (eH m g h.wf) (And.intro rfl rfl)) rfl ?_
  repeat refine aj.mk _ _ (And.intro rfl rfl) rfl ?_
  refine aj.mk _ _ (ab.bg (hc) (fun _=>rfl) (And.intro rfl rfl)) rfl ?_
  repeat refine aj.mk _ _ (And.intro rfl rfl) rfl ?_
  refine br.mk (by kernel_rfl) ?_
  exact aq.pure (.bq rfl fun i c d e1 e2=>by
   match i,e1,e2 with
   |0,e1,e2=>cases e1;cases e2;exact .p _ (.sl _ _ (aB []))
   |1,e1,e2=>cases e1;cases e2;exact .p _ (.int _ _))
 ·have hr':(uh g.n (aW g) y).r=g.n:=by
   have:=(jZ (mF (D:=163) h.hA (fun i hi=>(h.hy i hi).mono (by decide))) (by decide) (Nat.le_succ g.n) g.n (Nat.le_refl _)).rn
   have:(uh g.n (aW g) y).r<=g.n:=this
   omega
  have hc:=hs _ _ (fun e=>absurd e hr) (fun _=>⟨rfl,rfl⟩)
  refine .inl ⟨_,fun i hi=>(D8 (D:=163) h.hA (fun i hi=>(h.hy i hi).mono (by decide)) (by decide) (by decide) h.n5 i hi).mono (by decide),?_⟩
  refine aa (wr:=a9) a6 mixed Tryz.func102 (by kernel_rfl) rfl (by kernel_rfl) (af rfl) (by simp) ?_
  refine aO.cM (by kernel_rfl) ?_
  repeat refine aj.mk _ _ (And.intro rfl rfl) rfl ?_
  refine aj.mk _ _ (ab.pure (eH m g h.wf) (And.intro rfl rfl)) rfl ?_
  repeat refine aj.mk _ _ (And.intro rfl rfl) rfl ?_
  refine aj.mk _ _ (ab.cV hc (And.intro rfl rfl)) rfl ?_
  repeat refine aj.mk _ _ (And.intro rfl rfl) rfl ?_
  refine br.mk (by kernel_rfl) ?_
  exact aq.cV 1 rfl (.int _ _) rfl (aB _)
theorem Bj (m:Nat->Bool) (m':Bool) (h:Sys g y) (hk:g.k=4):Way 161 [kg m m' g y] g.n:=by
 have hla:g.la=g.n:=by unfold GV.la aw;rw[hk];rfl
 have n1:=h.wf.n1
 have n5:=h.n5
 obtain⟨n,hn⟩:∃n,g.n=n+1:=⟨g.n-1,by omega⟩
 have hx:∀i,i<n+1->Bz (g.A i) 5:=fun i hi=>h.wf.bA i (by omega)
 have hf:∀i,i<n+1->Bz (y i) 5:=fun i hi=>h.hy i (by omega)
 have hb:bs (2*5+2) 5 (n+n+1)<=1048576:=Nat.le_trans (eC (show n+n+1<=9 by omega)) (by decide)
 by_cases hr:d9 (ar (n+1) g.A) (ar (n+1) y)=0
 ·have ht:=s9 (m 0) m' n g.A y (s:=5) (b:=5) hx hf (by decide) hb (by omega) hr
  rw[<-hn,show ar g.n g.A=ar g.la g.A by rw[hla]]at ht
  refine .inl ⟨_,fun i hi=>(EL (s:=5) (b:=5) hx hf i (by omega)).mono (Nat.le_trans (Nat.le_trans (eC (show n+n<=n+n+1 by omega)) hb) (by decide)),?_⟩
  refine aa (wr:=a9) a6 mixed Tryz.func161 (by kernel_rfl) rfl (by kernel_rfl) (af rfl) (by simp) ?_
  refine ab.cV ht ?_
  exact aq.cV 1 rfl (.int _ _) rfl (aB _)
 ·have ht:=uV (m 0) m' (ar (n+1) g.A) (ar (n+1) y) (s:=5) (b:=5) (Bl.ar hx) (Bl.ar hf) (by decide) (by rw[az];exact Nat.le_trans (eC (show n+1+(n+1)<=10 by omega)) (by decide)) (by rw[az];omega)
  rw[if_neg hr,<-hn,show ar g.n g.A=ar g.la g.A by rw[hla]]at ht
  rw[<-hn]at hr
  refine .inr ⟨_,hr,?_⟩
  rw[show ar g.n g.A=ar g.la g.A by rw[hla]]
  refine aa (wr:=a9) a6 mixed Tryz.func161 (by kernel_rfl) rfl (by kernel_rfl) (af rfl) (by simp) ?_
  refine ab.bg (ht) (fun _=>rfl) ?_
  exact aq.pure (.bq rfl fun i c d e1 e2=>by
   match i,e1,e2 with
   |0,e1,e2=>cases e1;cases e2;exact .p _ (.sl _ _ (aB []))
   |1,e1,e2=>cases e1;cases e2;exact .p _ (.int _ _))
theorem vW (m:Nat->Bool) (m':Bool) (h:Sys g y) (hk:g.k=5):Way 162 [kg m m' g y] g.n:=by
 have hc:fy g 5 13:={h.wf with k5:=hk}
 by_cases ht:kR g.A g.n/\kR g.B g.n
 ·have hs:=uD m m' g hc ht.1 ht.2 y (fun i hi=>(h.hy i hi).mono (by decide))
  refine .inl ⟨Gi g y,fun i hi=>?_,?_⟩
  ·have:=ik (F:=fun k=>ud g i k*y k) (n:=g.n) (fun k hk=>(vM hc hi hk).mul (h.hy k hk)) g.n (Nat.le_refl _)
   have e:g.n*(5400+5+1)<=5*(5400+5+1):=Nat.mul_le_mul_right _ h.n5
   exact this.mono (Nat.le_trans (Nat.add_le_add_right e 1) (by decide))
  ·refine aa (wr:=a9) a6 mixed Tryz.func162 (by kernel_rfl) rfl (by kernel_rfl) (af rfl) (by simp) ?_
   refine ab.cV hs ?_
   exact aq.cV 1 rfl (.int _ _) rfl (aB _)
 ·have hs:=rA m m' g hc y ht
  refine .inr ⟨9,by decide,?_⟩
  refine aa (wr:=a9) a6 mixed Tryz.func162 (by kernel_rfl) rfl (by kernel_rfl) (af rfl) (by simp) ?_
  refine ab.bg (hs) (fun _=>rfl) ?_
  exact aq.pure (.bq rfl fun i c d e1 e2=>by
   match i,e1,e2 with
   |0,e1,e2=>cases e1;cases e2;exact .p _ (.sl _ _ (aB []))
   |1,e1,e2=>cases e1;cases e2;exact .p _ (.int _ _))
theorem oZ (m:Nat->Bool) (m':Bool) (h:Sys g y):Way 103 [kg m m' g y] g.n:=by
 by_cases hk:g.k=5\/g.k=7
 ·have hB:=Fo h.wf h.n5
  rcases vv g.n (aW g)with hp|⟨K,hK,hp,hz⟩
  ·have f1:=uo m g h.wf hk hB (by decide) (by decide) hp
   obtain⟨f2,f3⟩:=vY m' g.n (aW g) y h.wf.n1 h.n5 hB hp h.hy
   refine .inl ⟨_,fun i hi=>(f3 i hi).mono (by decide),?_⟩
   refine aa (wr:=a9) a6 mixed Tryz.func103 (by kernel_rfl) rfl (by kernel_rfl) (af rfl) (by simp) ?_
   refine ab.bg (f1) (fun _=>rfl) ?_
   refine ag.no (rfl) ?_
   refine ab.cV f2 ?_
   exact aq.cV 2 rfl (.int _ _) rfl (aB _)
  ·have f1:=ua m g h.wf hk hB (by decide) (by decide) hK hp hz
   refine .inr ⟨9,by decide,?_⟩
   refine aa (wr:=a9) a6 mixed Tryz.func103 (by kernel_rfl) rfl (by kernel_rfl) (af rfl) (by simp) ?_
   refine ab.bg (f1) (fun _=>rfl) ?_
   refine ag.yes (rfl) ?_
   exact aq.pure (.bq rfl fun i c d e1 e2=>by
    match i,e1,e2 with
    |0,e1,e2=>cases e1;cases e2;exact .emp 3
    |1,e1,e2=>cases e1;cases e2;exact .p _ (.int _ _))
 ·have f1:=ta m g (fun e=>hk (.inl e)) (fun e=>hk (.inr e))
  refine .inr ⟨2,by decide,?_⟩
  refine aa (wr:=a9) a6 mixed Tryz.func103 (by kernel_rfl) rfl (by kernel_rfl) (af rfl) (by simp) ?_
  refine ab.bg (f1) (fun _=>rfl) ?_
  refine ag.yes (rfl) ?_
  exact aq.pure (.bq rfl fun i c d e1 e2=>by
   match i,e1,e2 with
   |0,e1,e2=>cases e1;cases e2;exact .emp 3
   |1,e1,e2=>cases e1;cases e2;exact .p _ (.int _ _))
theorem pU (m:Nat->Bool) (m':Bool) (h:Sys g y):Way 163 [kg m m' g y] g.n:=by
 have hB:=v9 h.wf h.n5
 have n1:=h.wf.n1
 have n5:=h.n5
 obtain⟨b1,b2,b3⟩:=qs (aW g) g.n
 by_cases hz:sR (aW g) g.n<g.n
 ·have f1:=sI m g h.wf hB (by decide) hz
  refine .inr ⟨8,by decide,?_⟩
  refine aa (wr:=a9) a6 mixed Tryz.func163 (by kernel_rfl) rfl (by kernel_rfl) (af rfl) (by simp) ?_
  refine ab.bg (f1) (fun _=>rfl) ?_
  refine ag.yes (rfl) ?_
  exact aq.pure (.bq rfl fun i c d e1 e2=>by
   match i,e1,e2 with
   |0,e1,e2=>cases e1;cases e2;exact .emp 3
   |1,e1,e2=>cases e1;cases e2;exact .p _ (.int _ _))
 ·have hp:∀t,t<g.n->xL (aW g) t≠0:=fun t ht=>b2 t (by omega)
  have f1:=u5 m g h.wf hB (by decide) hp
  have zL:∀i j,i<g.n->j<g.n->Bz (jf (aW g) i j) 84201:=fun i j hi hj=>Fu h.wf n5 hi hj
  have zU:∀i j,i<g.n->j<g.n->Bz (mi (aW g) i j) 21000000:=fun i j hi hj=>(EF h.wf n5 hi hj).mono (by decide)
  have e1:pj 84201 4<=21000000:=by decide+kernel
  have e2:pj 21000000 4<=5000000000:=by decide+kernel
  have lX:∀k,k<=g.n->∀i,i<k->Bz (np (jf (aW g)) y k i) 21000000:=fun k hk i hi=>(El zL (fun i hi=>(h.hy i hi).mono (by decide)) k hk i hi).mono (Nat.le_trans (j6 (by omega)) e1)
  have hlo:=o6 false false m' g.n (jf (aW g)) y (by omega) zL (fun i hi=>(h.hy i hi).mono (by decide)) lX (by omega)
  have zz:∀i,i<g.n->Bz (np (jf (aW g)) y g.n i) 21000000:=fun i hi=>lX g.n (Nat.le_refl _) i hi
  have uX:∀t,t<=g.n->∀i,g.n<=i+t->i<g.n->Bz (ph (mi (aW g)) (np (jf (aW g)) y g.n) g.n t i) 5000000000:=fun t ht i h1 h2=>(D7 zU zz t ht i h1 h2).mono (Nat.le_trans (j6 (by omega)) e2)
  have hup:=nT false false false g.n g.n (mi (aW g)) (np (jf (aW g)) y g.n) (by omega) zU zz uX (by omega) (Nat.le_refl _) (fun t ht=>by
   have:=hp (g.n-1-t) (by omega)
   show(if _ then _ else _)≠_
   rw[if_neg (Nat.lt_irrefl _)];exact this) (fun h=>absurd h (Nat.lt_irrefl _)) _ _ (fun h=>absurd h (Nat.lt_irrefl _)) (fun _=>⟨rfl,rfl⟩)
  refine .inl ⟨_,fun i hi=>(uX g.n (Nat.le_refl _) i (by omega) hi).mono (by decide),?_⟩
  refine aa (wr:=a9) a6 mixed Tryz.func163 (by kernel_rfl) rfl (by kernel_rfl) (af rfl) (by simp) ?_
  refine ab.bg (f1) (fun _=>rfl) ?_
  refine ag.no (rfl) ?_
  refine ab.pure (hlo) ?_
  refine ab.cV hup ?_
  exact aq.cV 1 rfl (.int _ _) rfl (aB _)
end
section
variable {g:GV} {y:Nat->Rat}
theorem qe (m:Nat->Bool) (m':Bool) (h:Sys g y):Way 104 [kg m m' g y] g.n:=by
 have hkk:g.k=1\/g.k=2\/g.k=3\/g.k=4\/g.k=5\/g.k=6\/g.k=7:=by have:=h.wf.k1;have:=h.wf.k7;omega
 rcases hkk with hk|hk|hk|hk|hk|hk|hk
 ·rcases Cj m m' h hk with⟨x,hx,hc⟩|⟨e,he,hc⟩
  ·refine .inl ⟨x,hx,?_⟩
   refine aa (wr:=a9) a6 mixed Tryz.func104 (by kernel_rfl) rfl (by kernel_rfl) (af rfl) (by simp) ?_
   iterate 7 refine a5.all rfl<|dc.add rfl ?_
   refine a5.all rfl<|cd.at 0 (.int .i64 1,.je 158 [kg m m' g y]) rfl ?_ ?_ ?_
   ·rw[hk];rfl
   ·rw[hk];rfl
   refine ab.cV hc ?_
   exact aq.cV 2 rfl (.int _ _) rfl (aB _)
  ·refine .inr ⟨e,he,?_⟩
   refine aa (wr:=a9) a6 mixed Tryz.func104 (by kernel_rfl) rfl (by kernel_rfl) (af rfl) (by simp) ?_
   iterate 7 refine a5.all rfl<|dc.add rfl ?_
   refine a5.all rfl<|cd.at 0 (.int .i64 1,.je 158 [kg m m' g y]) rfl ?_ ?_ ?_
   ·rw[hk];rfl
   ·rw[hk];rfl
   refine ab.bg (hc) (fun _=>rfl) ?_
   exact aq.pure (.bq rfl fun i c d e1 e2=>by
    match i,e1,e2 with
    |0,e1,e2=>cases e1;cases e2;exact .p _ (.sl _ _ (aB []))
    |1,e1,e2=>cases e1;cases e2;exact .p _ (.int _ _))
 ·rcases AI m m' h hk with⟨x,hx,hc⟩|⟨e,he,hc⟩
  ·refine .inl ⟨x,hx,?_⟩
   refine aa (wr:=a9) a6 mixed Tryz.func104 (by kernel_rfl) rfl (by kernel_rfl) (af rfl) (by simp) ?_
   iterate 7 refine a5.all rfl<|dc.add rfl ?_
   refine a5.all rfl<|cd.at 1 (.int .i64 2,.je 159 [kg m m' g y]) rfl ?_ ?_ ?_
   ·rw[hk];rfl
   ·rw[hk];rfl
   refine ab.cV hc ?_
   exact aq.cV 2 rfl (.int _ _) rfl (aB _)
  ·refine .inr ⟨e,he,?_⟩
   refine aa (wr:=a9) a6 mixed Tryz.func104 (by kernel_rfl) rfl (by kernel_rfl) (af rfl) (by simp) ?_
   iterate 7 refine a5.all rfl<|dc.add rfl ?_
   refine a5.all rfl<|cd.at 1 (.int .i64 2,.je 159 [kg m m' g y]) rfl ?_ ?_ ?_
   ·rw[hk];rfl
   ·rw[hk];rfl
   refine ab.bg (hc) (fun _=>rfl) ?_
   exact aq.pure (.bq rfl fun i c d e1 e2=>by
    match i,e1,e2 with
    |0,e1,e2=>cases e1;cases e2;exact .p _ (.sl _ _ (aB []))
    |1,e1,e2=>cases e1;cases e2;exact .p _ (.int _ _))
 ·rcases Bh m m' h hk with⟨x,hx,hc⟩|⟨e,he,hc⟩
  ·refine .inl ⟨x,hx,?_⟩
   refine aa (wr:=a9) a6 mixed Tryz.func104 (by kernel_rfl) rfl (by kernel_rfl) (af rfl) (by simp) ?_
   iterate 7 refine a5.all rfl<|dc.add rfl ?_
   refine a5.all rfl<|cd.at 2 (.int .i64 3,.je 160 [kg m m' g y]) rfl ?_ ?_ ?_
   ·rw[hk];rfl
   ·rw[hk];rfl
   refine ab.cV hc ?_
   exact aq.cV 2 rfl (.int _ _) rfl (aB _)
  ·refine .inr ⟨e,he,?_⟩
   refine aa (wr:=a9) a6 mixed Tryz.func104 (by kernel_rfl) rfl (by kernel_rfl) (af rfl) (by simp) ?_
   iterate 7 refine a5.all rfl<|dc.add rfl ?_
   refine a5.all rfl<|cd.at 2 (.int .i64 3,.je 160 [kg m m' g y]) rfl ?_ ?_ ?_
   ·rw[hk];rfl
   ·rw[hk];rfl
   refine ab.bg (hc) (fun _=>rfl) ?_
   exact aq.pure (.bq rfl fun i c d e1 e2=>by
    match i,e1,e2 with
    |0,e1,e2=>cases e1;cases e2;exact .p _ (.sl _ _ (aB []))
    |1,e1,e2=>cases e1;cases e2;exact .p _ (.int _ _))
 ·rcases Bj m m' h hk with⟨x,hx,hc⟩|⟨e,he,hc⟩
  ·refine .inl ⟨x,hx,?_⟩
   refine aa (wr:=a9) a6 mixed Tryz.func104 (by kernel_rfl) rfl (by kernel_rfl) (af rfl) (by simp) ?_
   iterate 7 refine a5.all rfl<|dc.add rfl ?_
   refine a5.all rfl<|cd.at 3 (.int .i64 4,.je 161 [kg m m' g y]) rfl ?_ ?_ ?_
   ·rw[hk];rfl
   ·rw[hk];rfl
   refine ab.cV hc ?_
   exact aq.cV 2 rfl (.int _ _) rfl (aB _)
  ·refine .inr ⟨e,he,?_⟩
   refine aa (wr:=a9) a6 mixed Tryz.func104 (by kernel_rfl) rfl (by kernel_rfl) (af rfl) (by simp) ?_
   iterate 7 refine a5.all rfl<|dc.add rfl ?_
   refine a5.all rfl<|cd.at 3 (.int .i64 4,.je 161 [kg m m' g y]) rfl ?_ ?_ ?_
   ·rw[hk];rfl
   ·rw[hk];rfl
   refine ab.bg (hc) (fun _=>rfl) ?_
   exact aq.pure (.bq rfl fun i c d e1 e2=>by
    match i,e1,e2 with
    |0,e1,e2=>cases e1;cases e2;exact .p _ (.sl _ _ (aB []))
    |1,e1,e2=>cases e1;cases e2;exact .p _ (.int _ _))
 ·rcases vW m m' h hk with⟨x,hx,hc⟩|⟨e,he,hc⟩
  ·refine .inl ⟨x,hx,?_⟩
   refine aa (wr:=a9) a6 mixed Tryz.func104 (by kernel_rfl) rfl (by kernel_rfl) (af rfl) (by simp) ?_
   iterate 7 refine a5.all rfl<|dc.add rfl ?_
   refine a5.all rfl<|cd.at 4 (.int .i64 5,.je 162 [kg m m' g y]) rfl ?_ ?_ ?_
   ·rw[hk];rfl
   ·rw[hk];rfl
   refine ab.cV hc ?_
   exact aq.cV 2 rfl (.int _ _) rfl (aB _)
  ·refine .inr ⟨e,he,?_⟩
   refine aa (wr:=a9) a6 mixed Tryz.func104 (by kernel_rfl) rfl (by kernel_rfl) (af rfl) (by simp) ?_
   iterate 7 refine a5.all rfl<|dc.add rfl ?_
   refine a5.all rfl<|cd.at 4 (.int .i64 5,.je 162 [kg m m' g y]) rfl ?_ ?_ ?_
   ·rw[hk];rfl
   ·rw[hk];rfl
   refine ab.bg (hc) (fun _=>rfl) ?_
   exact aq.pure (.bq rfl fun i c d e1 e2=>by
    match i,e1,e2 with
    |0,e1,e2=>cases e1;cases e2;exact .p _ (.sl _ _ (aB []))
    |1,e1,e2=>cases e1;cases e2;exact .p _ (.int _ _))
 ·rcases pU m m' h with⟨x,hx,hc⟩|⟨e,he,hc⟩
  ·refine .inl ⟨x,hx,?_⟩
   refine aa (wr:=a9) a6 mixed Tryz.func104 (by kernel_rfl) rfl (by kernel_rfl) (af rfl) (by simp) ?_
   iterate 7 refine a5.all rfl<|dc.add rfl ?_
   refine a5.all rfl<|cd.at 5 (.int .i64 6,.je 163 [kg m m' g y]) rfl ?_ ?_ ?_
   ·rw[hk];rfl
   ·rw[hk];rfl
   refine ab.cV hc ?_
   exact aq.cV 2 rfl (.int _ _) rfl (aB _)
  ·refine .inr ⟨e,he,?_⟩
   refine aa (wr:=a9) a6 mixed Tryz.func104 (by kernel_rfl) rfl (by kernel_rfl) (af rfl) (by simp) ?_
   iterate 7 refine a5.all rfl<|dc.add rfl ?_
   refine a5.all rfl<|cd.at 5 (.int .i64 6,.je 163 [kg m m' g y]) rfl ?_ ?_ ?_
   ·rw[hk];rfl
   ·rw[hk];rfl
   refine ab.bg (hc) (fun _=>rfl) ?_
   exact aq.pure (.bq rfl fun i c d e1 e2=>by
    match i,e1,e2 with
    |0,e1,e2=>cases e1;cases e2;exact .p _ (.sl _ _ (aB []))
    |1,e1,e2=>cases e1;cases e2;exact .p _ (.int _ _))
 ·rcases oZ m m' h with⟨x,hx,hc⟩|⟨e,he,hc⟩
  ·refine .inl ⟨x,hx,?_⟩
   refine aa (wr:=a9) a6 mixed Tryz.func104 (by kernel_rfl) rfl (by kernel_rfl) (af rfl) (by simp) ?_
   iterate 7 refine a5.all rfl<|dc.add rfl ?_
   refine a5.all rfl<|cd.at 6 (.int .i64 7,.je 103 [kg m m' g y]) rfl ?_ ?_ ?_
   ·rw[hk];rfl
   ·rw[hk];rfl
   refine ab.cV hc ?_
   exact aq.cV 2 rfl (.int _ _) rfl (aB _)
  ·refine .inr ⟨e,he,?_⟩
   refine aa (wr:=a9) a6 mixed Tryz.func104 (by kernel_rfl) rfl (by kernel_rfl) (af rfl) (by simp) ?_
   iterate 7 refine a5.all rfl<|dc.add rfl ?_
   refine a5.all rfl<|cd.at 6 (.int .i64 7,.je 103 [kg m m' g y]) rfl ?_ ?_ ?_
   ·rw[hk];rfl
   ·rw[hk];rfl
   refine ab.bg (hc) (fun _=>rfl) ?_
   exact aq.pure (.bq rfl fun i c d e1 e2=>by
    match i,e1,e2 with
    |0,e1,e2=>cases e1;cases e2;exact .p _ (.sl _ _ (aB []))
    |1,e1,e2=>cases e1;cases e2;exact .p _ (.int _ _))
def xJ (f:FuncId) (args:List PV) (N:Nat):Prop:=
 (∃(x:Nat->Rat) (b:Int),(∀i,i<N->Bz (x i) 10000000000)/\au Tryz.prog f args (.bq [.vec 0 3 0 N,.p (.int .i64 b),.p (.int .i64 0)]) [.vec 38 3 (bd (ar N x))])\/
  ∃e b:Int,e≠0/\au Tryz.prog f args (.bq [.p (ah false []),.p (.int .i64 b),.p (.int .i64 e)]) []
theorem xl (m:Nat->Bool) (m':Bool) (h:Sys g y):xJ 42 [kg m m' g y,.int .i64 0] g.n:=by
 rcases yi m m' h with⟨x,hx,hc⟩|⟨e,he,hc⟩
 ·refine .inl ⟨x,0,hx,?_⟩
  refine aa (wr:=a9) a6 mixed Tryz.func42 (by kernel_rfl) rfl (by kernel_rfl) (af rfl) (by simp) ?_
  refine ag.yes (rfl) ?_
  refine ab.cV hc ?_
  exact aq.d7 1 rfl (.int _ _) (.int _ _) rfl (aB _)
 ·refine .inr ⟨e,0,he,?_⟩
  refine aa (wr:=a9) a6 mixed Tryz.func42 (by kernel_rfl) rfl (by kernel_rfl) (af rfl) (by simp) ?_
  refine ag.yes (rfl) ?_
  refine ab.bg (hc) (fun _=>rfl) ?_
  exact aq.pure (.bq rfl fun i c d e1 e2=>by
   match i,e1,e2 with
   |0,e1,e2=>cases e1;cases e2;exact .p _ (.sl _ _ (aB []))
   |1,e1,e2=>cases e1;cases e2;exact .p _ (.int _ _)
   |2,e1,e2=>cases e1;cases e2;exact .p _ (.int _ _))
theorem Dn (m:Nat->Bool) (m':Bool) (h:Sys g y):xJ 42 [kg m m' g y,.int .i64 2] g.n:=by
 rcases oZ m m' h with⟨x,hx,hc⟩|⟨e,he,hc⟩
 ·refine .inl ⟨x,2,hx,?_⟩
  refine aa (wr:=a9) a6 mixed Tryz.func42 (by kernel_rfl) rfl (by kernel_rfl) (af rfl) (by simp) ?_
  refine ag.no (rfl) ?_
  refine ag.yes (rfl) ?_
  refine ab.cV hc ?_
  exact aq.d7 1 rfl (.int _ _) (.int _ _) rfl (aB _)
 ·refine .inr ⟨e,2,he,?_⟩
  refine aa (wr:=a9) a6 mixed Tryz.func42 (by kernel_rfl) rfl (by kernel_rfl) (af rfl) (by simp) ?_
  refine ag.no (rfl) ?_
  refine ag.yes (rfl) ?_
  refine ab.bg (hc) (fun _=>rfl) ?_
  exact aq.pure (.bq rfl fun i c d e1 e2=>by
   match i,e1,e2 with
   |0,e1,e2=>cases e1;cases e2;exact .p _ (.sl _ _ (aB []))
   |1,e1,e2=>cases e1;cases e2;exact .p _ (.int _ _)
   |2,e1,e2=>cases e1;cases e2;exact .p _ (.int _ _))
theorem DZ (m:Nat->Bool) (m':Bool) (h:Sys g y):xJ 42 [kg m m' g y,.int .i64 1] g.n:=by
 rcases qe m m' h with⟨x,hx,hc⟩|⟨e,he,hc⟩
 ·refine .inl ⟨x,1,hx,?_⟩
  refine aa (wr:=a9) a6 mixed Tryz.func42 (by kernel_rfl) rfl (by kernel_rfl) (af rfl) (by simp) ?_
  refine ag.no (rfl) ?_
  refine ag.no (rfl) ?_
  refine ag.yes (rfl) ?_
  refine ab.cV hc ?_
  exact aq.d7 1 rfl (.int _ _) (.int _ _) rfl (aB _)
 ·refine .inr ⟨e,1,he,?_⟩
  refine aa (wr:=a9) a6 mixed Tryz.func42 (by kernel_rfl) rfl (by kernel_rfl) (af rfl) (by simp) ?_
  refine ag.no (rfl) ?_
  refine ag.no (rfl) ?_
  refine ag.yes (rfl) ?_
  refine ab.bg (hc) (fun _=>rfl) ?_
  exact aq.pure (.bq rfl fun i c d e1 e2=>by
   match i,e1,e2 with
   |0,e1,e2=>cases e1;cases e2;exact .p _ (.sl _ _ (aB []))
   |1,e1,e2=>cases e1;cases e2;exact .p _ (.int _ _)
   |2,e1,e2=>cases e1;cases e2;exact .p _ (.int _ _))
theorem Cy (m:Nat->Bool) (m':Bool) (h:Sys g y):xJ 42 [kg m m' g y,.int .i64 3] g.n:=by
 rcases qe m m' h with⟨x,hx,hc⟩|⟨e,he,hc⟩
 ·refine .inl ⟨x,1,hx,?_⟩
  refine aa (wr:=a9) a6 mixed Tryz.func42 (by kernel_rfl) rfl (by kernel_rfl) (af rfl) (by simp) ?_
  refine ag.no (rfl) ?_
  refine ag.no (rfl) ?_
  refine ag.no (rfl) ?_
  refine ag.yes (rfl) ?_
  refine ab.cV hc ?_
  refine ag.no (rfl) ?_
  exact aq.d7 1 rfl (.int _ _) (.int _ _) rfl (aB _)
 ·by_cases e8:e=8
  ·rcases xl m m' h with⟨x,b,hx,h0⟩|⟨e',b,he',h0⟩
   ·refine .inl ⟨x,b,hx,?_⟩
    refine aa (wr:=a9) a6 mixed Tryz.func42 (by kernel_rfl) rfl (by kernel_rfl) (af rfl) (by simp) ?_
    refine ag.no (rfl) ?_
    refine ag.no (rfl) ?_
    refine ag.no (rfl) ?_
    refine ag.yes (rfl) ?_
    refine ab.bg (hc) (fun _=>rfl) ?_
    refine ag.yes (kV e8) ?_
    refine ab.d7 h0 ?_
    exact aq.d7 1 rfl (.int _ _) (.int _ _) rfl (aB _)
   ·refine .inr ⟨e',b,he',?_⟩
    refine aa (wr:=a9) a6 mixed Tryz.func42 (by kernel_rfl) rfl (by kernel_rfl) (af rfl) (by simp) ?_
    refine ag.no (rfl) ?_
    refine ag.no (rfl) ?_
    refine ag.no (rfl) ?_
    refine ag.yes (rfl) ?_
    refine ab.bg (hc) (fun _=>rfl) ?_
    refine ag.yes (kV e8) ?_
    refine ab.bg (h0) (fun _=>rfl) ?_
    exact aq.pure (.bq rfl fun i c d e1 e2=>by
     match i,e1,e2 with
     |0,e1,e2=>cases e1;cases e2;exact .p _ (.sl _ _ (aB []))
     |1,e1,e2=>cases e1;cases e2;exact .p _ (.int _ _)
     |2,e1,e2=>cases e1;cases e2;exact .p _ (.int _ _))
  ·refine .inr ⟨e,1,he,?_⟩
   refine aa (wr:=a9) a6 mixed Tryz.func42 (by kernel_rfl) rfl (by kernel_rfl) (af rfl) (by simp) ?_
   refine ag.no (rfl) ?_
   refine ag.no (rfl) ?_
   refine ag.no (rfl) ?_
   refine ag.yes (rfl) ?_
   refine ab.bg (hc) (fun _=>rfl) ?_
   refine ag.no (kL e8) ?_
   exact aq.pure (.bq rfl fun i c d e1 e2=>by
    match i,e1,e2 with
    |0,e1,e2=>cases e1;cases e2;exact .p _ (.sl _ _ (aB []))
    |1,e1,e2=>cases e1;cases e2;exact .p _ (.int _ _)
    |2,e1,e2=>cases e1;cases e2;exact .p _ (.int _ _))
theorem Fq (m:Nat->Bool) (m':Bool) (h:Sys g y) {mt:Int} (hm:mt=0\/mt=1\/mt=2\/mt=3):xJ 42 [kg m m' g y,.int .i64 mt] g.n:=by
 rcases hm with rfl|rfl|rfl|rfl
 ·exact xl m m' h
 ·exact DZ m m' h
 ·exact Dn m m' h
 ·exact Cy m m' h
theorem yr (m:Nat->Bool) (m':Bool) (h:Sys g y) {mt:Int} (hm:mt=0\/mt=1\/mt=2\/mt=3):xJ 11 [cG m g,ah m' (ar g.n y),.int .i64 mt] g.n:=by
 have n5:=h.n5
 rcases Fq m m' h hm with⟨x,b,hx,hc⟩|⟨e,b,he,hc⟩
 ·refine .inl ⟨x,b,hx,?_⟩
  refine aa (wr:=a9) a6 mixed Tryz.func11 (by kernel_rfl) rfl (by kernel_rfl) (af rfl) (by simp) ?_
  refine SZ.mk (g.n:Int) (by simp[ar]) ?_
  refine ag.no (by simp) ?_
  refine ab.pure (fr m g h.wf) ?_
  refine ag.no (rfl) ?_
  refine SZ.mk (g.n:Int) (by simp[ar]) ?_
  refine aM.mk Nat (fun i=>([(1,.p (ah m' (ar g.n y))),(2,.p (.int .i64 mt)),(3,.aF 0 0),(21,.p (ah m' (ar g.n y))),(22,.p (.int .i64 g.n)),(23,.p (.int .i64 i))],[.box 26 (nN m g)]))
   (fun i=>i<=g.n) (fun i=>g.n-i) 0 [0] (Nat.zero_le _) ⟨rfl,by simp,rfl,rfl,rfl,⟨rfl,rfl,rfl,rfl,rfl,rfl,trivial⟩,⟨rfl,trivial⟩⟩ ?_
  intro i hi
  have hi:i<=g.n:=hi
  by_cases h1:i<g.n
  ·refine ag.yes (decide_eq_true (by omega)) ?_
   refine aG.rf i rfl h1 ?_
   refine ab.pure (dS (y i) (h.hy i h1).sz (by omega)) ?_
   refine ag.no (rfl) ?_
   refine ae.ao ((i+1:Nat):Int) (by omega) (by omega) ?_
   exact⟨i+1,[0],h1,by show g.n-(i+1)<g.n-i;omega,⟨rfl,by simp,rfl,rfl,rfl,⟨rfl,rfl,rfl,rfl,rfl,rfl,trivial⟩,⟨rfl,trivial⟩⟩⟩
  refine ag.no (decide_eq_false (by omega)) ?_
  refine ab.d7 hc ?_
  refine ag.no (rfl) ?_
  exact aq.d7 1 rfl (.int _ _) (.int _ _) rfl (aB _)
 ·refine .inr ⟨e,0,he,?_⟩
  refine aa (wr:=a9) a6 mixed Tryz.func11 (by kernel_rfl) rfl (by kernel_rfl) (af rfl) (by simp) ?_
  refine SZ.mk (g.n:Int) (by simp[ar]) ?_
  refine ag.no (by simp) ?_
  refine ab.pure (fr m g h.wf) ?_
  refine ag.no (rfl) ?_
  refine SZ.mk (g.n:Int) (by simp[ar]) ?_
  refine aM.mk Nat (fun i=>([(1,.p (ah m' (ar g.n y))),(2,.p (.int .i64 mt)),(3,.aF 0 0),(21,.p (ah m' (ar g.n y))),(22,.p (.int .i64 g.n)),(23,.p (.int .i64 i))],[.box 26 (nN m g)]))
   (fun i=>i<=g.n) (fun i=>g.n-i) 0 [0] (Nat.zero_le _) ⟨rfl,by simp,rfl,rfl,rfl,⟨rfl,rfl,rfl,rfl,rfl,rfl,trivial⟩,⟨rfl,trivial⟩⟩ ?_
  intro i hi
  have hi:i<=g.n:=hi
  by_cases h1:i<g.n
  ·refine ag.yes (decide_eq_true (by omega)) ?_
   refine aG.rf i rfl h1 ?_
   refine ab.pure (dS (y i) (h.hy i h1).sz (by omega)) ?_
   refine ag.no (rfl) ?_
   refine ae.ao ((i+1:Nat):Int) (by omega) (by omega) ?_
   exact⟨i+1,[0],h1,by show g.n-(i+1)<g.n-i;omega,⟨rfl,by simp,rfl,rfl,rfl,⟨rfl,rfl,rfl,rfl,rfl,rfl,trivial⟩,⟨rfl,trivial⟩⟩⟩
  refine ag.no (decide_eq_false (by omega)) ?_
  refine ab.bg (hc) (fun _=>rfl) ?_
  refine ag.yes (vK he) ?_
  exact aq.pure (.bq rfl fun i c d e1 e2=>by
   match i,e1,e2 with
   |0,e1,e2=>cases e1;cases e2;exact .emp 3
   |1,e1,e2=>cases e1;cases e2;exact .p _ (.int _ _)
   |2,e1,e2=>cases e1;cases e2;exact .p _ (.int _ _))
end
def AD:Nat->Bool
 |0=>true
 |_=>false
def pq:GV:=⟨1,1,0,fun _=>((4:Int):Rat),fun _=>0,fun _=>0,fun _=>0⟩
theorem uq:Wf pq 5 13 where
 k1:=by decide
 k7:=by decide
 n1:=by decide
 n6:=by decide
 r2:=by decide
 r1:=fun h=>by rcases h with h|h<;>cases h
 r0:=fun _=>rfl
 bA:=fun i _=>i7 (by decide) (by decide)
 bB:=fun i _=>bS.mono (by decide)
 bG:=fun i _=>bS.mono (by decide)
 bH:=fun i _=>bS.mono (by decide)
 ne:=fun i j _ hj=>absurd hj (Nat.not_lt_zero _)
 bc:=by decide
 c4:=by decide
def sn:Nat->Rat:=fun _=>((1:Int):Rat)
theorem Gj:Sys pq sn:=⟨uq,by decide,fun i _=>i7 (by decide) (by decide)⟩
abbrev vQ:aC:=.vec 38 3 [aJ (1/4)]
theorem nK:∀e∈[aJ (1/4)],∀c∈e.cells,bZ c:=aB [1/4]
theorem yU:au Tryz.prog 208 [cG AD pq,ah true (ar pq.n sn)] (.bq [.vec 0 3 0 1,.p (.int .i64 0),.p (.int .i64 0)]) [vQ]:=by
 have e4:zw (aW pq) sn 1 0=1/4:=by decide+kernel
 have h:=Gj
 refine kA AD true pq h.wf rfl h.n5 sn h.hA h.hy 1 (Nat.le_refl _) (fun t ht=>?_) (fun h=>absurd h (by decide)) _ _ (fun h=>absurd h (by decide)) fun _=>⟨rfl,?_⟩
 ·obtain rfl:t=0:=by omega
  decide+kernel
 ·show[vQ]=[.vec 38 3 [aJ (zw (aW pq) sn 1 0)]]
  rw[e4]
theorem zZ:au Tryz.prog 158 [kg AD true pq sn] (.bq [.vec 0 3 0 1,.p (.int .i64 0)]) [vQ]:=by
 refine aa (wr:=a9) a6 mixed Tryz.func158 (by kernel_rfl) rfl (by kernel_rfl) (af rfl) (by simp) ?_
 refine ab.d7 yU ?_
 exact aq.cV 1 rfl (.int _ _) rfl nK
theorem xY:au Tryz.prog 104 [kg AD true pq sn] (.bq [.vec 0 3 0 1,.p (.int .i64 0)]) [vQ]:=by
 refine aa (wr:=a9) a6 mixed Tryz.func104 (by kernel_rfl) rfl (by kernel_rfl) (af rfl) (by simp) ?_
 iterate 7 refine a5.all rfl<|dc.add rfl ?_
 refine a5.all rfl<|cd.at 0 (.int .i64 1,.je 158 [kg AD true pq sn]) rfl rfl rfl ?_
 refine ab.cV zZ ?_
 exact aq.cV 2 rfl (.int _ _) rfl nK
theorem Fw:au Tryz.prog 42 [kg AD true pq sn,.int .i64 3] (.bq [.vec 0 3 0 1,.p (.int .i64 1),.p (.int .i64 0)]) [vQ]:=by
 refine aa (wr:=a9) a6 mixed Tryz.func42 (by kernel_rfl) rfl (by kernel_rfl) (af rfl) (by simp) ?_
 refine ag.no (rfl) ?_
 refine ag.no (rfl) ?_
 refine ag.no (rfl) ?_
 refine ag.yes (rfl) ?_
 refine ab.cV xY ?_
 refine ag.no (rfl) ?_
 exact aq.d7 1 rfl (.int _ _) (.int _ _) rfl nK
theorem vi:au Tryz.prog 11 [cG AD pq,ah true (ar pq.n sn),.int .i64 3] (.bq [.vec 0 3 0 1,.p (.int .i64 1),.p (.int .i64 0)]) [vQ]:=by
 refine aa (wr:=a9) a6 mixed Tryz.func11 (by kernel_rfl) rfl (by kernel_rfl) (af rfl) (by simp) ?_
 refine SZ.mk 1 rfl ?_
 refine ag.no (rfl) ?_
 refine ab.pure (fr AD pq uq) ?_
 refine ag.no (rfl) ?_
 refine SZ.mk 1 rfl ?_
 refine aM.mk Nat (fun i=>([(1,.p (ah true (ar pq.n sn))),(2,.p (.int .i64 3)),(3,.aF 0 0),(21,.p (ah true (ar pq.n sn))),(22,.p (.int .i64 1)),(23,.p (.int .i64 i))],[.box 26 (nN AD pq)]))
  (fun i=>i<=1) (fun i=>1-i) 0 [0] (Nat.zero_le _) ⟨rfl,by simp,rfl,rfl,rfl,⟨rfl,rfl,rfl,rfl,rfl,rfl,trivial⟩,⟨rfl,trivial⟩⟩ ?_
 intro i hi
 match i,hi with
 |0,_=>
  refine ag.yes (rfl) ?_
  refine aG.rf 0 rfl (by decide) ?_
  refine ab.pure (dS (sn 0) (Gj.hy 0 (by decide)).sz (by decide)) ?_
  refine ag.no (rfl) ?_
  refine ae.ao 1 rfl (by decide) ?_
  exact⟨1,[0],by decide,by decide,⟨rfl,by simp,rfl,rfl,rfl,⟨rfl,rfl,rfl,rfl,rfl,rfl,trivial⟩,⟨rfl,trivial⟩⟩⟩
 |1,_=>
  refine ag.no (rfl) ?_
  refine ab.d7 Fw ?_
  refine ag.no (rfl) ?_
  exact aq.d7 1 rfl (.int _ _) (.int _ _) rfl nK
theorem yu:au Tryz.prog 18 [cG AD pq,ah true (ar 1 sn),aJ 0] (.bq [.p (.sl false 1 [.int .u64 4598175219545276416]),.p (aJ 0),.p (.int .i64 0)]) []:=by
 have e4:Bz (aW pq 0 0) 5:=i7 (n:=4) (by decide) (by decide)
 have f4:Bz (sn 0) 5:=i7 (n:=1) (by decide) (by decide)
 have b4:Bz (1/4:Rat) 5:=⟨by decide+kernel,by decide+kernel⟩
 have c3:=B5 false false true false (aW pq) sn e4 f4 b4 (by decide) (by decide) (by decide+kernel)
 refine aa (wr:=a9) a6 mixed Tryz.func18 (by kernel_rfl) rfl (by kernel_rfl) (af rfl) (by simp) ?_
 refine ab.d7 vi ?_
 refine ag.no (rfl) ?_
 refine bp.all rfl ?_
 refine ab.bg (uM true) (fun _=>rfl) ?_
 refine ag.no (rfl) ?_
 refine ab.pure (eH AD pq uq) ?_
 refine ab.bg (c3) (fun _=>rfl) ?_
 refine ag.no (rfl) ?_
 refine ab.pure (eN 0 0 bS.sz bS.sz (by omega)) ?_
 refine ag.no (by decide+kernel) ?_
 refine aO.cM (by kernel_rfl) ?_
 repeat refine aj.mk _ _ (And.intro rfl rfl) rfl ?_
 refine br.mk (by kernel_rfl) ?_
 exact aq.pure (.bq rfl fun i c d e1 e2=>by
  match i,e1,e2 with
  |0,e1,e2=>
   cases e1;cases e2
   exact .p _ (.sl _ _ fun e he c hc=>by
    simp at he;subst he
    simp[PV.cells]at hc;subst hc
    exact .int _ _)
  |1,e1,e2=>cases e1;cases e2;exact .p _ (aS _ _ _)
  |2,e1,e2=>cases e1;cases e2;exact .p _ (.int _ _))
theorem qz:au Tryz.prog 6 [] (.p (.bool true)) []:=by
 have hf:au Tryz.prog 18 [.agg [.int .i64 1,.int .i64 1,.int .i64 0,ah true (ar 1 pq.A),fB,fB,fB],ah true (ar 1 sn),aJ 0] (.bq [.p (.sl false 1 [.int .u64 4598175219545276416]),.p (aJ 0),.p (.int .i64 0)]) []:=
  cw.r4 yu rfl fun i p1 p2 e1 e2=>by
   match i,e1,e2 with
   |0,e1,e2=>cases e1;cases e2;exact .gen rfl rfl rfl (.refl _) (.nil _ _) (.nil _ _) (.nil _ _)
   |1,e1,e2=>cases e1;cases e2;exact .refl _
   |2,e1,e2=>cases e1;cases e2;exact .refl _
 refine aa (wr:=a9) a6 mixed Tryz.func6 (by kernel_rfl) rfl (by kernel_rfl) (af rfl) (by simp) ?_
 refine ab.pure (eZ 4 (by decide)) ?_
 refine aO.cM (by kernel_rfl) ?_
 repeat refine aj.mk _ _ (And.intro rfl rfl) rfl ?_
 refine aj.mk _ _ (ab.pure (eZ 1 (by decide)) (And.intro rfl rfl)) rfl ?_
 repeat refine aj.mk _ _ (And.intro rfl rfl) rfl ?_
 refine aj.mk _ _ (ab.pure (tP) (And.intro rfl rfl)) rfl ?_
 refine aj.mk _ _ (bp.all rfl<|bp.all rfl<|ab.bg hf (fun _=>rfl) (And.intro rfl rfl)) rfl ?_
 repeat refine aj.mk _ _ (And.intro rfl rfl) rfl ?_
 refine br.mk (by kernel_rfl) ?_
 have hn:au Tryz.prog 19 [aJ 0] (.p (.bool true)) []:=vL 0
 refine ag.yes (rfl) ?_
 refine SZ.mk 1 rfl ?_
 refine ag.yes (rfl) ?_
 refine aG.mk 0 _ rfl rfl ?_
 refine ag.yes (rfl) ?_
 refine ab.pure (hn) ?_
 refine a8.mk (fun _=>?_) (fun h=>by cases h)
 refine SZ.mk 1 (by rw[show(0:Rat).den=1 from rfl,qP];rfl) ?_
 refine ag.yes (rfl) ?_
 exact aq.pure (.tf _)
theorem ae.EA {e:Int} {K:Int->Prop} (hk:K (e%256)):ae .u8 e K:=.mk _ (by rw[jx _ rfl];rfl) hk
abbrev u8 (n:Int):PV:=.int .u8 n
def FR (x:Nat):List PV:=[u8 ((x:Int)%256),u8 (((x/256:Nat):Int)%256),u8 (((x/65536:Nat):Int)%256),u8 (((x/16777216:Nat):Int)%256)]
def DM (l:List Nat):List PV:=l.flatMap FR
def px (l:List Nat):List PV:=u8 ((l.length:Int)%256)::DM l
def gz (l:List PV):Prop:=∀e∈l,∃n,e=u8 n
theorem gz.app {l l':List PV} (h:gz l) (h':gz l'):gz (l++l'):=fun e he=>(List.mem_append.1 he).elim (h e) (h' e)
theorem gz.cons {n:Int} {l:List PV} (h:gz l):gz (u8 n::l):=fun e he=>(List.mem_cons.1 he).elim (fun e=>⟨n,e⟩) (h e)
theorem gz.nil:gz []:=fun e he=>absurd he List.not_mem_nil
theorem BF (x:Nat):gz (FR x):=.cons (.cons (.cons (.cons .nil)))
theorem Cd (l:List Nat):gz (DM l):=fun e he=>by
 obtain⟨x,_,h⟩:=List.mem_flatMap.1 he
 exact BF x e h
theorem iG (l:List Nat):gz (px l):=.cons (Cd l)
theorem xh (l:List Nat):(DM l).length=4*l.length:=by
 induction l with
 |nil=>rfl
 |cons x l ih=>show(FR x++DM l).length=_;rw[List.length_append,ih];show 4+_=_;rw[List.length_cons];omega
theorem k9 (l:List Nat):(px l).length=1+4*l.length:=by show(DM l).length+1=_;rw[xh];omega
theorem BV (l:List Nat) {i:Nat} (hi:i<l.length):DM (l.take (i+1))=DM (l.take i)++FR (l.getD i 0):=by
 unfold DM
 rw[List.take_add_one,List.flatMap_append,List.getD,List.getElem?_eq_getElem hi]
 simp
theorem gz.gP {l:List PV} (h:gz l):∀e∈l,∀c∈e.cells,bZ c:=fun e he c hc=>by
 obtain⟨n,rfl⟩:=h e he
 simp[PV.cells]at hc;subst hc
 exact .int _ _
theorem E8 {a:Nat} {K:Int->Prop} (hk:K ((a/16777216:Nat):Int)):sr 24 (SZ ((a:Int).fdiv (2^(min (24:Int).toNat (IntKind.bits .u32)))) K):=
 .mk (by decide) (.mk _ (Int.fdiv_eq_ediv_of_nonneg _ (by decide)) hk)
theorem lI (m:Bool) {es:List PV} (hb:gz es) (he:es.length<=100000) (l:List Nat) (hl:l.length<=1000) (hk:fV l):
  cw Tryz.prog 89 [.vec 0 1 0 es.length,.p (.sl m 1 (bF l))] [.vec 5 1 es] (.vec 1 1 0 (es++px l).length) [.dead,.vec 5 1 (es++px l)]:=by
 refine aa (wr:=a9) a6 mixed Tryz.func89 (by kernel_rfl) rfl (by kernel_rfl) (af rfl) (by simp) ?_
 refine SZ.mk (l.length:Int) (by simp) ?_
 refine ae.EA ?_
 refine ga.mk rfl<|bp.all rfl<|ck.mk (by simp;omega) (by simp;omega)<|cH.mk _ rfl<|mQ.mk (es.length+1) (by simp) ?_
 refine SZ.mk (l.length:Int) (by simp) ?_
 refine aM.mk (Nat×List PV) (fun(i,E)=>([(0,.vec 1 1 0 E.length),(13,.p (.sl m 1 (bF l))),(14,.p (.int .i64 l.length)),(15,.p (.int .i64 i))],[.dead,.vec 5 1 E]))
  (fun(i,E)=>i<=l.length/\E=es++u8 ((l.length:Int)%256)::DM (l.take i)) (fun x=>l.length-x.1) (0,es++[u8 ((l.length:Int)%256)]) [0,2] ⟨Nat.zero_le _,rfl⟩ ⟨rfl,by simp,rfl,rfl,rfl,⟨by simp;rfl,rfl,rfl,rfl,trivial⟩,⟨rfl,rfl,trivial⟩⟩ ?_
 intro⟨i,E⟩ ⟨i1,i2⟩
 by_cases h1:i<l.length
 ·refine ag.yes (decide_eq_true (by omega)) ?_
  refine aG.lb i rfl h1 ?_
  have hE:E.length<=110000:=by
   rw[i2,List.length_append,List.length_cons,xh,List.length_take];omega
  refine ae.EA ?_
  refine At ?_
  refine ae.EA ?_
  refine AR ?_
  refine ae.EA ?_
  refine E8 ?_
  refine ae.EA ?_
  refine ga.mk rfl<|bp.all rfl<|ck.mk (by simp;omega) (by simp;omega)<|cH.mk _ rfl<|mQ.mk (E.length+4) (by simp) ?_
  refine ae.ao ((i+1:Nat):Int) (by omega) (by omega) ?_
  refine⟨(i+1,E++FR (l.getD i 0)),[0,3],⟨h1,?_⟩,by show l.length-(i+1)<l.length-i;omega,⟨rfl,by simp,rfl,rfl,rfl,⟨by rw[List.length_append];rfl,rfl,rfl,rfl,trivial⟩,⟨rfl,rfl,trivial⟩⟩⟩
  rw[BV l h1,i2];simp
 ·refine ag.no (decide_eq_false (by omega)) ?_
  obtain rfl:i=l.length:=by omega
  rw[List.take_length]at i2
  subst i2
  refine .all [0,1] rfl (by decide) rfl (by simp) (fun h hl=>?_) (fun h hh=>?_) (fun i h' B e1 e2=>?_) (.vec rfl)
  ·have:=cD (fun e=>by rw[e]at hl;exact hl:look _ h≠ .free)
   simp only[List.mem_cons,List.not_mem_nil,or_false]
   have:h.key<2:=this
   omega
  ·have hk:=cD hh
   have hk:h.key<1:=hk
   cases h with
   |t k=>
    obtain rfl:k=0:=by simpa[Hd.key]using hk
    exact fun e=>by cases e
   |r k j=>
    obtain rfl:k=0:=by simpa[Hd.key]using hk
    exact(hh rfl).elim
  ·match i,e1,e2 with
   |0,e1,e2=>cases e1;cases e2;exact .dead
   |1,e1,e2=>cases e1;cases e2;exact .vec (hb.app (iG l)).gP
def nk (q:Rat):List PV:=u8 (if q.num<0 then 1 else 0)::(px (nl q.num.natAbs)++px (nl q.den))
theorem mv (q:Rat):gz (nk q):=.cons ((iG _).app (iG _))
theorem yF {es:List PV} (hb:gz es) (he:es.length<=80000) {q:Rat} (hn:(nl q.num.natAbs).length<=20) (hd:(nl q.den).length<=20):
  cw Tryz.prog 39 [.vec 0 1 0 es.length,.p (aJ q)] [.vec 5 1 es] (.vec 1 1 0 (es++nk q).length) [.dead,.vec 5 1 (es++nk q),.box 38 [.p (.bool (decide (q.num<0))),.p (bC q.num.natAbs),.p (bC q.den)],.vec 5 1 [u8 (if q.num<0 then 1 else 0)]]:=by
 have h1:∀x,gz (es++[u8 x]):=fun x=>hb.app (.cons .nil)
 by_cases hs:q.num<0
 ·have hN:es++nk q=es++[u8 1]++px (nl q.num.natAbs)++px (nl q.den):=by unfold nk;rw[if_pos hs];simp
  rw[if_pos hs,hN]
  refine aa (wr:=a9) a6 mixed Tryz.func39 (by kernel_rfl) rfl (by kernel_rfl) (af rfl) (by simp) ?_
  refine a8.mk (fun _=>?_) (fun e=>absurd hs (of_decide_eq_false e))
  have hc1:=lI false (h1 1) (by simp;omega) (nl q.num.natAbs) (by omega) (bR _)
  have hc2:=lI false ((h1 1).app (iG (nl q.num.natAbs))) (by rw[List.length_append,k9];simp;omega) (nl q.den) (by omega) (bR _)
  refine aO.cM (by kernel_rfl) ?_
  repeat refine aj.mk _ _ (And.intro rfl rfl) rfl ?_
  refine aj.mk _ _ (ga.mk rfl<|bp.all rfl<|ck.mk (by simp;omega) (by simp;omega)<|cH.mk (es++[u8 1]) rfl<|mQ.mk (es++[u8 1]).length (by simp) (And.intro rfl rfl)) rfl ?_
  repeat refine aj.mk _ _ (And.intro rfl rfl) rfl ?_
  refine aj.mk _ _ (bp.all rfl<|ab.app 3 1 _ _ _ _ _ [bC q.num.natAbs] rfl rfl (fun _=>rfl) (by decide) hc1 (And.intro rfl rfl)) rfl ?_
  repeat refine aj.mk _ _ (And.intro rfl rfl) rfl ?_
  refine aj.mk _ _ (bp.all rfl<|ab.app 4 1 _ _ _ _ _ [bC q.den] rfl rfl (fun _=>rfl) (by decide) hc2 (And.intro rfl rfl)) rfl ?_
  repeat refine aj.mk _ _ (And.intro rfl rfl) rfl ?_
  refine br.mk (by kernel_rfl) ?_
  refine .all [0,5,1,2] rfl (by decide) rfl (by simp) (fun h hl=>?_) (fun h hh=>?_) (fun i h' B e1 e2=>?_) ?_
  ·have hk:=cD (fun e=>by rw[e]at hl;exact hl:look _ h≠ .free)
   have hk:h.key<6:=hk
   cases h with
   |t k=>
    match k,hk,hl with
    |0,_,_=>simp[Hd.key]
    |1,_,_=>simp[Hd.key]
    |2,_,_=>simp[Hd.key]
    |3,_,hl=>exact hl.elim
    |4,_,hl=>exact hl.elim
    |5,_,_=>simp[Hd.key]
   |r k j=>
    match k,hk,hl with
    |0,_,hl=>exact hl.elim
    |1,_,hl=>exact hl.elim
    |2,_,hl=>exact hl.elim
    |3,_,hl=>exact hl.elim
    |4,_,hl=>exact hl.elim
    |5,_,hl=>exact hl.elim
  ·have hk:=cD hh
   have hk:h.key<1:=hk
   cases h with
   |t k=>
    obtain rfl:k=0:=by simpa[Hd.key]using hk
    exact fun e=>by cases e
   |r k j=>
    obtain rfl:k=0:=by simpa[Hd.key]using hk
    exact(hh rfl).elim
  ·match i,e1,e2 with
   |0,e1,e2=>cases e1;cases e2;exact .dead
   |1,e1,e2=>cases e1;cases e2;exact .vec (by rw[<-hN];exact(hb.app (mv q)).gP)
   |2,e1,e2=>
    cases e1;cases e2
    refine .box (fun d hd=>by simp at hd;rcases hd with rfl|rfl|rfl<;>rfl) rfl fun i c d e1 e2=>?_
    match i,e1,e2 with
    |0,e1,e2=>cases e1;cases e2;exact .p _ (.bool _)
    |1,e1,e2=>cases e1;cases e2;exact .p _ (.sl _ _ (aP _))
    |2,e1,e2=>cases e1;cases e2;exact .p _ (.sl _ _ (aP _))
   |3,e1,e2=>cases e1;cases e2;exact .vec (gz.gP (.cons .nil))
  ·exact .vec rfl
 ·have hN:es++nk q=es++[u8 0]++px (nl q.num.natAbs)++px (nl q.den):=by unfold nk;rw[if_neg hs];simp
  rw[if_neg hs,hN]
  refine aa (wr:=a9) a6 mixed Tryz.func39 (by kernel_rfl) rfl (by kernel_rfl) (af rfl) (by simp) ?_
  refine a8.mk (fun e=>absurd (of_decide_eq_true e) hs) (fun _=>?_)
  have hc1:=lI false (h1 0) (by simp;omega) (nl q.num.natAbs) (by omega) (bR _)
  have hc2:=lI false ((h1 0).app (iG (nl q.num.natAbs))) (by rw[List.length_append,k9];simp;omega) (nl q.den) (by omega) (bR _)
  refine aO.cM (by kernel_rfl) ?_
  repeat refine aj.mk _ _ (And.intro rfl rfl) rfl ?_
  refine aj.mk _ _ (ga.mk rfl<|bp.all rfl<|ck.mk (by simp;omega) (by simp;omega)<|cH.mk (es++[u8 0]) rfl<|mQ.mk (es++[u8 0]).length (by simp) (And.intro rfl rfl)) rfl ?_
  repeat refine aj.mk _ _ (And.intro rfl rfl) rfl ?_
  refine aj.mk _ _ (bp.all rfl<|ab.app 3 1 _ _ _ _ _ [bC q.num.natAbs] rfl rfl (fun _=>rfl) (by decide) hc1 (And.intro rfl rfl)) rfl ?_
  repeat refine aj.mk _ _ (And.intro rfl rfl) rfl ?_
  refine aj.mk _ _ (bp.all rfl<|ab.app 4 1 _ _ _ _ _ [bC q.den] rfl rfl (fun _=>rfl) (by decide) hc2 (And.intro rfl rfl)) rfl ?_
  repeat refine aj.mk _ _ (And.intro rfl rfl) rfl ?_
  refine br.mk (by kernel_rfl) ?_
  refine .all [0,5,1,2] rfl (by decide) rfl (by simp) (fun h hl=>?_) (fun h hh=>?_) (fun i h' B e1 e2=>?_) ?_
  ·have hk:=cD (fun e=>by rw[e]at hl;exact hl:look _ h≠ .free)
   have hk:h.key<6:=hk
   cases h with
   |t k=>
    match k,hk,hl with
    |0,_,_=>simp[Hd.key]
    |1,_,_=>simp[Hd.key]
    |2,_,_=>simp[Hd.key]
    |3,_,hl=>exact hl.elim
    |4,_,hl=>exact hl.elim
    |5,_,_=>simp[Hd.key]
   |r k j=>
    match k,hk,hl with
    |0,_,hl=>exact hl.elim
    |1,_,hl=>exact hl.elim
    |2,_,hl=>exact hl.elim
    |3,_,hl=>exact hl.elim
    |4,_,hl=>exact hl.elim
    |5,_,hl=>exact hl.elim
  ·have hk:=cD hh
   have hk:h.key<1:=hk
   cases h with
   |t k=>
    obtain rfl:k=0:=by simpa[Hd.key]using hk
    exact fun e=>by cases e
   |r k j=>
    obtain rfl:k=0:=by simpa[Hd.key]using hk
    exact(hh rfl).elim
  ·match i,e1,e2 with
   |0,e1,e2=>cases e1;cases e2;exact .dead
   |1,e1,e2=>cases e1;cases e2;exact .vec (by rw[<-hN];exact(hb.app (mv q)).gP)
   |2,e1,e2=>
    cases e1;cases e2
    refine .box (fun d hd=>by simp at hd;rcases hd with rfl|rfl|rfl<;>rfl) rfl fun i c d e1 e2=>?_
    match i,e1,e2 with
    |0,e1,e2=>cases e1;cases e2;exact .p _ (.bool _)
    |1,e1,e2=>cases e1;cases e2;exact .p _ (.sl _ _ (aP _))
    |2,e1,e2=>cases e1;cases e2;exact .p _ (.sl _ _ (aP _))
   |3,e1,e2=>cases e1;cases e2;exact .vec (gz.gP (.cons .nil))
  ·exact .vec rfl
theorem ab.GU {P:Program} {f:FuncId} {L:Hd->aC} {base h:Nat} {K:AV->List (Hd×aC)->Prop} {T T2 T3:TypeId} {W n W3:Nat} {es es' es3:List PV} {c1 c2 c3:PV} {args args':List AV}
  (hc:cw P f args' [.vec T W es] (.vec 1 W 0 n) [.dead,.vec T W es',.box T2 [.p c1,.p c2,.p c3],.vec T3 W3 es3]) (hb:h<base) (hL:L h= .vec T W es) (hLr:∀k,L (.r h k)= .free)
  (ha:AV.cz (bn [h] base) args'=args) (hargs:∀a∈args',∀k,a.aU k->k.key<1)
  (hk:K (.vec base W 0 n) [(h,.dead),(base,.vec T W es'),((base+1:Nat),.box T2 [.p c1,.p c2,.p c3]),((base+2:Nat),.vec T3 W3 es3)]) {raw:List AV}:ab P true f raw args L base K:=by
 refine .mk [h] args' (.vec 1 W 0 n) [.vec T W es] [.dead,.vec T W es',.box T2 [.p c1,.p c2,.p c3],.vec T3 W3 es3] (fun e=>by cases e) (by simp) (fun k hk=>by simp at hk;omega) ha rfl (fun i g B e1 e2=>?_) (fun B hB=>by simp at hB;subst hB;simp) (fun B hB k hk=>by simp at hB;subst hB;exact hk.elim) (by simp)
  (fun B hB=>by simp at hB;rcases hB with rfl|rfl|rfl|rfl<;>simp) hargs hc hk
 match i,e1,e2 with
 |0,e1,e2=>cases e1;cases e2;exact⟨hL,hLr⟩
def wZ (g:GV):Nat->Nat
 |0=>g.la
 |1=>g.lb
 |_=>g.lh
def Dx (g:GV):Nat->Nat->Rat
 |0=>g.A
 |1=>g.B
 |2=>g.G
 |_=>g.H
theorem Bp (q:Rat) (hn:(nl q.num.natAbs).length<=20) (hd:(nl q.den).length<=20):(nk q).length<=163:=by
 unfold nk
 rw[List.length_cons,List.length_append,k9,k9]
 omega
theorem wi {q:Rat} (h:Bz q 13):(nl q.num.natAbs).length<=20/\(nl q.den).length<=20:=by
 have:=h.sz
 exact⟨Nat.le_trans this.n (by decide),Nat.le_trans this.d (by decide)⟩
theorem Bw {g:GV} (hw:Wf g 5 13) (hn:g.n<=5) {i:Nat} (hi:i<4):wZ g i<=30/\∀j,j<wZ g i->Bz (Dx g i j) 13:=by
 have hc:=bU (k:=g.k) (r:=g.r) hw.n1 (show g.n<=8 by omega) (show g.r<=3 by have:=hw.r2;omega)
 have ha:g.la<=15:=hc.1
 have hb:g.lb<=8:=hc.2.1
 have hh:g.lh<=24:=hc.2.2.1
 match i,hi with
 |0,_=>exact⟨by show g.la<=30;omega,fun j hj=>(hw.bA j hj).mono (by decide)⟩
 |1,_=>exact⟨by show g.lb<=30;omega,fun j hj=>hw.bB j hj⟩
 |2,_=>exact⟨by show g.lh<=30;omega,fun j hj=>(hw.bG j hj).mono (by decide)⟩
 |3,_=>exact⟨by show g.lh<=30;omega,fun j hj=>(hw.bH j hj).mono (by decide)⟩
abbrev Hl:FuncId->Bool:=fun f=>Nat.beq f 39
abbrev Cc (m:Nat->Bool) (g:GV):List PV:=[ah (m 0) (ar g.la g.A),ah (m 1) (ar g.lb g.B),ah (m 2) (ar g.lh g.G),ah (m 3) (ar g.lh g.H)]
def uz (q:Nat->Rat):Nat->List PV
 |0=>[]
 |j+1=>uz q j++nk (q j)
def gB (g:GV):Nat->List PV
 |0=>[u8 ((g.k:Int)%256),u8 ((g.n:Int)%256),u8 ((g.r:Int)%256)]
 |i+1=>gB g i++uz (Dx g i) (wZ g i)
theorem qw (q:Nat->Rat) (n:Nat):gz (uz q n):=by
 induction n with
 |zero=>exact .nil
 |succ n ih=>exact ih.app (mv _)
theorem r9 (g:GV) (n:Nat):gz (gB g n):=by
 induction n with
 |zero=>exact .cons (.cons (.cons .nil))
 |succ n ih=>exact ih.app (qw _ _)
theorem tt {q:Nat->Rat} {n:Nat} (h:∀j,j<n->Bz (q j) 13):(uz q n).length<=400*n:=by
 induction n with
 |zero=>exact Nat.le_refl _
 |succ n ih=>
  have h1:=ih fun j hj=>h j (by omega)
  have h2:=h n (by omega)
  have h3:=Bp (q n) (wi h2).1 (wi h2).2
  show(uz q n++nk (q n)).length<=_
  rw[List.length_append];omega
theorem ER {g:GV} (hw:Wf g 5 13) (hn:g.n<=5):∀{i:Nat},i<=4->(gB g i).length<=3+12000*i:=by
 intro i
 induction i with
 |zero=>intro _;exact Nat.le_refl _
 |succ i ih=>
  intro hi
  have h1:=ih (by omega)
  have h2:=Bw hw hn (show i<4 by omega)
  have h3:=tt h2.2
  show(gB g i++uz (Dx g i) (wZ g i)).length<=_
  rw[List.length_append];omega
theorem AJ (m:Nat->Bool) {g:GV} (hw:Wf g 5 13) (hn:g.n<=5):au Tryz.prog 9 [cG m g] (.p (.sl false 1 (gB g 4))) []:=by
 have hl:=fun{i:Nat} (hi:i<=4)=>ER hw hn hi
 have hl4:=hl (Nat.le_refl 4)
 have get:∀i,i<4->(Cc m g)[i]?=some (ah (m i) (ar (wZ g i) (Dx g i))):=fun i hi=>by
  match i,hi with
  |0,_=>rfl
  |1,_=>rfl
  |2,_=>rfl
  |3,_=>rfl
 refine aa (wr:=Hl) a6 mixed Tryz.func9 (by kernel_rfl) rfl (by kernel_rfl) (af rfl) (by simp) ?_
 refine ae.EA ?_
 refine ae.EA ?_
 refine ae.EA ?_
 refine aM.mk Nat (fun i=>([(3,.vec 0 1 0 (gB g i).length),(27,.p (.agg (Cc m g))),(28,.p (.int .i64 i))],[.vec 5 1 (gB g i)]))
  (fun i=>i<=4) (fun i=>4-i) 0 [1] (Nat.zero_le _) ⟨rfl,by simp,rfl,rfl,rfl,⟨rfl,rfl,rfl,trivial⟩,⟨rfl,trivial⟩⟩ ?_
 intro i hi
 have hi:i<=4:=hi
 by_cases h1:i<4
 ·refine ag.yes (decide_eq_true (by omega)) ?_
  refine aG.mk i _ rfl (get i h1) ?_
  obtain⟨hL,hB⟩:=Bw hw hn h1
  refine SZ.mk (wZ g i:Int) (by simp[ar]) ?_
  refine aM.mk (Nat×List PV) (fun(j,E)=>([(3,.vec 0 1 0 E.length),(27,.p (.agg (Cc m g))),(28,.p (.int .i64 i)),(31,.p (ah (m i) (ar (wZ g i) (Dx g i)))),(32,.p (.int .i64 (wZ g i))),(33,.p (.int .i64 j))],[.vec 5 1 E]))
   (fun(j,E)=>j<=wZ g i/\E=gB g i++uz (Dx g i) j) (fun x=>wZ g i-x.1) (0,gB g i) [0] ⟨Nat.zero_le _,(List.append_nil _).symm⟩ ⟨rfl,by simp,rfl,rfl,rfl,⟨rfl,rfl,rfl,rfl,rfl,rfl,trivial⟩,⟨rfl,trivial⟩⟩ ?_
  intro⟨j,E⟩ ⟨hj,hE⟩
  by_cases h2:j<wZ g i
  ·refine ag.yes (decide_eq_true (by omega)) ?_
   have hq:=hB j h2
   have hr:=tt (q:=Dx g i) (n:=j) fun k hk=>hB k (by omega)
   have hli:=hl (show i<=4 by omega)
   have hb:gz E:=by rw[hE];exact(r9 g i).app (qw _ _)
   have hc:=yF (es:=E) hb (by rw[hE,List.length_append];omega) (wi hq).1 (wi hq).2
   refine aG.rf j rfl h2 ?_
   refine ab.GU (h:=0) (args':=[.vec 0 1 0 E.length,.p (aJ (Dx g i j))]) hc (by decide) rfl (fun _=>rfl) rfl (fun a ha k hk=>?_) ?_
   ·simp only[List.mem_cons,List.not_mem_nil,or_false]at ha
    rcases ha with rfl|rfl
    ·simp only[AV.aU]at hk;subst hk;decide
    ·simp only[AV.aU]at hk
   refine ae.ao ((j+1:Nat):Int) (by omega) (by omega) ?_
   exact⟨(j+1,E++nk (Dx g i j)),[2],⟨h2,by rw[hE,List.append_assoc];rfl⟩,by show wZ g i-(j+1)<wZ g i-j;omega,⟨rfl,by simp,rfl,rfl,rfl,⟨rfl,rfl,rfl,rfl,rfl,rfl,trivial⟩,⟨rfl,trivial⟩⟩⟩
  ·refine ag.no (decide_eq_false (by omega)) ?_
   have hj':j=wZ g i:=Nat.le_antisymm hj (Nat.le_of_not_lt h2)
   subst hj' hE
   refine ae.ao ((i+1:Nat):Int) (by omega) (by omega) ?_
   exact⟨i+1,[0],h1,by show 4-(i+1)<4-i;omega,⟨rfl,by simp,rfl,rfl,rfl,⟨rfl,rfl,rfl,trivial⟩,⟨rfl,trivial⟩⟩⟩
 ·refine ag.no (decide_eq_false (by omega)) ?_
  obtain rfl:i=4:=by omega
  have hb:=r9 g 4
  generalize gB g 4=E at hl4 hb⊢
  refine SZ.mk (E.length:Int) rfl ?_
  refine SZ.mk (E.length:Int) rfl ?_
  refine bT.mk (by simp) ?_
  refine bV.mk E.length rfl (by show E.length*1<=_;omega) (by omega) ?_
  refine bT.mk (by simp) ?_
  refine bp.all rfl ?_
  refine cH.mk E (by simp) ?_
  refine SZ.mk _ rfl ?_
  exact aq.pure (.ze rfl (by simp) (by simp) hb.gP (by simp))
theorem fO (a n:Int) (hn:0<n) (hn':n<4611686018427387904):au Tryz.prog 81 [.int .i64 a,.int .i64 n] (.p (.int .i64 (a%n))) []:=by
 refine aa (wr:=a9) a6 mixed Tryz.func81 (by kernel_rfl) rfl (by kernel_rfl) (af rfl) (by simp) ?_
 have hw:=dR (a:=a) hn
 have hb:=iX a hn
 obtain⟨r,hr⟩:∃r,r=a.tmod n:=⟨_,rfl⟩
 rw[<-hr]at hw hb
 refine ue.mk (by omega) ?_
 refine SZ.mk r hr.symm ?_
 by_cases h:r<0
 ·refine ag.yes (decide_eq_true (by omega)) ?_
  refine ae.ao (r+n) rfl (by omega) ?_
  rw[if_pos h]at hw
  rw[<-hw]
  exact aq.pure (.p _ (.int _ _))
 ·refine ag.no (decide_eq_false (by omega)) ?_
  rw[if_neg h]at hw
  rw[<-hw]
  exact aq.pure (.p _ (.int _ _))
def nq (ns:List Int) (i:Nat):Int:=if i<ns.length then(ns.getD i 0).tdiv 2 else(i:Int)
def EZ (ns:List Int) (i:Nat):Rat:=((nq ns i%3-1:Int):Rat)
theorem ET (ns:List Int) (i:Nat):Bz (EZ ns i) 5:=by
 refine i7 ?_ (by decide)
 have h1:=Int.emod_nonneg (nq ns i) (show(3:Int)≠0 by decide)
 have h2:=Int.emod_lt_of_pos (nq ns i) (show(0:Int)<3 by decide)
 exact cK (by omega)
def zg (n most:Int) (ns:List Int):GV:=
 if 0<ns.length/\ns.getD 0 0%2=0 then{uf 1 (iw n most) 0 (bl ns)with A:=EZ ns}else uf 1 (iw n most) 0 (bl ns)
theorem As (n most:Int) (ns:List Int) (h1:1<=most) (h6:most<=6):Wf (zg n most ns) 5 13:=by
 have hn:=oM n most h1
 have h:Wf (uf 1 (iw n most) 0 (bl ns)) 5 13:=rP (by decide) (by decide) hn.1 (by omega) (fun h=>by omega) (by decide) (fun _=>rfl)
 unfold zg
 split
 ·exact{h with
   bA:=fun i _=>ET ns i
   ne:=fun i j _ hj=>absurd hj (Nat.not_lt_zero _)}
 ·exact h
theorem Ed {n most:Int} {ns:List Int}:(zg n most ns).k=1:=by unfold zg;split<;>rfl
theorem Ec {n most:Int} {ns:List Int}:(zg n most ns).n=iw n most:=by unfold zg;split<;>rfl
theorem oF (m:Bool) (n most:Int) (ns:List Int) (hn:oC n) (hns:ng ns) (hm1:1<=most) (hm8:most<=8):
  au Tryz.prog 33 [.int .i64 n,.sl m 1 (dB ns),.int .i64 most] (.p (cG nJ (zg n most ns))) []:=by
 have hm:=jG m 0 n most ns (by unfold oC;omega) hn hns hm1 hm8
 have e1:wI 0=1:=by decide
 have e2:tE 1 n=0:=if_neg (by decide)
 rw[e1,e2]at hm
 have hN:=oM n most hm1
 unfold zg
 generalize iw n most=N at hm hN
 refine aa (wr:=a9) a6 mixed Tryz.func33 (by kernel_rfl) rfl (by kernel_rfl) (af rfl) (by simp) ?_
 refine ab.pure (hm) ?_
 refine SZ.mk (ns.length:Int) (by simp) ?_
 by_cases h0:0<ns.length
 ·refine ag.yes (decide_eq_true (by omega)) ?_
  refine aG.ib 0 rfl h0 ?_
  refine ab.pure (fO (ns.getD 0 0) 2 (by omega) (by omega)) ?_
  by_cases h1:ns.getD 0 0%2=0
  ·rw[if_pos ⟨h0,h1⟩]
   refine ag.yes (kV h1) ?_
   refine F4.e ?_
   refine aM.mk Nat (fun i=>match i with
     |0=>([(0,.p (.int .i64 n)),(1,.p (.sl m 1 (dB ns))),(6,.aF 0 0),(7,.aF 1 0),(8,.p (.int .i64 0))],[.box 26 pS,.box 26 [.p (.int .i64 1),.p (.int .i64 N),.p (.int .i64 0),.emp,.p (ah false []),.p (ah false []),.p (ah false [])]])
     |j+1=>([(0,.p (.int .i64 n)),(1,.p (.sl m 1 (dB ns))),(6,.aF 0 0),(7,.aF 1 0),(8,.p (.int .i64 ((j+1:Nat):Int)))],[.box 26 pS,.box 26 [.p (.int .i64 1),.p (.int .i64 N),.p (.int .i64 0),.vec 2 3 0 (j+1),.p (ah false []),.p (ah false []),.p (ah false [])],.vec 38 3 (bd (ar (j+1) (EZ ns)))]))
    (fun i=>i<=2*N-1) (fun i=>2*N-i) 0 [0,1] (Nat.zero_le _) ⟨rfl,by simp,rfl,rfl,rfl,⟨rfl,rfl,rfl,rfl,rfl,trivial⟩,⟨rfl,rfl,trivial⟩⟩ ?_
   intro i hi
   match i,hi with
   |0,hi=>
    have hi:0<=2*N-1:=hi
    refine ae.ao ((2*N:Nat):Int) (by omega) (by omega) ?_
    refine ae.ao ((2*N-1:Nat):Int) (by omega) (by omega) ?_
    refine ag.yes (decide_eq_true (by omega)) ?_
    have b1:=Int.emod_nonneg (nq ns (0)) (show(3:Int)≠0 by decide)
    have b2:=Int.emod_lt_of_pos (nq ns (0)) (show(0:Int)<3 by decide)
    refine SZ.mk (ns.length:Int) (by simp) ?_
    by_cases hs:0<ns.length
    ·refine ag.yes (decide_eq_true (by omega)) ?_
     have ek:nq ns (0)=(ns.getD (0) 0).tdiv 2:=if_pos hs
     have hq:=hns (0)
     have hq2: -9223372036854775808<=(ns.getD (0) 0).tdiv 2/\(ns.getD (0) 0).tdiv 2<9223372036854775808:=by
      unfold oC at hq
      rw[Int.tdiv_eq_ediv,show Int.sign 2=1 from rfl];split<;>omega
     refine aG.ib (0) rfl hs ?_
     refine ue.mk (by omega) ?_
     refine ae.ao (nq ns (0)) ek.symm (by omega) ?_
     refine aO.cM (by kernel_rfl) ?_
     repeat refine aj.mk _ _ (And.intro rfl rfl) rfl ?_
     refine aj.mk _ _ (ab.pure (fO (nq ns (0)) 3 (by omega) (by omega)) (And.intro rfl rfl)) rfl ?_
     refine aj.mk _ _ (ae.ao (nq ns (0)%3-1) rfl (by omega) (And.intro rfl rfl)) rfl ?_
     refine aj.mk _ _ (ab.pure (eZ (nq ns (0)%3-1) (by omega)) (And.intro rfl rfl)) rfl ?_
     repeat refine aj.mk _ _ (And.intro rfl rfl) rfl ?_
     refine aj.mk _ _ (bp.all rfl<|ck.mk (by simp) (by simp) (And.intro rfl rfl)) rfl ?_
     repeat refine aj.mk _ _ (And.intro rfl rfl) rfl ?_
     refine br.mk (by kernel_rfl) ?_
     refine ae.ao (((0)+1:Nat):Int) (by omega) (by omega) ?_
     exact⟨(0)+1,[0,1,3],by omega,by show 2*N-((0)+1)<2*N-(0);omega,⟨rfl,by simp,rfl,rfl,rfl,⟨rfl,rfl,rfl,rfl,rfl,trivial⟩,⟨rfl,rfl,rfl,trivial⟩⟩⟩
    ·refine ag.no (decide_eq_false (by omega)) ?_
     have ek:nq ns (0)=((0:Nat):Int):=if_neg hs
     have hc:au Tryz.prog 81 [.int .i64 0,.int .i64 3] (.p (.int .i64 (nq ns (0)%3))) []:=by
      rw[ek];exact fO _ 3 (by omega) (by omega)
     refine aO.cM (by kernel_rfl) ?_
     repeat refine aj.mk _ _ (And.intro rfl rfl) rfl ?_
     refine aj.mk _ _ (ab.pure (hc) (And.intro rfl rfl)) rfl ?_
     refine aj.mk _ _ (ae.ao (nq ns (0)%3-1) rfl (by omega) (And.intro rfl rfl)) rfl ?_
     refine aj.mk _ _ (ab.pure (eZ (nq ns (0)%3-1) (by omega)) (And.intro rfl rfl)) rfl ?_
     repeat refine aj.mk _ _ (And.intro rfl rfl) rfl ?_
     refine aj.mk _ _ (bp.all rfl<|ck.mk (by simp) (by simp) (And.intro rfl rfl)) rfl ?_
     repeat refine aj.mk _ _ (And.intro rfl rfl) rfl ?_
     refine br.mk (by kernel_rfl) ?_
     refine ae.ao (((0)+1:Nat):Int) (by omega) (by omega) ?_
     exact⟨(0)+1,[0,1,3],by omega,by show 2*N-((0)+1)<2*N-(0);omega,⟨rfl,by simp,rfl,rfl,rfl,⟨rfl,rfl,rfl,rfl,rfl,trivial⟩,⟨rfl,rfl,rfl,trivial⟩⟩⟩
   |j+1,hi=>
    have hi:j+1<=2*N-1:=hi
    refine ae.ao ((2*N:Nat):Int) (by omega) (by omega) ?_
    refine ae.ao ((2*N-1:Nat):Int) (by omega) (by omega) ?_
    by_cases hin:j+1<2*N-1
    ·refine ag.yes (decide_eq_true (by omega)) ?_
     have b1:=Int.emod_nonneg (nq ns (j+1)) (show(3:Int)≠0 by decide)
     have b2:=Int.emod_lt_of_pos (nq ns (j+1)) (show(0:Int)<3 by decide)
     refine SZ.mk (ns.length:Int) (by simp) ?_
     by_cases hs:j+1<ns.length
     ·refine ag.yes (decide_eq_true (by omega)) ?_
      have ek:nq ns (j+1)=(ns.getD (j+1) 0).tdiv 2:=if_pos hs
      have hq:=hns (j+1)
      have hq2: -9223372036854775808<=(ns.getD (j+1) 0).tdiv 2/\(ns.getD (j+1) 0).tdiv 2<9223372036854775808:=by
       unfold oC at hq
       rw[Int.tdiv_eq_ediv,show Int.sign 2=1 from rfl];split<;>omega
      refine aG.ib (j+1) rfl hs ?_
      refine ue.mk (by omega) ?_
      refine ae.ao (nq ns (j+1)) ek.symm (by omega) ?_
      refine aO.cM (by kernel_rfl) ?_
      repeat refine aj.mk _ _ (And.intro rfl rfl) rfl ?_
      refine aj.mk _ _ (ab.pure (fO (nq ns (j+1)) 3 (by omega) (by omega)) (And.intro rfl rfl)) rfl ?_
      refine aj.mk _ _ (ae.ao (nq ns (j+1)%3-1) rfl (by omega) (And.intro rfl rfl)) rfl ?_
      refine aj.mk _ _ (ab.pure (eZ (nq ns (j+1)%3-1) (by omega)) (And.intro rfl rfl)) rfl ?_
      repeat refine aj.mk _ _ (And.intro rfl rfl) rfl ?_
      refine aj.mk _ _ (ga.mk (by simp[ar])<|bp.all rfl<|ck.mk (by simp[ar];omega) (by simp[ar];omega)<|cH.mk _ (j4 (j+1) (EZ ns) _ rfl)<|mQ.mk (j+1+1) (by simp[ar]) (And.intro rfl rfl)) rfl ?_
      repeat refine aj.mk _ _ (And.intro rfl rfl) rfl ?_
      refine br.mk (by kernel_rfl) ?_
      refine ae.ao (((j+1)+1:Nat):Int) (by omega) (by omega) ?_
      exact⟨(j+1)+1,[0,1,4],by omega,by show 2*N-((j+1)+1)<2*N-(j+1);omega,⟨rfl,by simp,rfl,rfl,rfl,⟨rfl,rfl,rfl,rfl,rfl,trivial⟩,⟨rfl,rfl,rfl,trivial⟩⟩⟩
     ·refine ag.no (decide_eq_false (by omega)) ?_
      have ek:nq ns (j+1)=((j+1:Nat):Int):=if_neg hs
      have hc:au Tryz.prog 81 [.int .i64 ((j+1:Nat):Int),.int .i64 3] (.p (.int .i64 (nq ns (j+1)%3))) []:=by
       rw[ek];exact fO _ 3 (by omega) (by omega)
      refine aO.cM (by kernel_rfl) ?_
      repeat refine aj.mk _ _ (And.intro rfl rfl) rfl ?_
      refine aj.mk _ _ (ab.pure (hc) (And.intro rfl rfl)) rfl ?_
      refine aj.mk _ _ (ae.ao (nq ns (j+1)%3-1) rfl (by omega) (And.intro rfl rfl)) rfl ?_
      refine aj.mk _ _ (ab.pure (eZ (nq ns (j+1)%3-1) (by omega)) (And.intro rfl rfl)) rfl ?_
      repeat refine aj.mk _ _ (And.intro rfl rfl) rfl ?_
      refine aj.mk _ _ (ga.mk (by simp[ar])<|bp.all rfl<|ck.mk (by simp[ar];omega) (by simp[ar];omega)<|cH.mk _ (j4 (j+1) (EZ ns) _ rfl)<|mQ.mk (j+1+1) (by simp[ar]) (And.intro rfl rfl)) rfl ?_
      repeat refine aj.mk _ _ (And.intro rfl rfl) rfl ?_
      refine br.mk (by kernel_rfl) ?_
      refine ae.ao (((j+1)+1:Nat):Int) (by omega) (by omega) ?_
      exact⟨(j+1)+1,[0,1,4],by omega,by show 2*N-((j+1)+1)<2*N-(j+1);omega,⟨rfl,by simp,rfl,rfl,rfl,⟨rfl,rfl,rfl,rfl,rfl,trivial⟩,⟨rfl,rfl,rfl,trivial⟩⟩⟩
    ·refine ag.no (decide_eq_false (by omega)) ?_
     have hl:aw 1 N=2*N-1:=if_pos (.inl rfl)
     refine aq.pure (.mJ (ps:=oc nJ {uf 1 N 0 (bl ns)with A:=EZ ns}) (fun d hd=>by simp at hd;rcases hd with rfl|rfl|rfl|rfl|rfl|rfl|rfl<;>rfl) rfl fun i c d e1 e2=>?_)
     match i,e1,e2 with
     |0,e1,e2=>cases e1;cases e2;exact .p _ (.int _ _)
     |1,e1,e2=>cases e1;cases e2;exact .p _ (.int _ _)
     |2,e1,e2=>cases e1;cases e2;exact .p _ (.int _ _)
     |3,e1,e2=>cases e1;cases e2;exact gC (N:=j+1) (F:=EZ ns) rfl (by omega) (by show j+1=aw 1 N;omega) fun t _=>by rw[Nat.zero_add]
     |4,e1,e2=>cases e1;cases e2;exact .p _ (.sl _ _ (aB _))
     |5,e1,e2=>cases e1;cases e2;exact .p _ (.sl _ _ (aB _))
     |6,e1,e2=>cases e1;cases e2;exact .p _ (.sl _ _ (aB _))
  ·rw[if_neg fun h=>h1 h.2]
   refine ag.no (kL h1) ?_
   exact aq.pure (.p _ (cN _))
 ·rw[if_neg fun h=>h0 h.1]
  refine ag.no (decide_eq_false (by omega)) ?_
  exact aq.pure (.p _ (cN _))
theorem jz (a n:Int) (hn:0<n) (hn':n<4611686018427387904):au Tryz.prog 82 [.int .i64 a,.int .i64 n] (.p (.int .i64 (a%n))) []:=by
 refine aa (wr:=a9) a6 mixed Tryz.func82 (by kernel_rfl) rfl (by kernel_rfl) (af rfl) (by simp) ?_
 have hw:=dR (a:=a) hn
 have hb:=iX a hn
 obtain⟨r,hr⟩:∃r,r=a.tmod n:=⟨_,rfl⟩
 rw[<-hr]at hw hb
 refine ue.mk (by omega) ?_
 refine SZ.mk r hr.symm ?_
 by_cases h:r<0
 ·refine ag.yes (decide_eq_true (by omega)) ?_
  refine ae.ao (r+n) rfl (by omega) ?_
  rw[if_pos h]at hw
  rw[<-hw]
  exact aq.pure (.p _ (.int _ _))
 ·refine ag.no (decide_eq_false (by omega)) ?_
  rw[if_neg h]at hw
  rw[<-hw]
  exact aq.pure (.p _ (.int _ _))
theorem tp (a n:Int) (hn:0<n) (hn':n<4611686018427387904):au Tryz.prog 32 [.int .i64 a,.int .i64 n] (.p (.int .i64 (a%n))) []:=by
 refine aa (wr:=a9) a6 mixed Tryz.func32 (by kernel_rfl) rfl (by kernel_rfl) (af rfl) (by simp) ?_
 have hw:=dR (a:=a) hn
 have hb:=iX a hn
 obtain⟨r,hr⟩:∃r,r=a.tmod n:=⟨_,rfl⟩
 rw[<-hr]at hw hb
 refine ue.mk (by omega) ?_
 refine SZ.mk r hr.symm ?_
 by_cases h:r<0
 ·refine ag.yes (decide_eq_true (by omega)) ?_
  refine ae.ao (r+n) rfl (by omega) ?_
  rw[if_pos h]at hw
  rw[<-hw]
  exact aq.pure (.p _ (.int _ _))
 ·refine ag.no (decide_eq_false (by omega)) ?_
  rw[if_neg h]at hw
  rw[<-hw]
  exact aq.pure (.p _ (.int _ _))
theorem uH (a n:Int) (hn:0<n) (hn':n<4611686018427387904):au Tryz.prog 10 [.int .i64 a,.int .i64 n] (.p (.int .i64 (a%n))) []:=by
 refine aa (wr:=a9) a6 mixed Tryz.func10 (by kernel_rfl) rfl (by kernel_rfl) (af rfl) (by simp) ?_
 have hw:=dR (a:=a) hn
 have hb:=iX a hn
 obtain⟨r,hr⟩:∃r,r=a.tmod n:=⟨_,rfl⟩
 rw[<-hr]at hw hb
 refine ue.mk (by omega) ?_
 refine SZ.mk r hr.symm ?_
 by_cases h:r<0
 ·refine ag.yes (decide_eq_true (by omega)) ?_
  refine ae.ao (r+n) rfl (by omega) ?_
  rw[if_pos h]at hw
  rw[<-hw]
  exact aq.pure (.p _ (.int _ _))
 ·refine ag.no (decide_eq_false (by omega)) ?_
  rw[if_neg h]at hw
  rw[<-hw]
  exact aq.pure (.p _ (.int _ _))
theorem aq.E6 {H:Hp} {T:TypeId} {W N a b c:Nat} {es:List PV} (h:Nat) {av:AV} (hav:av= .agg [.p (.int .i64 a),.p (.int .i64 b),.p (.int .i64 c),.vec h W 0 N,.vec h W N 0,.vec h W N 0,.vec h W N 0]) (h0:look H h= .vec T W es) (hp:∀e∈es,∀c∈e.cells,bZ c):
  aq [] av H (.agg [.p (.int .i64 a),.p (.int .i64 b),.p (.int .i64 c),.vec 0 W 0 N,.vec 0 W N 0,.vec 0 W N 0,.vec 0 W N 0]) [.vec T W es]:=
 .mk [h] rfl (by simp) rfl (Nat.zero_le _) (fun h hl=>by rw[b6]at hl;exact hl.elim) (fun h hl=>absurd (b6 h) hl) (fun i h' B e1 e2=>by
  match i,e1,e2 with
  |0,e1,e2=>
   cases e1;cases e2
   rw[fg h0 trivial]
   exact .vec hp) (by
  rw[hav]
  refine .agg (fun d hd=>by simp at hd;rcases hd with rfl|rfl|rfl|rfl|rfl|rfl<;>rfl) rfl fun i c d e1 e2=>?_
  match i,e1,e2 with
  |0,e1,e2=>cases e1;cases e2;exact .p _ (.int _ _)
  |1,e1,e2=>cases e1;cases e2;exact .p _ (.int _ _)
  |2,e1,e2=>cases e1;cases e2;exact .p _ (.int _ _)
  |3,e1,e2=>cases e1;cases e2;exact .vec rfl
  |4,e1,e2=>cases e1;cases e2;exact .vec rfl
  |5,e1,e2=>cases e1;cases e2;exact .vec rfl
  |6,e1,e2=>cases e1;cases e2;exact .vec rfl)
theorem um (m:Bool) (n most:Int) (ns:List Int) (hn:oC n) (hns:ng ns) (hm1:1<=most) (hm8:most<=8):
  au Tryz.prog 37 [.int .i64 2,.int .i64 n,.sl m 1 (dB ns),.int .i64 most] (.agg [.p (.int .i64 3),.p (.int .i64 (iw n most)),.p (.int .i64 0),.vec 0 3 0 (iw n most),.vec 0 3 (iw n most) 0,.vec 0 3 (iw n most) 0,.vec 0 3 (iw n most) 0]) [.vec 38 3 (bd (ar (iw n most) (bl ns)))]:=by
 have hmz:=Int.emod_nonneg n (show most≠0 by omega)
 have hmz2:=Int.emod_lt_of_pos n (show(0:Int)<most by omega)
 have hnz:((iw n most:Nat):Int)=1+n%most:=by unfold iw;omega
 obtain⟨k,hk⟩:∃k,k=3:=⟨_,rfl⟩
 obtain⟨N,hN⟩:∃N,N=iw n most:=⟨_,rfl⟩
 rw[<-hN]at hnz⊢
 have k1:1<=k:=by omega
 have k7:k<=7:=by omega
 have n1:1<=N:=by omega
 have n8:N<=8:=by omega
 have hr3:0<=3:=by omega
 obtain⟨ca,cb,ch,cbn⟩:=bU (k:=k) (r:=0) n1 n8 hr3
 have hA:aw k N=N:=by rw[hk];rfl
 have hB:aH k N=0:=by rw[hk];rfl
 have hH:aE k N 0=0:=by rw[hk];rfl
 have w7:=gE 2 7 (by omega) (by omega)
 refine aa (wr:=a9) a6 mixed Tryz.func37 (by kernel_rfl) rfl (by kernel_rfl) (af rfl) (by simp) ?_
 refine ab.pure (w7) ?_
 refine ae.ao (k:Int) (by omega) (by omega) ?_
 refine ab.pure (gE n most (by omega) (by omega)) ?_
 refine ae.ao (N:Int) (by omega) (by omega) ?_
 refine ab.pure (tx k k1 k7) ?_
 rw[decide_eq_false (show ¬(k=6\/k=7) by omega)]
 refine a8.mk (fun h=>by cases h) (fun _=>?_)
 have hc:=kx k N 0 k1 k7 n1 n8 hr3 fB fB fB fB
 refine ab.bg (hc) (fun _=>rfl) ?_
 refine ae.ao ((aw k N+aH k N:Nat):Int) (by omega) (by omega) ?_
 refine ae.ao ((2*aE k N 0:Nat):Int) (by omega) (by omega) ?_
 refine ae.ao ((aw k N+aH k N+2*aE k N 0:Nat):Int) (by omega) (by omega) ?_
 refine ab.fresh (pvs:=[.sl m 1 (dB ns),.int .i64 ((aw k N+aH k N+2*aE k N 0:Nat):Int)]) (o7 m ns hns (aw k N+aH k N+2*aE k N 0) (by omega)) ?_
 refine aO.cM (by kernel_rfl) ?_
 repeat refine aj.mk _ _ (And.intro rfl rfl) rfl ?_
 refine aj.mk _ _ (SZ.mk (aw k N:Int) rfl<|bT.mk (by simp)<|fp.mk (0) (aw k N) rfl rfl (by omega) (by omega) (And.intro rfl rfl)) rfl ?_
 repeat refine aj.mk _ _ (And.intro rfl rfl) rfl ?_
 refine aj.mk _ _ (ae.ao ((aw k N+aH k N:Nat):Int) (by omega) (by omega) (And.intro rfl rfl)) rfl ?_
 repeat refine aj.mk _ _ (And.intro rfl rfl) rfl ?_
 refine aj.mk _ _ (ae.ao ((aw k N+aH k N:Nat):Int) (by omega) (by omega) (And.intro rfl rfl)) rfl ?_
 refine aj.mk _ _ (SZ.mk ((aw k N+aH k N:Nat):Int) rfl<|bT.mk (by simp)<|fp.mk (aw k N) (aw k N+aH k N) rfl rfl (by omega) (by omega) (And.intro rfl rfl)) rfl ?_
 repeat refine aj.mk _ _ (And.intro rfl rfl) rfl ?_
 refine aj.mk _ _ (ae.ao ((aw k N+aH k N:Nat):Int) (by omega) (by omega) (And.intro rfl rfl)) rfl ?_
 repeat refine aj.mk _ _ (And.intro rfl rfl) rfl ?_
 refine aj.mk _ _ (ae.ao ((aw k N+aH k N:Nat):Int) (by omega) (by omega) (And.intro rfl rfl)) rfl ?_
 repeat refine aj.mk _ _ (And.intro rfl rfl) rfl ?_
 refine aj.mk _ _ (ae.ao ((aw k N+aH k N+aE k N 0:Nat):Int) (by omega) (by omega) (And.intro rfl rfl)) rfl ?_
 repeat refine aj.mk _ _ (And.intro rfl rfl) rfl ?_
 refine aj.mk _ _ (ae.ao ((aw k N+aH k N:Nat):Int) (by omega) (by omega) (And.intro rfl rfl)) rfl ?_
 repeat refine aj.mk _ _ (And.intro rfl rfl) rfl ?_
 refine aj.mk _ _ (ae.ao ((aw k N+aH k N+aE k N 0:Nat):Int) (by omega) (by omega) (And.intro rfl rfl)) rfl ?_
 refine aj.mk _ _ (SZ.mk ((aw k N+aH k N+aE k N 0:Nat):Int) rfl<|bT.mk (by simp)<|fp.mk (aw k N+aH k N) (aw k N+aH k N+aE k N 0) rfl rfl (by omega) (by omega) (And.intro rfl rfl)) rfl ?_
 repeat refine aj.mk _ _ (And.intro rfl rfl) rfl ?_
 refine aj.mk _ _ (ae.ao ((aw k N+aH k N:Nat):Int) (by omega) (by omega) (And.intro rfl rfl)) rfl ?_
 repeat refine aj.mk _ _ (And.intro rfl rfl) rfl ?_
 refine aj.mk _ _ (ae.ao ((aw k N+aH k N+aE k N 0:Nat):Int) (by omega) (by omega) (And.intro rfl rfl)) rfl ?_
 refine aj.mk _ _ (fp.mk (aw k N+aH k N+aE k N 0) (aw k N+aH k N+2*aE k N 0) rfl rfl (by omega) (by omega) (And.intro rfl rfl)) rfl ?_
 repeat refine aj.mk _ _ (And.intro rfl rfl) rfl ?_
 refine br.mk (by kernel_rfl) ?_
 refine aM.mk (Nat×(Nat->Rat)) (fun(j,F)=>([(8,.aF 0 0),(9,.aF 1 0),(10,.p (.int .i64 (aw k N))),(11,.p (.int .i64 (aH k N))),(14,.p (.int .i64 j))],
   [.box 26 pS,.box 26 (kI k N 0),.vec 38 3 (bd (ar (aw k N+aH k N+2*aE k N 0) F))]))
  (fun(j,F)=>j<=aH k N/\∀t,t<aw k N+aH k N+2*aE k N 0->F t=if aw k N<=t/\t<aw k N+j then eQ (bl ns) (t-aw k N) (bl ns t) (aw k N)else bl ns t) (fun x=>aH k N-x.1) (0,bl ns) [0,1,2]
  ⟨Nat.zero_le _,fun t _=>by rw[if_neg (by omega)]⟩ ⟨rfl,by simp,rfl,rfl,rfl,⟨rfl,rfl,rfl,rfl,rfl,trivial⟩,⟨rfl,rfl,rfl,trivial⟩⟩ ?_
 intro⟨j,F⟩ ⟨j1,j2⟩
 refine ag.no (decide_eq_false (by omega)) ?_
 have j1:j<=0:=by rw[<-hB];exact j1
 subst hk
 have hF:ar (aw 3 N+aH 3 N+2*aE 3 N 0) F=ar N (bl ns):=by
  rw[show aw 3 N+aH 3 N+2*aE 3 N 0=N by rw[hA,hB,hH];rfl]
  refine d5 fun t ht=>?_
  rw[j2 t (by rw[hA];omega),if_neg (by omega)]
 refine aq.E6 2 (by rw[hA,hB,hH];show AV.agg _=_;simp;rfl) ?_ (aB _)
 exact congrArg (fun l=>aC.vec 38 3 (bd l)) hF
theorem ab.E6 {P:Program} {wr:Bool} {f:FuncId} {L:Hd->aC} {base:Nat} {K:AV->List (Hd×aC)->Prop} {pvs:List PV} {T:TypeId} {W N:Nat} {es:List PV} {a b c:PV}
  (hc:au P f pvs (.agg [.p a,.p b,.p c,.vec 0 W 0 N,.vec 0 W N 0,.vec 0 W N 0,.vec 0 W N 0]) [.vec T W es])
  (hk:K (.agg [.p a,.p b,.p c,.vec base W 0 N,.vec base W N 0,.vec base W N 0,.vec base W N 0]) [(base,.vec T W es)]):∀{raw:List AV},ab P wr f raw (pvs.map .p) L base K:=fun{raw}=>
 .mk [] (pvs.map .p) (.agg [.p a,.p b,.p c,.vec 0 W 0 N,.vec 0 W N 0,.vec 0 W N 0,.vec 0 W N 0]) [] [.vec T W es] (fun _=>rfl) .nil (fun _ h=>by simp at h) (by rw[AV.bJ,List.map_map];exact List.map_congr_left fun _ _=>rfl) rfl (fun i h B e=>by simp at e) (fun _ h=>by simp at h) (fun _ h=>by simp at h) (Nat.zero_le _) (fun B h=>by simp at h;subst h;exact fun e=>by cases e)
  (fun a ha k hk=>by obtain⟨v,_,rfl⟩:=List.mem_map.1 ha;simp only[AV.aU]at hk) hc hk
abbrev G6 (g:GV):GV:={g with k:=2}
theorem Fi {g:GV} (h:Wf g 5 13) (hk:g.k=1):Wf (G6 g) 5 13 where
 k1:=by show 1<=2;decide
 k7:=by show 2<=7;decide
 n1:=h.n1
 n6:=h.n6
 r2:=h.r2
 r1:=fun h=>by rcases h with h|h<;>cases h
 r0:=fun _=>h.r0 (by omega)
 bA:=fun i hi=>h.bA i (by unfold GV.la aw;rw[hk];exact hi)
 bB:=fun i hi=>absurd hi (Nat.not_lt_zero _)
 bG:=fun i hi=>absurd hi (Nat.not_lt_zero _)
 bH:=fun i hi=>absurd hi (Nat.not_lt_zero _)
 ne:=fun i j _ hj=>absurd hj (Nat.not_lt_zero _)
 bc:=h.bc
 c4:=h.c4
theorem z6 (m:Bool) (n most:Int) (ns:List Int) (hn:oC n) (hns:ng ns) (hm1:1<=most) (hm8:most<=8):
  au Tryz.prog 34 [.int .i64 n,.sl m 1 (dB ns),.int .i64 most] (.p (cG nJ (G6 (zg n most ns)))) []:=by
 have hc:=oF m n most ns hn hns hm1 hm8
 have hk:(zg n most ns).k=1:=Ed
 generalize zg n most ns=g at hc hk
 obtain⟨k,n',r,A,B,G,H⟩:=g
 have hk:k=1:=hk
 subst hk
 refine aa (wr:=a9) a6 mixed Tryz.func34 (by kernel_rfl) rfl (by kernel_rfl) (af rfl) (by simp) ?_
 refine ab.pure (hc) ?_
 exact aq.pure (.p _ (cN (G6 ⟨1,n',r,A,B,G,H⟩)))
def xn (ns:List Int) (i:Nat):Int:=if i<ns.length then(ns.getD i 0).tdiv 3 else(i:Int)
def Ee (ns:List Int) (i:Nat):Rat:=((xn ns i%3-1:Int):Rat)
theorem E7 (ns:List Int) (i:Nat):Bz (Ee ns i) 5:=by
 refine i7 ?_ (by decide)
 have h1:=Int.emod_nonneg (xn ns i) (show(3:Int)≠0 by decide)
 have h2:=Int.emod_lt_of_pos (xn ns i) (show(0:Int)<3 by decide)
 exact cK (by omega)
def Gt (ns:List Int) (i:Nat):Rat:=if 0<ns.length/\ns.getD 0 0%3=0 then Ee ns i else bl ns i
abbrev F2 (N:Nat) (a:Nat->Rat):GV:={uf 3 N 0 a with A:=a}
theorem E5 {N:Nat} {ns:List Int} (n1:1<=N) (n6:N<=6):Wf (F2 N (Gt ns)) 5 13:=
 {rP (ns:=ns) (k:=3) (r:=0) (by decide) (by decide) n1 n6 (fun h=>by omega) (by decide) (fun _=>rfl)with
  bA:=fun i _=>by unfold Gt;split;exact E7 _ _;exact gj ns i
  bB:=fun i hi=>absurd hi (Nat.not_lt_zero _)
  bG:=fun i hi=>absurd hi (Nat.not_lt_zero _)
  bH:=fun i hi=>absurd hi (Nat.not_lt_zero _)
  ne:=fun i j _ hj=>absurd hj (Nat.not_lt_zero _)}
theorem z8 (m:Bool) (n most:Int) (ns:List Int) (hn:oC n) (hns:ng ns) (hm1:1<=most) (hm8:most<=8):
  au Tryz.prog 35 [.int .i64 n,.sl m 1 (dB ns),.int .i64 most] (.p (cG nJ (F2 (iw n most) (Gt ns)))) []:=by
 have hm:=um m n most ns hn hns hm1 hm8
 have hN:=oM n most hm1
 unfold Gt
 generalize iw n most=N at hm hN
 refine aa (wr:=a9) a6 mixed Tryz.func35 (by kernel_rfl) rfl (by kernel_rfl) (af rfl) (by simp) ?_
 refine ab.E6 hm ?_
 refine SZ.mk (ns.length:Int) (by simp) ?_
 by_cases h0:0<ns.length
 ·refine ag.yes (decide_eq_true (by omega)) ?_
  refine aG.ib 0 rfl h0 ?_
  refine ab.pure (jz (ns.getD 0 0) 3 (by omega) (by omega)) ?_
  by_cases h1:ns.getD 0 0%3=0
  ·refine ag.yes (kV h1) ?_
   have e:(fun i=>if 0<ns.length/\ns.getD 0 0%3=0 then Ee ns i else bl ns i)=Ee ns:=funext fun i=>if_pos ⟨h0,h1⟩
   rw[e]
   refine aM.mk (Nat×(Nat->Rat)) (fun(i,F)=>([(0,.p (.int .i64 n)),(1,.p (.sl m 1 (dB ns))),(6,.aF 0 0),(7,.aF 2 0),(8,.p (.int .i64 i))],[.box 26 pS,.vec 38 3 (bd (ar N F)),.box 26 [.p (.int .i64 3),.p (.int .i64 N),.p (.int .i64 0),.vec 1 3 0 N,.vec 1 3 N 0,.vec 1 3 N 0,.vec 1 3 N 0]]))
    (fun(i,F)=>i<=N/\∀t,t<N->F t=if t<i then Ee ns t else bl ns t) (fun x=>N-x.1) (0,bl ns) [0,1,2] ⟨Nat.zero_le _,fun t _=>by rw[if_neg (Nat.not_lt_zero _)]⟩ ⟨rfl,by simp,rfl,rfl,rfl,⟨rfl,rfl,rfl,rfl,rfl,trivial⟩,⟨rfl,rfl,rfl,trivial⟩⟩ ?_
   intro⟨i,F⟩ ⟨i1,i2⟩
   have b1:=Int.emod_nonneg (xn ns i) (show(3:Int)≠0 by decide)
   have b2:=Int.emod_lt_of_pos (xn ns i) (show(0:Int)<3 by decide)
   by_cases hin:i<N
   ·refine ag.yes (decide_eq_true (by omega)) ?_
    refine SZ.mk (ns.length:Int) (by simp) ?_
    by_cases hs:i<ns.length
    ·refine ag.yes (decide_eq_true (by omega)) ?_
     have ek:xn ns i=(ns.getD i 0).tdiv 3:=if_pos hs
     have hq:=hns i
     have hq2: -9223372036854775808<=(ns.getD i 0).tdiv 3/\(ns.getD i 0).tdiv 3<9223372036854775808:=by
      unfold oC at hq
      rw[Int.tdiv_eq_ediv,show Int.sign 3=1 from rfl];split<;>omega
     refine aG.ib i rfl hs ?_
     refine ue.mk (by omega) ?_
     refine ae.ao (xn ns i) ek.symm (by omega) ?_
     refine aO.cM (by kernel_rfl) ?_
     repeat refine aj.mk _ _ (And.intro rfl rfl) rfl ?_
     refine aj.mk _ _ (ab.pure (jz (xn ns i) 3 (by omega) (by omega)) (And.intro rfl rfl)) rfl ?_
     refine aj.mk _ _ (ae.ao (xn ns i%3-1) rfl (by omega) (And.intro rfl rfl)) rfl ?_
     refine aj.mk _ _ (ab.pure (eZ (xn ns i%3-1) (by omega)) (And.intro rfl rfl)) rfl ?_
     repeat refine aj.mk _ _ (And.intro rfl rfl) rfl ?_
     refine aj.mk _ _ (aI.mk i rfl (by omega) (And.intro rfl rfl)) rfl ?_
     refine aj.mk _ _ (bT.rf (by omega)<|cH.rf (And.intro rfl rfl)) rfl ?_
     refine br.mk (by kernel_rfl) ?_
     refine ae.ao ((i+1:Nat):Int) (by omega) (by omega) ?_
     refine⟨(i+1,_),[0,1,2],⟨hin,fun t ht=>?_⟩,by show N-(i+1)<N-i;omega,⟨rfl,by simp,rfl,rfl,rfl,⟨rfl,rfl,rfl,rfl,rfl,trivial⟩,⟨rfl,rfl,rfl,trivial⟩⟩⟩
     show bz F (i+0) _ t=_
     rw[Nat.add_zero]
     by_cases e:t=i
     ·subst e;rw[aA,if_pos (by omega)];rfl
     ·rw[aD _ _ e,i2 t ht]
      by_cases e2:t<i
      ·rw[if_pos e2,if_pos (by omega)]
      ·rw[if_neg e2,if_neg (by omega)]
    ·refine ag.no (decide_eq_false (by omega)) ?_
     have ek:xn ns i=(i:Int):=if_neg hs
     have hc:au Tryz.prog 82 [.int .i64 i,.int .i64 3] (.p (.int .i64 (xn ns i%3))) []:=by
      rw[ek];exact jz _ 3 (by omega) (by omega)
     refine aO.cM (by kernel_rfl) ?_
     repeat refine aj.mk _ _ (And.intro rfl rfl) rfl ?_
     refine aj.mk _ _ (ab.pure (hc) (And.intro rfl rfl)) rfl ?_
     refine aj.mk _ _ (ae.ao (xn ns i%3-1) rfl (by omega) (And.intro rfl rfl)) rfl ?_
     refine aj.mk _ _ (ab.pure (eZ (xn ns i%3-1) (by omega)) (And.intro rfl rfl)) rfl ?_
     repeat refine aj.mk _ _ (And.intro rfl rfl) rfl ?_
     refine aj.mk _ _ (aI.mk i rfl (by omega) (And.intro rfl rfl)) rfl ?_
     refine aj.mk _ _ (bT.rf (by omega)<|cH.rf (And.intro rfl rfl)) rfl ?_
     refine br.mk (by kernel_rfl) ?_
     refine ae.ao ((i+1:Nat):Int) (by omega) (by omega) ?_
     refine⟨(i+1,_),[0,1,2],⟨hin,fun t ht=>?_⟩,by show N-(i+1)<N-i;omega,⟨rfl,by simp,rfl,rfl,rfl,⟨rfl,rfl,rfl,rfl,rfl,trivial⟩,⟨rfl,rfl,rfl,trivial⟩⟩⟩
     show bz F (i+0) _ t=_
     rw[Nat.add_zero]
     by_cases e:t=i
     ·subst e;rw[aA,if_pos (by omega)];rfl
     ·rw[aD _ _ e,i2 t ht]
      by_cases e2:t<i
      ·rw[if_pos e2,if_pos (by omega)]
      ·rw[if_neg e2,if_neg (by omega)]
   ·refine ag.no (decide_eq_false (by omega)) ?_
    obtain rfl:N=i:=by omega
    refine aq.pure (.mJ (ps:=oc nJ (F2 N (Ee ns))) (fun d hd=>by simp at hd;rcases hd with rfl|rfl|rfl|rfl|rfl|rfl|rfl<;>rfl) rfl fun i c d e1 e2=>?_)
    match i,e1,e2 with
    |0,e1,e2=>cases e1;cases e2;exact .p _ (.int _ _)
    |1,e1,e2=>cases e1;cases e2;exact .p _ (.int _ _)
    |2,e1,e2=>cases e1;cases e2;exact .p _ (.int _ _)
    |3,e1,e2=>cases e1;cases e2;exact gC (N:=N) (F:=F) rfl (by omega) rfl fun t ht=>(congrArg F (Nat.zero_add t)).trans ((i2 t ht).trans (if_pos ht))
    |4,e1,e2=>cases e1;cases e2;exact gC (N:=N) (F:=F) rfl (by omega) rfl fun t ht=>absurd ht (Nat.not_lt_zero _)
    |5,e1,e2=>cases e1;cases e2;exact gC (N:=N) (F:=F) rfl (by omega) rfl fun t ht=>absurd ht (Nat.not_lt_zero _)
    |6,e1,e2=>cases e1;cases e2;exact gC (N:=N) (F:=F) rfl (by omega) rfl fun t ht=>absurd ht (Nat.not_lt_zero _)
  ·refine ag.no (kL h1) ?_
   have e:(fun i=>if 0<ns.length/\ns.getD 0 0%3=0 then Ee ns i else bl ns i)=bl ns:=funext fun i=>if_neg fun h=>h1 h.2
   rw[e]
   refine aq.pure (.mJ (ps:=oc nJ (F2 N (bl ns))) (fun d hd=>by simp at hd;rcases hd with rfl|rfl|rfl|rfl|rfl|rfl|rfl<;>rfl) rfl fun i c d e1 e2=>?_)
   match i,e1,e2 with
   |0,e1,e2=>cases e1;cases e2;exact .p _ (.int _ _)
   |1,e1,e2=>cases e1;cases e2;exact .p _ (.int _ _)
   |2,e1,e2=>cases e1;cases e2;exact .p _ (.int _ _)
   |3,e1,e2=>cases e1;cases e2;exact gC (N:=N) (F:=bl ns) rfl (by omega) rfl fun t ht=>by rw[Nat.zero_add]
   |4,e1,e2=>cases e1;cases e2;exact gC (N:=N) (F:=bl ns) rfl (by omega) rfl fun t ht=>absurd ht (Nat.not_lt_zero _)
   |5,e1,e2=>cases e1;cases e2;exact gC (N:=N) (F:=bl ns) rfl (by omega) rfl fun t ht=>absurd ht (Nat.not_lt_zero _)
   |6,e1,e2=>cases e1;cases e2;exact gC (N:=N) (F:=bl ns) rfl (by omega) rfl fun t ht=>absurd ht (Nat.not_lt_zero _)
 ·refine ag.no (decide_eq_false (by omega)) ?_
  have e:(fun i=>if 0<ns.length/\ns.getD 0 0%3=0 then Ee ns i else bl ns i)=bl ns:=funext fun i=>if_neg fun h=>h0 h.1
  rw[e]
  refine aq.pure (.mJ (ps:=oc nJ (F2 N (bl ns))) (fun d hd=>by simp at hd;rcases hd with rfl|rfl|rfl|rfl|rfl|rfl|rfl<;>rfl) rfl fun i c d e1 e2=>?_)
  match i,e1,e2 with
  |0,e1,e2=>cases e1;cases e2;exact .p _ (.int _ _)
  |1,e1,e2=>cases e1;cases e2;exact .p _ (.int _ _)
  |2,e1,e2=>cases e1;cases e2;exact .p _ (.int _ _)
  |3,e1,e2=>cases e1;cases e2;exact gC (N:=N) (F:=bl ns) rfl (by omega) rfl fun t ht=>by rw[Nat.zero_add]
  |4,e1,e2=>cases e1;cases e2;exact gC (N:=N) (F:=bl ns) rfl (by omega) rfl fun t ht=>absurd ht (Nat.not_lt_zero _)
  |5,e1,e2=>cases e1;cases e2;exact gC (N:=N) (F:=bl ns) rfl (by omega) rfl fun t ht=>absurd ht (Nat.not_lt_zero _)
  |6,e1,e2=>cases e1;cases e2;exact gC (N:=N) (F:=bl ns) rfl (by omega) rfl fun t ht=>absurd ht (Nat.not_lt_zero _)
theorem uC (m:Bool) (kind n:Int) (ns:List Int) (hkind:oC kind) (hn:oC n) (hns:ng ns):
  ∃g:GV,au Tryz.prog 7 [.int .i64 kind,.int .i64 n,.sl m 1 (dB ns),.int .i64 5] (.p (cG nJ g)) []/\Wf g 5 13/\g.n<=5:=by
 have hN:=oM n 5 (by decide)
 have hw:=tp kind 7 (by decide) (by decide)
 have b1:=Int.emod_nonneg kind (show(7:Int)≠0 by decide)
 have b2:=Int.emod_lt_of_pos kind (show(0:Int)<7 by decide)
 have h10:=oF m n 5 ns hn hns (by decide) (by decide)
 have hh:=z6 m n 5 ns hn hns (by decide) (by decide)
 have hc:=z8 m n 5 ns hn hns (by decide) (by decide)
 have h13:=fun like=>vP m n 5 ns like hn hns (by decide) (by decide)
 have h5:=jG m kind n 5 ns hkind hn hns (by decide) (by decide)
 generalize ek:kind%7=k at hw b1 b2
 have hk:k=0\/k=1\/k=2\/k=3\/k=4\/k=5\/k=6:=by omega
 have wk:∀K,(K=5\/K=7)->Wf (xf (uf K (iw n 5) (tE K n) (bl ns)) ns) 5 13:=fun K hK=>by
  obtain⟨r1,r2,r0⟩:=Ck (k:=K) n
  exact EW (rP (by omega) (by omega) hN.1 (by omega) r1 r2 r0) hK
 rcases hk with rfl|rfl|rfl|rfl|rfl|rfl|rfl
 ·refine⟨_,?_,As n 5 ns (by decide) (by decide),by rw[Ec];omega⟩
  refine aa (wr:=a9) a6 mixed Tryz.func7 (by kernel_rfl) rfl (by kernel_rfl) (af rfl) (by simp) ?_
  refine ab.pure (hw) ?_
  refine ag.yes (rfl) ?_
  refine ab.pure (h10) ?_
  exact aq.pure (.p _ (cN _))
 ·refine⟨_,?_,Fi (As n 5 ns (by decide) (by decide)) Ed,by show(zg n 5 ns).n<=5;rw[Ec];omega⟩
  refine aa (wr:=a9) a6 mixed Tryz.func7 (by kernel_rfl) rfl (by kernel_rfl) (af rfl) (by simp) ?_
  refine ab.pure (hw) ?_
  refine ag.no (rfl) ?_
  refine ag.yes (rfl) ?_
  refine ab.pure (hh) ?_
  exact aq.pure (.p _ (cN _))
 ·refine⟨_,?_,E5 (ns:=ns) hN.1 (by omega),by show iw n 5<=5;omega⟩
  refine aa (wr:=a9) a6 mixed Tryz.func7 (by kernel_rfl) rfl (by kernel_rfl) (af rfl) (by simp) ?_
  refine ab.pure (hw) ?_
  refine ag.no (rfl) ?_
  refine ag.no (rfl) ?_
  refine ag.yes (rfl) ?_
  refine ab.pure (hc) ?_
  exact aq.pure (.p _ (cN _))
 ·refine⟨_,?_,wH kind n 5 ns (by decide) (by decide),by show iw n 5<=5;omega⟩
  refine aa (wr:=a9) a6 mixed Tryz.func7 (by kernel_rfl) rfl (by kernel_rfl) (af rfl) (by simp) ?_
  refine ab.pure (hw) ?_
  refine ag.no (rfl) ?_
  refine ag.no (rfl) ?_
  refine ag.no (rfl) ?_
  refine ag.no (rfl) ?_
  refine ag.no (rfl) ?_
  refine ab.pure (h5) ?_
  exact aq.pure (.p _ (cN _))
 ·refine⟨_,?_,wk 5 (.inl rfl),by rw[Er];show iw n 5<=5;omega⟩
  refine aa (wr:=a9) a6 mixed Tryz.func7 (by kernel_rfl) rfl (by kernel_rfl) (af rfl) (by simp) ?_
  refine ab.pure (hw) ?_
  refine ag.no (rfl) ?_
  refine ag.no (rfl) ?_
  refine ag.no (rfl) ?_
  refine ag.yes (rfl) ?_
  refine ag.no (rfl) ?_
  refine ab.pure (h13 false) ?_
  exact aq.pure (.p _ (cN _))
 ·refine⟨_,?_,wH kind n 5 ns (by decide) (by decide),by show iw n 5<=5;omega⟩
  refine aa (wr:=a9) a6 mixed Tryz.func7 (by kernel_rfl) rfl (by kernel_rfl) (af rfl) (by simp) ?_
  refine ab.pure (hw) ?_
  refine ag.no (rfl) ?_
  refine ag.no (rfl) ?_
  refine ag.no (rfl) ?_
  refine ag.no (rfl) ?_
  refine ag.no (rfl) ?_
  refine ab.pure (h5) ?_
  exact aq.pure (.p _ (cN _))
 ·refine⟨_,?_,wk 7 (.inr rfl),by rw[Er];show iw n 5<=5;omega⟩
  refine aa (wr:=a9) a6 mixed Tryz.func7 (by kernel_rfl) rfl (by kernel_rfl) (af rfl) (by simp) ?_
  refine ab.pure (hw) ?_
  refine ag.no (rfl) ?_
  refine ag.no (rfl) ?_
  refine ag.no (rfl) ?_
  refine ag.no (rfl) ?_
  refine ag.yes (rfl) ?_
  refine ag.yes (rfl) ?_
  refine ab.pure (h13 true) ?_
  exact aq.pure (.p _ (cN _))
theorem yQ (m2 m3:Bool) (kind n method:Int) (ns bs:List Int) (hkind:oC kind) (hn:oC n) (hns:ng ns) (hbs:ng bs) (hmt:oC method):
  au Tryz.prog 3 [.int .i64 kind,.int .i64 n,.sl m2 1 (dB ns),.sl m3 1 (dB bs),.int .i64 method] (.p (.bool true)) []:=by
 obtain⟨g,hm,hw,h5⟩:=uC m2 kind n ns hkind hn hns
 have hr:=DJ m3 bs hbs g.n (by omega)
 have hb:=AJ nJ hw h5
 have hB:((gB g 4).all isByte)=true:=List.all_eq_true.2 fun e he=>by
  obtain⟨n,rfl⟩:=r9 g 4 e he
  rfl
 have hk:=uH method 4 (by decide) (by decide)
 have b1:=Int.emod_nonneg method (show(4:Int)≠0 by decide)
 have b2:=Int.emod_lt_of_pos method (show(0:Int)<4 by decide)
 have hy:∀i,Bz (bl bs i) 5:=gj bs
 have hy':Bl (ar g.n (bl bs)) 5:=Bl.ar fun i _=>hy i
 have hR2:=oi false false (ar g.n (bl bs)) (ar g.n (bl bs)) hy' hy' (by decide) (by rw[az];omega)
 rw[decide_eq_true rfl]at hR2
 generalize method%4=mt at hk b1 b2
 have hs:=yr nJ false (g:=g) (y:=bl bs) ⟨hw,h5,fun i _=>hy i⟩ (mt:=mt) (by omega)
 rcases hs with⟨x,b,hx,hs⟩|⟨e,b,he,hs⟩
 ·have hx':Bl (ar g.n x) 10000000000:=Bl.ar hx
  have hR1:=oi true true (ar g.n x) (ar g.n x) hx' hx' (by decide) (by rw[az];omega)
  rw[decide_eq_true rfl]at hR1
  refine aa (wr:=a9) a6 mixed Tryz.func3 (by kernel_rfl) rfl (by kernel_rfl) (af rfl) (by simp) ?_
  refine ab.pure (qz) ?_
  refine ag.no (rfl) ?_
  refine ab.pure (hm) ?_
  refine ab.pure (hr) ?_
  refine aO.mk (by kernel_rfl) ?_
  repeat refine aj.mk _ _ (And.intro rfl rfl) rfl ?_
  refine aj.mk _ _ (ab.pure (hb) (And.intro rfl rfl)) rfl ?_
  refine aj.mk _ _ (AF.mk hB (And.intro rfl rfl)) rfl ?_
  repeat refine aj.mk _ _ (And.intro rfl rfl) rfl ?_
  refine aj.mk _ _ (ab.pure (hk) (And.intro rfl rfl)) rfl ?_
  repeat refine aj.mk _ _ (And.intro rfl rfl) rfl ?_
  refine ab.d7 hs ?_
  refine ab.d7 hs ?_
  refine ag.no (rfl) ?_
  refine ag.no (f0 rfl) ?_
  refine bp.all (by simp[ar])<|bp.all (by simp[ar]) ?_
  refine ab.pure (hR1) ?_
  refine ag.no (rfl) ?_
  refine ab.pure (hb) ?_
  refine AF.mk hB ?_
  refine ag.no (by simp) ?_
  refine ab.pure (hr) ?_
  refine ab.pure (hR2) ?_
  refine ag.no (rfl) ?_
  refine aM.mk (Nat×(Nat->Rat)) (fun(i,F)=>([(11,.aF 0 0),(12,.p (ah false (ar g.n (bl bs)))),(14,.p (.int .i64 mt)),(15,.vec 1 3 0 g.n),(17,.p (.int .i64 0)),(18,.vec 2 3 0 g.n),(21,.p (.int .i64 i))],
    [.box 26 (nN nJ g),.vec 38 3 (bd (ar g.n F)),.vec 38 3 (bd (ar g.n x))]))
   (fun(i,F)=>i<=g.n) (fun x=>g.n-x.1) (0,x) [0,1,2] (Nat.zero_le _) ⟨rfl,by simp,rfl,rfl,rfl,⟨rfl,rfl,rfl,rfl,rfl,rfl,rfl,trivial⟩,⟨rfl,rfl,rfl,trivial⟩⟩ ?_
  intro⟨i,F⟩ hi
  have hi:i<=g.n:=hi
  refine SZ.mk (g.n:Int) rfl ?_
  by_cases h1:i<g.n
  ·refine ag.yes (decide_eq_true (by omega)) ?_
   refine ab.pure (eZ (i:Int) (by omega)) ?_
   refine aI.mk i rfl h1 ?_
   refine bT.rf (by omega)<|cH.rf ?_
   refine ae.ao ((i+1:Nat):Int) (by omega) (by omega) ?_
   exact⟨(i+1,_),[0,1,2],h1,by show g.n-(i+1)<g.n-i;omega,⟨rfl,by simp,rfl,rfl,rfl,⟨rfl,rfl,rfl,rfl,rfl,rfl,rfl,trivial⟩,⟨rfl,rfl,rfl,trivial⟩⟩⟩
  ·refine ag.no (decide_eq_false (by omega)) ?_
   refine ab.d7 hs ?_
   refine ag.yes (rfl) ?_
   refine bp.all (by simp[ar])<|bp.all (by simp[ar]) ?_
   refine ab.pure (hR1) ?_
   exact aq.pure (.p _ (.bool _))
 ·refine aa (wr:=a9) a6 mixed Tryz.func3 (by kernel_rfl) rfl (by kernel_rfl) (af rfl) (by simp) ?_
  refine ab.pure (qz) ?_
  refine ag.no (rfl) ?_
  refine ab.pure (hm) ?_
  refine ab.pure (hr) ?_
  refine aO.mk (by kernel_rfl) ?_
  repeat refine aj.mk _ _ (And.intro rfl rfl) rfl ?_
  refine aj.mk _ _ (ab.pure (hb) (And.intro rfl rfl)) rfl ?_
  refine aj.mk _ _ (AF.mk hB (And.intro rfl rfl)) rfl ?_
  repeat refine aj.mk _ _ (And.intro rfl rfl) rfl ?_
  refine aj.mk _ _ (ab.pure (hk) (And.intro rfl rfl)) rfl ?_
  repeat refine aj.mk _ _ (And.intro rfl rfl) rfl ?_
  refine ab.bg (hs) (fun _=>rfl) ?_
  refine ab.bg (hs) (fun _=>rfl) ?_
  refine ag.no (f0 rfl) ?_
  refine ag.no (f0 rfl) ?_
  have hR0:=oi false false [] [] (j:=0) (k:=0) (fun i hi=>absurd hi (Nat.not_lt_zero _)) (fun i hi=>absurd hi (Nat.not_lt_zero _)) (by decide) (by simp)
  rw[decide_eq_true rfl]at hR0
  refine ab.pure (hR0) ?_
  refine ag.no (rfl) ?_
  refine ab.pure (hb) ?_
  refine AF.mk hB ?_
  refine ag.no (by simp) ?_
  refine ab.pure (hr) ?_
  refine ab.pure (hR2) ?_
  refine ag.no (rfl) ?_
  refine aM.mk Unit (fun _=>([(11,.aF 0 0),(12,.p (ah false (ar g.n (bl bs)))),(14,.p (.int .i64 mt)),(15,.p (ah false [])),(17,.p (.int .i64 e)),(18,.p (ah false [])),(21,.p (.int .i64 0))],[.box 26 (nN nJ g)]))
   (fun _=>True) (fun _=>0) () [0] trivial ⟨rfl,by simp,rfl,rfl,rfl,⟨rfl,rfl,rfl,rfl,rfl,rfl,rfl,trivial⟩,⟨rfl,trivial⟩⟩ ?_
  intro _ _
  refine SZ.mk 0 rfl ?_
  refine ag.no (rfl) ?_
  refine ab.bg (hs) (fun _=>rfl) ?_
  refine ag.yes (kV rfl) ?_
  refine ab.pure (hR0) ?_
  exact aq.pure (.p _ (.bool _))
section
open Go Go.ChangeShapes Go.WideShapes Go.ChangeAt Go.RowKit Go.WideElems
theorem Tryz.own:ownKnob Tryz.prog.godebug=none:=by kernel_rfl
theorem Tryz.laidOut:laidOutB Tryz.prog=true:=by kernel_rfl
theorem Tryz.Ce:Tryz.prog.cellsOf 3=1:=by kernel_rfl
abbrev DP (W:World):Nat->Prop:=fun b=>b<W.heap.size
theorem zX {P:Program} {f:FuncId} {pvs:List PV} (hc:au P f pvs (.p (.bool true)) []) {W:World} {vs:List Value} (hl:vs.length=pvs.length) (hv:∀(i:Nat) p v,pvs[i]?=some p->vs[i]?=some v->PR W (aQ fR (DP W)) p v):
  Calls P f vs.toArray W fun e W'=>e= .returned (.bool true)/\Below W.heap.size W W':=by
 refine(hc.run W (DP W) fR (fun _=>(none,0)) vs ⟨by simp[hl],fun i a v e1 e2=>?_,fun h=>by rw[b6];trivial,fun b h=>h,fun b h=>h.elim,fun h b hl=>?_,fun h h' b hl=>?_,fun a ha k hk=>?_,fun h k hk=>?_⟩).mono ?_
 ·rw[List.getElem?_map]at e1
  cases hp:pvs[i]? with
  |none=>rw[hp]at e1;cases e1
  |some p=>rw[hp]at e1;cases e1;exact .p (hv i p v hp e2)
 ·rw[b6]at hl;exact hl.elim
 ·rw[b6]at hl;exact hl.elim
 ·obtain⟨p,_,rfl⟩:=List.mem_map.1 ha;simp only[AV.aU]at hk
 ·rw[b6]at hk;exact hk.elim
 ·intro e W' ⟨v,F',β',he,hr⟩
  subst he
  refine⟨?_,hr.os,hr.tape,hr.output,hr.size,fun b hb=>hr.same b hb fun h hl=>?_⟩
  ·have:=hr.rel
   cases this with|p h=>cases h;rfl
  ·rw[b6]at hl;exact hl.elim
section
variable {H:Type} {enc:TypeId×Value->H} {P:Program} {W:World} {base:Nat} {sp:Nat->Bool} {held:Bool}
theorem rG {t:TypeId} {r:Go.Reach} {b0:Nat} {v:Value} {d:DataW H} {ps:List MemPlace} (ht:P.underlying t=some (.int .i64)) (hval:Value.okWide P W r b0 t v) (hd:DataW.Trod enc P W base sp held t v d ps):
  ∃n,v= .int .i64 n/\oC n:=by
 obtain⟨n,h1,h2,h3,h4⟩:=open_int ht hval hd
 refine⟨n,h1,?_⟩
 simp[Lit.wf,IntKind.min,IntKind.max,IntKind.signed,IntKind.bits]at h4
 exact⟨by omega,by omega⟩
theorem se {t e:TypeId} {r:Go.Reach} {b0:Nat} {v:Value} {d:DataW H} {ps:List MemPlace} (ht:P.underlying t=some (.slice e)) (he:P.underlying e=some (.int .i64)) (hc:P.cellsOf e=1) (hval:Value.okWide P W r b0 t v)
  (hd:DataW.Trod enc P W base sp held t v d ps) (hlt:∀x∈ps,x.block<W.heap.size):∃zs:List Int,ng zs/\PR W (aQ fR (DP W)) (.sl false 1 (dB zs)) v:=by
 obtain⟨a0,len,cap,rfl⟩:=okWide_slice ht hval
 obtain⟨fuel,hf⟩:=hd
 rcases open_ints ht he hc hf with⟨hcs,hx⟩|⟨a,len',cap',zs,hcs,_,hl,hm,hz,hx,hcell,hwz⟩
 ·simp[Value.cells]at hcs
  obtain⟨rfl,rfl,rfl⟩:=hcs
  exact⟨[],fun i=>by simp[oC],.nil _ _ _⟩
 ·simp[Value.cells]at hcs
  obtain⟨rfl,rfl,rfl⟩:=hcs
  simp only[Prod.mk.injEq]at hx
  obtain⟨_,rfl⟩:=hx
  have hlen:len<=zs.length:=by rw[hz];split<;>omega
  have hspot:a.spot=none:=by
   simp only[Value.okWide,ht,Cell.okWide]at hval
   simp[Cell.ok,World.has]at hval
   first|exact hval.1.2.1|exact hval.2.1|(have:=hval;simp_all)
  obtain⟨b,off,spot⟩:=a
  simp only at hspot
  subst hspot
  refine⟨zs.take len,fun i=>?_,?_⟩
  ·by_cases hi:i<(zs.take len).length
   ·have hm:(zs.take len).getD i 0∈zs:=by
     have:(zs.take len).getD i 0=(zs.take len)[i]:=by simp only[List.getD,List.getElem?_eq_getElem hi,Option.getD_some]
     rw[this]
     exact List.mem_of_mem_take (List.getElem_mem hi)
    have h4:=hwz _ hm
    generalize(zs.take len).getD i 0=q at h4⊢
    simp[Lit.wf,IntKind.min,IntKind.max,IntKind.signed,IntKind.bits]at h4
    exact⟨by omega,by omega⟩
   ·rw[dI _ 0 (by omega)];simp[oC]
  ·have hll:(dB (zs.take len)).length=len:=by simp;omega
   have h:=PR.sl (w:=W) (FB:=aQ fR (DP W)) false 1 (dB (zs.take len)) b off cap (fun i _=>.int .i64 (zs.getD i 0)) (by rw[hll];exact hl) (fun hne=>?_) (fun e he=>?_) (fun e he c hc=>?_) (fun i e j c e1 e2=>?_) (fun i e j c e1 e2=>?_)
   ·rw[hll]at h;exact h
   ·have hpos:0<zs.length:=by
     rcases Nat.eq_zero_or_pos zs.length with h0|h0
     ·exact(hne (by rw[List.length_eq_zero_iff.1 h0];simp)).elim
     ·exact h0
    exact hlt (.cell b off) (MemPlace.mem_row.2 ⟨0,hpos,by simp⟩)
   ·obtain⟨z,_,rfl⟩:=List.mem_map.1 he;rfl
   ·obtain⟨z,_,rfl⟩:=List.mem_map.1 he
    have hc:c∈[PV.int .i64 z]:=hc
    simp at hc;subst hc;rfl
   all_goals
    have hi:i<len:=by have:=(List.getElem?_eq_some_iff.1 e1).1;rwa[hll]at this
    have he:e= .int .i64 (zs.getD i 0):=by
     rw[List.getElem?_map,List.getElem?_take_of_lt hi,List.getElem?_eq_getElem (show i<zs.length by omega)]at e1
     simp at e1
     simp[List.getD,show i<zs.length by omega,<-e1]
    subst he
    have hj:j=0:=by
     have:=(List.getElem?_eq_some_iff.1 e2).1
     simpa[PV.cells]using this
    subst hj
    first
     |(have:=hcell i (by omega)
       rw[show off+i*1+0=off+i by omega]
       rwa[Addr.add_lit]at this)
     |(have hcv:c= .int .i64 (zs.getD i 0):=by simpa[PV.cells]using e2.symm
       subst hcv
       exact .int _ _)
end
end
end Go.Proofs.YtnilcfiemgmfdaaGreat
