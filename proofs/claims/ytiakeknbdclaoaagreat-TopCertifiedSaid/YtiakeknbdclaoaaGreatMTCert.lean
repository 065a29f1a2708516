/- FTCert: the statement holds, without a condition. -/
import Derived.Test.YtiakeknbdclaoaaGreatMTCert8
import Derived.Test.YtiakeknbdclaoaaGreatRows
set_option linter.unusedVariables false
set_option linter.unusedSimpArgs false
namespace Go.Proofs.YtiakeknbdclaoaaGreat
open Go
set_option maxRecDepth 10000
section
open Go Go.ChangeShapes Go.WideShapes Go.ChangeAt Go.RowKit Go.WideElems
set_option maxRecDepth 100000 in
theorem nE (os:Os) (started:os.Started) (H:Type) (enc:TypeId×Value->H):
  ReturnsInHanded {} Tryz.checked os 3 .any (Rows.topCertifiedSpec.pre6 enc Tryz.prog Tryz.f3 Rows.topCertifiedRow.domain false) (Rows.topCertifiedSpec.post enc Tryz.prog Tryz.f3 false true false false):=by
 refine returnsInHanded_of_change (C:=Tryz.checked) Tryz.own started qK Tryz.func3
  (ChangeSpec.witness6 (enc:=enc) (C:=Tryz.checked) false ⟨#[],#[.int .i64 0,.int .i64 0,.slice none 0 0,.slice none 0 0],[]⟩ 8 qK qK qK qK) ?_
 intro W base args ds gs before hval0 hW _ _
 have hval:∀(j:Nat) t v,Tryz.f3.params[j]?=some t->args[j]?=some v->Value.okWide Tryz.prog W .any base t v:=hval0
 have hW':=hW
 obtain⟨p,q,hA0,hV,rfl,_,_⟩:=hW
 have hA:DataW.TrodAll enc Tryz.prog W 0 (fun _=>true) true Tryz.f3.params.toList args.toList ds p:=hA0
 rw[Tryz.params3]at hA hval
 obtain⟨v0,vs0,d0,ds0,p0,q0,e,rfl,rfl,h0,hA0⟩:=trodAll_cons hA
 obtain⟨v1,vs1,d1,ds1,p1,q1,rfl,rfl,rfl,h1,hA1⟩:=trodAll_cons hA0
 obtain⟨v2,vs2,d2,ds2,p2,q2,rfl,rfl,rfl,h2,hA2⟩:=trodAll_cons hA1
 obtain⟨v3,vs3,d3,ds3,p3,q3,rfl,rfl,rfl,h3,hA3⟩:=trodAll_cons hA2
 obtain⟨rfl,rfl,rfl⟩:=trodAll_nil hA3
 obtain rfl:args= #[v0,v1,v2,v3]:=Array.toList_inj.1 e
 obtain⟨rfl,rfl⟩:=trodVars_none hV
 have hlt0:∀x,x∈p0->x.block<W.heap.size:=fun x hx=>hW'.lt x (by simp[hx])
 obtain⟨n0,k0,w0⟩:=xC Tryz.underlying3 (hval 0 3 v0 rfl rfl) h0
 have hlt1:∀x,x∈p1->x.block<W.heap.size:=fun x hx=>hW'.lt x (by simp[hx])
 obtain⟨n1,k1,w1⟩:=xC Tryz.underlying3 (hval 1 3 v1 rfl rfl) h1
 have hlt2:∀x,x∈p2->x.block<W.heap.size:=fun x hx=>hW'.lt x (by simp[hx])
 obtain⟨z2,w2,r2⟩:=sZ Tryz.underlying22 Tryz.underlying3 Tryz.BS (hval 2 22 v2 rfl rfl) h2 hlt2
 have hlt3:∀x,x∈p3->x.block<W.heap.size:=fun x hx=>hW'.lt x (by simp[hx])
 obtain⟨z3,w3,r3⟩:=sZ Tryz.underlying22 Tryz.underlying3 Tryz.BS (hval 3 22 v3 rfl rfl) h3 hlt3
 refine(z7 (ll false false n0 n1 z2 z3 w0 w1 w2 w3) (W:=W) (vs:=[v0,v1,v2,v3]) rfl (fun i p v g1 g2=>?_)).mono fun e W' ⟨he,hB⟩=>?_
 ·match i,g1,g2 with
  |0,g1,g2=>cases g1;cases g2;rw[k0];exact .int _ _
  |1,g1,g2=>cases g1;cases g2;rw[k1];exact .int _ _
  |2,g1,g2=>cases g1;cases g2;exact r2
  |3,g1,g2=>cases g1;cases g2;exact r3
 ·subst he
  have rd:∀{t:TypeId} {v:Value} {d:DataW H} {ps:List MemPlace} (hr:Tryz.prog.readableRec t=true) (hs:t<Tryz.prog.types.size) (h:DataW.Trod enc Tryz.prog W 0 (fun _=>true) true t v d ps) (hl:∀x∈ps,x.block<W.heap.size),
    DataW.Trod enc Tryz.prog W' 0 (fun b=>decide (b<W.heap.size)) true t v d ps:=fun hr hs h hl=>Below.trod Tryz.laidOut hr hs h hB hl
  refine⟨_,rfl,_,_,_,[],p0++(p1++(p2++(p3++[]))),[],hW',?_,?_,rfl,hB.frame _,fun h=>by cases h⟩
  ·exact trodAll_mk1 (shut_bool Tryz.underlying4 true)
  ·exact trodAll_cons_mk (rd qK (of_decide_eq_true qK) h0 hlt0) (trodAll_cons_mk (rd qK (of_decide_eq_true qK) h1 hlt1) (trodAll_cons_mk (rd qK (of_decide_eq_true qK) h2 hlt2) (trodAll_cons_mk (rd qK (of_decide_eq_true qK) h3 hlt3) trodAll_mk0)))
theorem topCertified_holds:Rows.TopCertifiedSaid:=
 OpenClaim.holds_of_wide 3 Tryz.f3 rfl rfl rfl rfl rfl rfl rfl ⟨rfl,rfl,rfl,rfl,rfl⟩ rfl rfl rfl rfl rfl qK Tryz.func3 qK
  (of_decide_eq_true qK) (by unfold Func.isWrapper;first|(rw[if_pos (by decide+kernel)];kernel_rfl)|(rw[if_neg (by decide+kernel)];exact⟨rfl,rfl⟩))
  (fun os started H enc _=>nE os started H enc)
end
end Go.Proofs.YtiakeknbdclaoaaGreat
