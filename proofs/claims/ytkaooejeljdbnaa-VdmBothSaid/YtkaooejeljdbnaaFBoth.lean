/- VdmBoth: the statement. -/
import Derived.Test.YtkaooejeljdbnaaLt3
import Derived.Test.YtkaooejeljdbnaaSh1
namespace Go.Proofs.Ytkaooejeljdbnaa
open Go Go.ChangeShapes Go.WideShapes Go.ChangeAt Go.RowKit Go.WideElems
set_option linter.unusedVariables false
set_option linter.unusedSimpArgs false

set_option maxRecDepth 100000 in
theorem vdmBoth_lifted (os : Os) (started : os.Started) (H : Type) (enc : TypeId × Value → H) :
    ReturnsInHanded {} Try.checked os 5 .any (Rows.vdmBothSpec.pre6 enc Try.prog Try.f5 Rows.vdmBothRow.domain false) (Rows.vdmBothSpec.post enc Try.prog Try.f5 false true false false) := by
  refine returnsInHanded_of_change (C := Try.checked) Try.own started (by kernel_rfl) Try.func5
    (ChangeSpec.witness6 (enc := enc) (C := Try.checked) false ⟨#[], #[.int .i64 0, .slice none 0 0, .slice none 0 0, .slice none 0 0], []⟩ 8 (by kernel_rfl) (by kernel_rfl) (by kernel_rfl) (by kernel_rfl)) ?_
  intro W base args ds gs before hval0 hW _ _
  have hval : ∀ (j : Nat) t v, Try.f5.params[j]? = some t → args[j]? = some v → Value.okWide Try.prog W .any base t v := hval0
  have hW' := hW
  obtain ⟨p, q, hA0, hV, rfl, _, _⟩ := hW
  have hA : DataW.TrodAll enc Try.prog W 0 (fun _ => true) true Try.f5.params.toList args.toList ds p := hA0
  rw [Try.params5] at hA hval
  obtain ⟨v0, v1, v2, v3, d0, d1, d2, d3, p0, p1, p2, p3, rfl, rfl, rfl, h0, h1, h2, h3⟩ := trodAll_four hA
  obtain ⟨rfl, rfl⟩ := trodVars_none hV
  clear hA0 hval0 hA
  have hlt : ∀ x, (x ∈ p0 ∨ x ∈ p1 ∨ x ∈ p2 ∨ x ∈ p3) → x.block < W.heap.size := fun x hx => hW'.lt x (by rcases hx with h | h | h | h <;> simp [h])
  obtain ⟨n0, e0, w0⟩ := openInt Try.underlying3 (hval 0 3 v0 rfl rfl) h0
  obtain ⟨z1, w1, r1⟩ := openInts Try.underlying22 Try.underlying3 Try.cells3 (hval 1 22 v1 rfl rfl) h1 fun x hx => hlt x (.inr (.inl hx))
  obtain ⟨z2, w2, r2⟩ := openInts Try.underlying22 Try.underlying3 Try.cells3 (hval 2 22 v2 rfl rfl) h2 fun x hx => hlt x (.inr (.inr (.inl hx)))
  obtain ⟨z3, w3, r3⟩ := openInts Try.underlying22 Try.underlying3 Try.cells3 (hval 3 22 v3 rfl rfl) h3 fun x hx => hlt x (.inr (.inr (.inr hx)))
  refine (law_call (vboth_ok false false false n0 z1 z2 z3 w0 w1 w2 w3) (W := W) (vs := [v0, v1, v2, v3]) rfl (fun i p v g1 g2 => ?_)).mono fun e W' ⟨he, hB⟩ => ?_
  · match i, g1, g2 with
    | 0, g1, g2 => cases g1; cases g2; rw [e0]; exact .int _ _
    | 1, g1, g2 => cases g1; cases g2; exact r1
    | 2, g1, g2 => cases g1; cases g2; exact r2
    | 3, g1, g2 => cases g1; cases g2; exact r3
  · subst he
    have rd : ∀ {t : TypeId} {v : Value} {d : DataW H} {ps : List MemPlace} (hr : Try.prog.readableRec t = true) (hs : t < Try.prog.types.size) (h : DataW.Trod enc Try.prog W 0 (fun _ => true) true t v d ps) (hl : ∀ x ∈ ps, x.block < W.heap.size),
        DataW.Trod enc Try.prog W' 0 (fun b => decide (b < W.heap.size)) true t v d ps := fun hr hs h hl => Below.trod Try.laidOut hr hs h hB hl
    refine ⟨_, rfl, _, _, _, [], p0 ++ (p1 ++ (p2 ++ p3)), [], hW', ?_, ?_, rfl, hB.frame _, fun h => by cases h⟩
    · exact trodAll_mk1 (shut_bool Try.underlying4 true)
    · exact trodAll_mk4 (rd (by kernel_rfl) (of_decide_eq_true (by kernel_rfl)) h0 fun x hx => hlt x (.inl hx)) (rd (by kernel_rfl) (of_decide_eq_true (by kernel_rfl)) h1 fun x hx => hlt x (.inr (.inl hx))) (rd (by kernel_rfl) (of_decide_eq_true (by kernel_rfl)) h2 fun x hx => hlt x (.inr (.inr (.inl hx)))) (rd (by kernel_rfl) (of_decide_eq_true (by kernel_rfl)) h3 fun x hx => hlt x (.inr (.inr (.inr hx))))

theorem vdmBoth_holds : Rows.VdmBothSaid :=
  OpenClaim.holds_of_wide 5 Try.f5 rfl rfl rfl rfl rfl rfl rfl ⟨rfl, rfl, rfl, rfl, rfl⟩ rfl rfl rfl rfl rfl (by kernel_rfl) Try.func5 (by kernel_rfl)
    (of_decide_eq_true (by kernel_rfl)) (by unfold Func.isWrapper; first | (rw [if_pos (by decide +kernel)]; kernel_rfl) | (rw [if_neg (by decide +kernel)]; exact ⟨rfl, rfl⟩))
    (fun os started H enc _ => vdmBoth_lifted os started H enc)
end Go.Proofs.Ytkaooejeljdbnaa
