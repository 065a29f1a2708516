/- VdmSame: for every input the statement answers true and its arguments read as before. No condition. -/
import Derived.Test.YthenhipnibkdeaaLs1
import Derived.Test.YthenhipnibkdeaaSh1
namespace Go.Proofs.Ythenhipnibkdeaa
open Go Go.ChangeShapes Go.WideShapes Go.ChangeAt Go.RowKit Go.WideElems
set_option linter.unusedVariables false
set_option linter.unusedSimpArgs false

set_option maxRecDepth 100000 in
theorem vdmSame_lifted (os : Os) (started : os.Started) (H : Type) (enc : TypeId × Value → H) :
    ReturnsInHanded {} Try.checked os 6 .any (Rows.vdmSameSpec.pre6 enc Try.prog Try.f6 Rows.vdmSameRow.domain false) (Rows.vdmSameSpec.post enc Try.prog Try.f6 false true false false) := by
  refine returnsInHanded_of_change (C := Try.checked) Try.own started (by kernel_rfl) Try.func6
    (ChangeSpec.witness6 (enc := enc) (C := Try.checked) false ⟨#[], #[.int .i64 0, .slice none 0 0, .slice none 0 0], []⟩ 8 (by kernel_rfl) (by kernel_rfl) (by kernel_rfl) (by kernel_rfl)) ?_
  intro W base args ds gs before hval0 hW _ _
  have hval : ∀ (j : Nat) t v, Try.f6.params[j]? = some t → args[j]? = some v → Value.okWide Try.prog W .any base t v := hval0
  have hW' := hW
  obtain ⟨p, q, hA0, hV, rfl, _, _⟩ := hW
  have hA : DataW.TrodAll enc Try.prog W 0 (fun _ => true) true Try.f6.params.toList args.toList ds p := hA0
  rw [Try.params6] at hA hval
  obtain ⟨v0, v1, v2, d0, d1, d2, p0, p1, p2, rfl, rfl, rfl, h0, h1, h2⟩ := trodAll_three hA
  obtain ⟨rfl, rfl⟩ := trodVars_none hV
  clear hA0 hval0 hA
  have hlt : ∀ x, (x ∈ p0 ∨ x ∈ p1 ∨ x ∈ p2) → x.block < W.heap.size := fun x hx => hW'.lt x (by rcases hx with h | h | h <;> simp [h])
  obtain ⟨n0, e0, w0⟩ := openInt Try.underlying3 (hval 0 3 v0 rfl rfl) h0
  obtain ⟨z1, w1, r1⟩ := openInts Try.underlying22 Try.underlying3 Try.cells3 (hval 1 22 v1 rfl rfl) h1 fun x hx => hlt x (.inr (.inl hx))
  obtain ⟨z2, w2, r2⟩ := openInts Try.underlying22 Try.underlying3 Try.cells3 (hval 2 22 v2 rfl rfl) h2 fun x hx => hlt x (.inr (.inr hx))
  refine (law_call (same_ok false false n0 z1 z2 w0 w1 w2) (W := W) (vs := [v0, v1, v2]) rfl (fun i p v g1 g2 => ?_)).mono fun e W' ⟨he, hB⟩ => ?_
  · match i, g1, g2 with
    | 0, g1, g2 => cases g1; cases g2; rw [e0]; exact .int _ _
    | 1, g1, g2 => cases g1; cases g2; exact r1
    | 2, g1, g2 => cases g1; cases g2; exact r2
  · subst he
    have rd : ∀ {t : TypeId} {v : Value} {d : DataW H} {ps : List MemPlace} (hr : Try.prog.readableRec t = true) (hs : t < Try.prog.types.size) (h : DataW.Trod enc Try.prog W 0 (fun _ => true) true t v d ps) (hl : ∀ x ∈ ps, x.block < W.heap.size),
        DataW.Trod enc Try.prog W' 0 (fun b => decide (b < W.heap.size)) true t v d ps := fun hr hs h hl => Below.trod Try.laidOut hr hs h hB hl
    refine ⟨_, rfl, _, _, _, [], p0 ++ (p1 ++ p2), [], hW', ?_, ?_, rfl, hB.frame _, fun h => by cases h⟩
    · exact trodAll_mk1 (shut_bool Try.underlying4 true)
    · exact trodAll_mk3 (rd (by kernel_rfl) (of_decide_eq_true (by kernel_rfl)) h0 fun x hx => hlt x (.inl hx)) (rd (by kernel_rfl) (of_decide_eq_true (by kernel_rfl)) h1 fun x hx => hlt x (.inr (.inl hx))) (rd (by kernel_rfl) (of_decide_eq_true (by kernel_rfl)) h2 fun x hx => hlt x (.inr (.inr hx)))

theorem vdmSame_holds : Rows.VdmSameSaid :=
  OpenClaim.holds_of_wide 6 Try.f6 rfl rfl rfl rfl rfl rfl rfl ⟨rfl, rfl, rfl, rfl, rfl⟩ rfl rfl rfl rfl rfl (by kernel_rfl) Try.func6 (by kernel_rfl)
    (of_decide_eq_true (by kernel_rfl)) (by unfold Func.isWrapper; first | (rw [if_pos (by decide +kernel)]; kernel_rfl) | (rw [if_neg (by decide +kernel)]; exact ⟨rfl, rfl⟩))
    (fun os started H enc _ => vdmSame_lifted os started H enc)
end Go.Proofs.Ythenhipnibkdeaa
