/- FCProduct: the statement holds, without a condition. -/
import Derived.Test.YtkaooejeljdbnaaHProduct5
import Derived.Test.YtkaooejeljdbnaaRows
namespace Go.Proofs.Ytkaooejeljdbnaa
open Go Go.ChangeShapes Go.WideShapes Go.ChangeAt Go.RowKit Go.WideElems
set_option linter.unusedVariables false
set_option linter.unusedSimpArgs false
set_option maxRecDepth 100000 in
theorem cauProduct_lifted (os : Os) (started : os.Started) (H : Type) (enc : TypeId × Value → H) :
    ReturnsInHanded {} Try.checked os 7 .any (Rows.cauProductSpec.pre6 enc Try.prog Try.f7 Rows.cauProductRow.domain false) (Rows.cauProductSpec.post enc Try.prog Try.f7 false true false false) := by
  refine returnsInHanded_of_change (C := Try.checked) Try.own started (by kernel_rfl) Try.func7
    (ChangeSpec.witness6 (enc := enc) (C := Try.checked) false ⟨#[], #[.int .i64 0, .slice none 0 0], []⟩ 8 (by kernel_rfl) (by kernel_rfl) (by kernel_rfl) (by kernel_rfl)) ?_
  intro W base args ds gs before hval0 hW _ _
  have hval : ∀ (j : Nat) t v, Try.f7.params[j]? = some t → args[j]? = some v → Value.okWide Try.prog W .any base t v := hval0
  have hW' := hW
  obtain ⟨p, q, hA0, hV, rfl, _, _⟩ := hW
  have hA : DataW.TrodAll enc Try.prog W 0 (fun _ => true) true Try.f7.params.toList args.toList ds p := hA0
  rw [Try.params7] at hA hval
  obtain ⟨v0, v1, d0, d1, p0, p1, rfl, rfl, rfl, h0, h1⟩ := trodAll_two hA
  obtain ⟨rfl, rfl⟩ := trodVars_none hV
  clear hA0 hval0 hA
  have hlt : ∀ x, (x ∈ p0 ∨ x ∈ p1) → x.block < W.heap.size := fun x hx => hW'.lt x (by rcases hx with h | h <;> simp [h])
  obtain ⟨n0, e0, w0⟩ := openInt Try.underlying3 (hval 0 3 v0 rfl rfl) h0
  obtain ⟨z1, w1, r1⟩ := openInts Try.underlying22 Try.underlying3 Try.cells3 (hval 1 22 v1 rfl rfl) h1 fun x hx => hlt x (.inr hx)
  refine (law_call (cauProduct_ok false n0 z1 w0 w1) (W := W) (vs := [v0, v1]) rfl (fun i p v g1 g2 => ?_)).mono fun e W' ⟨he, hB⟩ => ?_
  · match i, g1, g2 with
    | 0, g1, g2 => cases g1; cases g2; rw [e0]; exact .int _ _
    | 1, g1, g2 => cases g1; cases g2; exact r1
  · subst he
    have rd : ∀ {t : TypeId} {v : Value} {d : DataW H} {ps : List MemPlace} (hr : Try.prog.readableRec t = true) (hs : t < Try.prog.types.size) (h : DataW.Trod enc Try.prog W 0 (fun _ => true) true t v d ps) (hl : ∀ x ∈ ps, x.block < W.heap.size),
        DataW.Trod enc Try.prog W' 0 (fun b => decide (b < W.heap.size)) true t v d ps := fun hr hs h hl => Below.trod Try.laidOut hr hs h hB hl
    refine ⟨_, rfl, _, _, _, [], p0 ++ p1, [], hW', ?_, ?_, rfl, hB.frame _, fun h => by cases h⟩
    · exact trodAll_mk1 (shut_bool Try.underlying4 true)
    · exact trodAll_mk2 (rd (by kernel_rfl) (of_decide_eq_true (by kernel_rfl)) h0 fun x hx => hlt x (.inl hx)) (rd (by kernel_rfl) (of_decide_eq_true (by kernel_rfl)) h1 fun x hx => hlt x (.inr hx))
theorem cauProduct_holds : Rows.CauProductSaid :=
  OpenClaim.holds_of_wide 7 Try.f7 rfl rfl rfl rfl rfl rfl rfl ⟨rfl, rfl, rfl, rfl, rfl⟩ rfl rfl rfl rfl rfl (by kernel_rfl) Try.func7 (by kernel_rfl)
    (of_decide_eq_true (by kernel_rfl)) (by unfold Func.isWrapper; first | (rw [if_pos (by decide +kernel)]; kernel_rfl) | (rw [if_neg (by decide +kernel)]; exact ⟨rfl, rfl⟩))
    (fun os started H enc _ => cauProduct_lifted os started H enc)
end Go.Proofs.Ytkaooejeljdbnaa
