/- FGKnown: the statement holds, without a condition. -/
import Derived.Test.YtjfcphohgicolaaHGKnown6
import Derived.Test.YtjfcphohgicolaaRows
set_option linter.unusedVariables false
set_option linter.unusedSimpArgs false
namespace Go.Proofs.Ytjfcphohgicolaa
open Go Go.ChangeShapes Go.WideShapes Go.ChangeAt Go.RowKit Go.WideElems
set_option linter.unusedVariables false
set_option linter.unusedSimpArgs false
set_option maxRecDepth 100000 in
theorem gkoKnown_lifted (os : Os) (started : os.Started) (H : Type) (enc : TypeId × Value → H) :
    ReturnsInHanded {} Try.checked os 4 .any (Rows.gkoKnownSpec.pre6 enc Try.prog Try.f4 Rows.gkoKnownRow.domain false) (Rows.gkoKnownSpec.post enc Try.prog Try.f4 false true false false) := by
  refine returnsInHanded_of_change (C := Try.checked) Try.own started (by kernel_rfl) Try.func4
    (ChangeSpec.witness6 (enc := enc) (C := Try.checked) false ⟨#[], #[.int .i64 0], []⟩ 8 (by kernel_rfl) (by kernel_rfl) (by kernel_rfl) (by kernel_rfl)) ?_
  intro W base args ds gs before hval0 hW _ _
  have hval : ∀ (j : Nat) t v, Try.f4.params[j]? = some t → args[j]? = some v → Value.okWide Try.prog W .any base t v := hval0
  have hW' := hW
  obtain ⟨p, q, hA0, hV, rfl, _, _⟩ := hW
  have hA : DataW.TrodAll enc Try.prog W 0 (fun _ => true) true Try.f4.params.toList args.toList ds p := hA0
  rw [Try.params4] at hA hval
  obtain ⟨v0, vs0, d0, ds0, p0, q0, e, rfl, rfl, h0, hA0⟩ := trodAll_cons hA
  obtain ⟨rfl, rfl, rfl⟩ := trodAll_nil hA0
  obtain rfl : args = #[v0] := Array.toList_inj.1 e
  obtain ⟨rfl, rfl⟩ := trodVars_none hV
  have hlt0 : ∀ x, x ∈ p0 → x.block < W.heap.size := fun x hx => hW'.lt x (by simp [hx])
  obtain ⟨n0, k0, w0⟩ := openInt Try.underlying3 (hval 0 3 v0 rfl rfl) h0
  refine (law_call (gkoKnown_ok n0 w0) (W := W) (vs := [v0]) rfl (fun i p v g1 g2 => ?_)).mono fun e W' ⟨he, hB⟩ => ?_
  · match i, g1, g2 with
    | 0, g1, g2 => cases g1; cases g2; rw [k0]; exact .int _ _
  · subst he
    have rd : ∀ {t : TypeId} {v : Value} {d : DataW H} {ps : List MemPlace} (hr : Try.prog.readableRec t = true) (hs : t < Try.prog.types.size) (h : DataW.Trod enc Try.prog W 0 (fun _ => true) true t v d ps) (hl : ∀ x ∈ ps, x.block < W.heap.size),
        DataW.Trod enc Try.prog W' 0 (fun b => decide (b < W.heap.size)) true t v d ps := fun hr hs h hl => Below.trod Try.laidOut hr hs h hB hl
    refine ⟨_, rfl, _, _, _, [], p0 ++ [], [], hW', ?_, ?_, rfl, hB.frame _, fun h => by cases h⟩
    · exact trodAll_mk1 (shut_bool Try.underlying4 true)
    · exact trodAll_cons_mk (rd (by kernel_rfl) (of_decide_eq_true (by kernel_rfl)) h0 hlt0) trodAll_mk0
theorem gkoKnown_holds : Rows.GkoKnownSaid :=
  OpenClaim.holds_of_wide 4 Try.f4 rfl rfl rfl rfl rfl rfl rfl ⟨rfl, rfl, rfl, rfl, rfl⟩ rfl rfl rfl rfl rfl (by kernel_rfl) Try.func4 (by kernel_rfl)
    (of_decide_eq_true (by kernel_rfl)) (by unfold Func.isWrapper; first | (rw [if_pos (by decide +kernel)]; kernel_rfl) | (rw [if_neg (by decide +kernel)]; exact ⟨rfl, rfl⟩))
    (fun os started H enc _ => gkoKnown_lifted os started H enc)
end Go.Proofs.Ytjfcphohgicolaa
