/- FloatModes: for every input the statement answers true and its arguments read as before. No condition. -/
import Derived.Test.YtjcmiedpgabdbaaFi5
import Derived.Test.YtjcmiedpgabdbaaSh2
namespace Go.Proofs.Ytjcmiedpgabdbaa
open Go Go.ChangeShapes Go.WideShapes Go.ChangeAt Go.RowKit Go.WideElems
set_option linter.unusedVariables false
set_option linter.unusedSimpArgs false

set_option maxRecDepth 100000 in
theorem floatModes_lifted (os : Os) (started : os.Started) (H : Type) (enc : TypeId × Value → H) :
    ReturnsInHanded {} Try.checked os 14 .any (Rows.floatModesSpec.pre6 enc Try.prog Try.f14 Rows.floatModesRow.domain false) (Rows.floatModesSpec.post enc Try.prog Try.f14 false true false false) := by
  refine returnsInHanded_of_change (C := Try.checked) Try.own started (by kernel_rfl) Try.func14
    (ChangeSpec.witness6 (enc := enc) (C := Try.checked) false ⟨#[], #[.int .u64 0, .int .u64 0, .int .i64 0, .int .i64 0, .int .i64 0], []⟩ 8 (by kernel_rfl) (by kernel_rfl) (by kernel_rfl) (by kernel_rfl)) ?_
  intro W base args ds gs before hval0 hW _ _
  have hval : ∀ (j : Nat) t v, Try.f14.params[j]? = some t → args[j]? = some v → Value.okWide Try.prog W .any base t v := hval0
  have hW' := hW
  obtain ⟨p, q, hA0, hV, rfl, _, _⟩ := hW
  have hA : DataW.TrodAll enc Try.prog W 0 (fun _ => true) true Try.f14.params.toList args.toList ds p := hA0
  rw [Try.params14] at hA hval
  obtain ⟨v0, vs0, d0, ds0, p0, q0, e, rfl, rfl, h0, hA0⟩ := trodAll_cons hA
  obtain ⟨v1, vs1, d1, ds1, p1, q1, rfl, rfl, rfl, h1, hA1⟩ := trodAll_cons hA0
  obtain ⟨v2, vs2, d2, ds2, p2, q2, rfl, rfl, rfl, h2, hA2⟩ := trodAll_cons hA1
  obtain ⟨v3, vs3, d3, ds3, p3, q3, rfl, rfl, rfl, h3, hA3⟩ := trodAll_cons hA2
  obtain ⟨v4, vs4, d4, ds4, p4, q4, rfl, rfl, rfl, h4, hA4⟩ := trodAll_cons hA3
  obtain ⟨rfl, rfl, rfl⟩ := trodAll_nil hA4
  obtain rfl : args = #[v0, v1, v2, v3, v4] := Array.toList_inj.1 e
  obtain ⟨rfl, rfl⟩ := trodVars_none hV
  obtain ⟨n0, k0, w0, rfl⟩ := openU Try.underlying32 (hval 0 32 v0 rfl rfl) h0
  obtain ⟨n1, k1, w1, rfl⟩ := openU Try.underlying32 (hval 1 32 v1 rfl rfl) h1
  obtain ⟨n2, k2, w2, rfl⟩ := openI Try.underlying3 (hval 2 3 v2 rfl rfl) h2
  obtain ⟨n3, k3, w3, rfl⟩ := openI Try.underlying3 (hval 3 3 v3 rfl rfl) h3
  obtain ⟨n4, k4, w4, rfl⟩ := openI Try.underlying3 (hval 4 3 v4 rfl rfl) h4
  refine (law_call (floatModes_ok n0 n1 n2 n3 n4 w0 w1) (W := W) (vs := [v0, v1, v2, v3, v4]) rfl (fun i p v g1 g2 => ?_)).mono fun e W' ⟨he, hB⟩ => ?_
  · match i, g1, g2 with
    | 0, g1, g2 => cases g1; cases g2; rw [k0]; exact .int _ _
    | 1, g1, g2 => cases g1; cases g2; rw [k1]; exact .int _ _
    | 2, g1, g2 => cases g1; cases g2; rw [k2]; exact .int _ _
    | 3, g1, g2 => cases g1; cases g2; rw [k3]; exact .int _ _
    | 4, g1, g2 => cases g1; cases g2; rw [k4]; exact .int _ _
  · subst he
    have rd : ∀ {t : TypeId} {v : Value} {d : DataW H} (hr : Try.prog.readableRec t = true) (hs : t < Try.prog.types.size) (h : DataW.Trod enc Try.prog W 0 (fun _ => true) true t v d []),
        DataW.Trod enc Try.prog W' 0 (fun b => decide (b < W.heap.size)) true t v d [] := fun hr hs h => Below.trod Try.laidOut hr hs h hB (fun x hx => absurd hx List.not_mem_nil)
    refine ⟨_, rfl, _, _, _, [], [] ++ ([] ++ ([] ++ ([] ++ ([] ++ [])))), [], hW', ?_, ?_, rfl, hB.frame _, fun h => by cases h⟩
    · exact trodAll_mk1 (shut_bool Try.underlying4 true)
    · exact trodAll_cons_mk (rd (by kernel_rfl) (of_decide_eq_true (by kernel_rfl)) h0) (trodAll_cons_mk (rd (by kernel_rfl) (of_decide_eq_true (by kernel_rfl)) h1) (trodAll_cons_mk (rd (by kernel_rfl) (of_decide_eq_true (by kernel_rfl)) h2) (trodAll_cons_mk (rd (by kernel_rfl) (of_decide_eq_true (by kernel_rfl)) h3) (trodAll_cons_mk (rd (by kernel_rfl) (of_decide_eq_true (by kernel_rfl)) h4) trodAll_mk0))))

theorem floatModes_holds : Rows.FloatModesSaid :=
  OpenClaim.holds_of_wide 14 Try.f14 rfl rfl rfl rfl rfl rfl rfl ⟨rfl, rfl, rfl, rfl, rfl⟩ rfl rfl rfl rfl rfl (by kernel_rfl) Try.func14 (by kernel_rfl)
    (of_decide_eq_true (by kernel_rfl)) (by unfold Func.isWrapper; first | (rw [if_pos (by decide +kernel)]; kernel_rfl) | (rw [if_neg (by decide +kernel)]; exact ⟨rfl, rfl⟩))
    (fun os started H enc _ => floatModes_lifted os started H enc)
end Go.Proofs.Ytjcmiedpgabdbaa
