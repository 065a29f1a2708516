/- From the walks to the given statements: rows of floats' bits are opened. -/
import Derived.Test.YtacklcbgkigcaaaGreatSh4
import Derived.Test.YtacklcbgkigcaaaGreatCq
namespace Go.Proofs.YtacklcbgkigcaaaGreat
open Go Go.ChangeShapes Go.WideShapes Go.ChangeAt Go.RowKit Go.WideElems Go.Deep
set_option linter.unusedVariables false
set_option linter.unusedSimpArgs false

section
variable {H : Type} {enc : TypeId × Value → H} {P : Program} {W : World} {base : Nat} {sp : Nat → Bool} {held : Bool}
theorem openCodes {t e : TypeId} (ht : P.underlying t = some (.slice e)) (he : P.underlying e = some (.int .u64)) (hce : P.cellsOf e = 1)
    {r : Reach} {b0 : Nat} {v : Value} {d : DataW H} {ps : List MemPlace} (hval : Value.okWide P W r b0 t v) (hd : DataW.Trod enc P W base sp held t v d ps) (hlt : ∀ x ∈ ps, x.block < W.heap.size) :
    ∃ l : List Nat, OkC l ∧ PR W (FBof noBor (oldF W)) (.sl false 1 (codesP l)) v := by
  obtain ⟨a0, len, cap, rfl⟩ := okWide_slice ht hval
  obtain ⟨fuel, hf⟩ := hd
  rcases open_slice ht hf with ⟨hcs, hx⟩ | ⟨a, len', cap', m, n, D, Pl, hcs, _, hl, _, hm, hx, hcell⟩
  · simp [Value.cells] at hcs
    obtain ⟨rfl, rfl, rfl⟩ := hcs
    exact ⟨[], fun i hi => by simp at hi, .nil _ _⟩
  · simp [Value.cells] at hcs
    obtain ⟨rfl, rfl, rfl⟩ := hcs
    simp only [Prod.mk.injEq] at hx
    obtain ⟨_, rfl⟩ := hx
    have hlm : len ≤ m := by rw [hm]; split <;> omega
    have hspot : a.spot = none := by
      simp only [Value.okWide, ht, Cell.okWide] at hval
      simp [Cell.ok, World.has] at hval
      first | exact hval.1.2.1 | exact hval.2.1 | (have := hval; simp_all)
    obtain ⟨b, off, spot⟩ := a
    simp only at hspot
    subst hspot
    obtain ⟨X, hX⟩ := choose_lt (α := Nat) (n := m) (p := fun i x => x < 18446744073709551616 ∧ W.cell? ⟨b, off + i * 1, none⟩ = some (.int .u64 (x : Int))) (fun i hi => by
      obtain ⟨cs', h1, h2⟩ := hcell i hi
      rw [hce] at h1
      obtain ⟨z, hz, _, wz⟩ := DataW.trod_int he h2
      simp [Lit.wf, IntKind.min, IntKind.max, IntKind.signed, IntKind.bits] at wz
      obtain ⟨_, _, h3⟩ := World.cells?_some h1
      have g0 := h3 0 (by omega)
      rw [Addr.add_lit] at g0
      rw [Addr.add_lit] at g0
      refine ⟨z.toNat, by omega, ?_⟩
      rw [show ((z.toNat : Nat) : Int) = z by omega]
      simpa [hz] using g0)
    refine ⟨(List.range len).map X, fun i hi => ?_, ?_⟩
    · have hi : i < len := by simpa using hi
      have := (hX i (by omega)).1
      simpa [List.getD, hi] using this
    · have hll : (codesP ((List.range len).map X)).length = len := by simp [codesP]
      have hel : ∀ (i : Nat) e, (codesP ((List.range len).map X))[i]? = some e → i < len ∧ e = .int .u64 (X i : Int) := fun i e h1 => by
        have hi : i < len := by have := (List.getElem?_eq_some_iff.1 h1).1; rwa [hll] at this
        refine ⟨hi, ?_⟩
        rw [codesP, List.getElem?_map, List.getElem?_map, List.getElem?_range hi] at h1
        exact (Option.some.inj h1).symm
      have h := PR.sl (w := W) (FB := FBof noBor (oldF W)) false 1 (codesP ((List.range len).map X)) b off cap (fun i j => .int .u64 (X i : Int)) (by rw [hll]; exact hl) (fun hne => ?_) (fun e he => ?_) (fun e he c hc => ?_) (fun i e j c e1 e2 => ?_) (fun i e j c e1 e2 => ?_)
      · rw [hll] at h; exact h
      · have hpos : 0 < m * P.cellsOf e := by
          rw [hce]
          rcases Nat.eq_zero_or_pos len with h0 | h0
          · subst h0; exact (hne rfl).elim
          · omega
        exact hlt (.cell b off) (List.mem_append_left _ (MemPlace.mem_row.2 ⟨0, hpos, by simp⟩))
      · obtain ⟨z, _, rfl⟩ := List.mem_map.1 he; rfl
      · obtain ⟨z, _, rfl⟩ := List.mem_map.1 he
        simp [PV.cells] at hc; subst hc; rfl
      · obtain ⟨hi, rfl⟩ := hel i e e1
        obtain ⟨_, g0⟩ := hX i (by omega)
        match j, e2 with
        | 0, _ => exact g0
      · obtain ⟨hi, rfl⟩ := hel i e e1
        match j, e2 with
        | 0, e2 => cases e2; exact .int _ _
end
set_option maxRecDepth 100000 in
theorem openU64s {H : Type} {enc : TypeId × Value → H} {W : World} {base : Nat} {sp : Nat → Bool} {held : Bool} {r : Reach} {b0 : Nat} {v : Value} {d : DataW H} {ps : List MemPlace} (hval : Value.okWide Tryz.prog W r b0 60 v)
    (hd : DataW.Trod enc Tryz.prog W base sp held 60 v d ps) (hlt : ∀ x ∈ ps, x.block < W.heap.size) : ∃ l : List Nat, OkC l ∧ PR W (FBof noBor (oldF W)) (.sl false 1 (codesP l)) v :=
  openCodes Tryz.underlying60 Tryz.underlying22 cellsU64 hval hd hlt
end Go.Proofs.YtacklcbgkigcaaaGreat
