/- From the walks to the given statements: arguments that are enclosures, floats' bits are opened. -/
import Derived.Test.YtacklcbgkigcaaaGreatSh3
import Derived.Test.YtacklcbgkigcaaaGreatIm2
import Derived.Deep.Slices
namespace Go.Proofs.YtacklcbgkigcaaaGreat
open Go Go.ChangeShapes Go.WideShapes Go.ChangeAt Go.RowKit Go.WideElems Go.Deep
set_option linter.unusedVariables false
set_option linter.unusedSimpArgs false

section
variable {H : Type} {enc : TypeId × Value → H} {P : Program} {W : World} {base : Nat} {sp : Nat → Bool} {held : Bool}
theorem pair_open {e tu : TypeId} (hu : ∃ f0 f1 : Field, P.underlying e = some (.struct #[f0, f1]) ∧ f0.type = tu ∧ f1.type = tu ∧ f0.offset = 0 ∧ f1.offset = 1) (htu : P.underlying tu = some (.int .u64)) (hce : P.cellsOf e = 2) (hcu : P.cellsOf tu = 1)
    {n : Nat} {cs : List Value} {y : DataW H × List MemPlace} (h : DataW.trod enc P W base sp held n e cs = some y) : ∃ i : IvT, IvOk i ∧ cs = [.int .u64 (i.1 : Int), .int .u64 (i.2 : Int)] := by
  obtain ⟨f0, f1, hu, t0, t1, o0, o1⟩ := hu
  obtain ⟨y0, y1, m, hx, hl, g0, g1⟩ := trod_struct2 hu h
  rw [hce] at hl
  match cs, hl with
  | [c0, c1], _ =>
    rw [t0, o0, hcu] at g0
    rw [t1, o1, hcu] at g1
    simp only [List.drop, List.take] at g0 g1
    obtain ⟨a, ha, _, wa⟩ := DataW.trod_int htu g0
    obtain ⟨b, hb, _, wb⟩ := DataW.trod_int htu g1
    simp only [List.cons.injEq, and_true] at ha hb
    subst ha; subst hb
    simp [Lit.wf, IntKind.min, IntKind.max, IntKind.signed, IntKind.bits] at wa wb
    refine ⟨(a.toNat, b.toNat), ⟨by show a.toNat < _; omega, by show b.toNat < _; omega⟩, ?_⟩
    show [Value.int .u64 a, .int .u64 b] = [.int .u64 ((a.toNat : Nat) : Int), .int .u64 ((b.toNat : Nat) : Int)]
    rw [show ((a.toNat : Nat) : Int) = a by omega, show ((b.toNat : Nat) : Int) = b by omega]
theorem pr_iv {W : World} {FB : Bool → Nat → Prop} (i : IvT) : PR W FB (ivP i) (.agg #[.int .u64 (i.1 : Int), .int .u64 (i.2 : Int)]) := by
  refine .agg _ _ (fun c hc => ?_) rfl fun j c v h1 h2 => ?_
  · simp at hc
    rcases hc with rfl | rfl <;> rfl
  · match j, h1, h2 with
    | 0, h1, h2 => cases h1; cases h2; exact .int _ _
    | 1, h1, h2 => cases h1; cases h2; exact .int _ _
theorem openIv {t tu : TypeId} (hu : ∃ f0 f1 : Field, P.underlying t = some (.struct #[f0, f1]) ∧ f0.type = tu ∧ f1.type = tu ∧ f0.offset = 0 ∧ f1.offset = 1) (htu : P.underlying tu = some (.int .u64)) (hce : P.cellsOf t = 2) (hcu : P.cellsOf tu = 1)
    {r : Reach} {b0 : Nat} {v : Value} {d : DataW H} {ps : List MemPlace} (hval : Value.okWide P W r b0 t v) (hd : DataW.Trod enc P W base sp held t v d ps) : ∃ i : IvT, IvOk i ∧ PR W (FBof noBor (oldF W)) (ivP i) v := by
  have hu' := hu
  obtain ⟨f0, f1, h0, _⟩ := hu
  simp only [Value.okWide, h0] at hval
  obtain ⟨cs, rfl, hsz, _⟩ := hval
  obtain ⟨fuel, hd⟩ := hd
  have hd : DataW.trod enc P W base sp held fuel t cs.toList = some (d, ps) := hd
  obtain ⟨i, hi, hc⟩ := pair_open hu' htu hce hcu hd
  obtain rfl : cs = #[.int .u64 (i.1 : Int), .int .u64 (i.2 : Int)] := Array.toList_inj.1 hc
  exact ⟨i, hi, pr_iv i⟩
theorem openIvs {t e tu : TypeId} (ht : P.underlying t = some (.slice e)) (hu : ∃ f0 f1 : Field, P.underlying e = some (.struct #[f0, f1]) ∧ f0.type = tu ∧ f1.type = tu ∧ f0.offset = 0 ∧ f1.offset = 1) (htu : P.underlying tu = some (.int .u64)) (hce : P.cellsOf e = 2) (hcu : P.cellsOf tu = 1)
    {r : Reach} {b0 : Nat} {v : Value} {d : DataW H} {ps : List MemPlace} (hval : Value.okWide P W r b0 t v) (hd : DataW.Trod enc P W base sp held t v d ps) (hlt : ∀ x ∈ ps, x.block < W.heap.size) :
    ∃ l : List IvT, IvOks l ∧ PR W (FBof noBor (oldF W)) (.sl false 2 (ivsP l)) v := by
  obtain ⟨a0, len, cap, rfl⟩ := okWide_slice ht hval
  obtain ⟨fuel, hf⟩ := hd
  rcases open_slice ht hf with ⟨hcs, hx⟩ | ⟨a, len', cap', m, n, D, Pl, hcs, _, hl, _, hm, hx, hcell⟩
  · simp [Value.cells] at hcs
    obtain ⟨rfl, rfl, rfl⟩ := hcs
    exact ⟨[], fun i hi => by simp at hi, .nil _ _⟩
  · simp [Value.cells] at hcs
    obtain ⟨rfl, rfl, rfl⟩ := hcs
    simp only [Prod.mk.injEq] at hx
    obtain ⟨_, rfl⟩ := hx
    have hlm : len ≤ m := by rw [hm]; split <;> omega
    have hspot : a.spot = none := by
      simp only [Value.okWide, ht, Cell.okWide] at hval
      simp [Cell.ok, World.has] at hval
      first | exact hval.1.2.1 | exact hval.2.1 | (have := hval; simp_all)
    obtain ⟨b, off, spot⟩ := a
    simp only at hspot
    subst hspot
    obtain ⟨X, hX⟩ := choose_lt (α := IvT) (n := m) (p := fun i x => IvOk x ∧ W.cell? ⟨b, off + i * 2, none⟩ = some (.int .u64 (x.1 : Int)) ∧ W.cell? ⟨b, off + i * 2 + 1, none⟩ = some (.int .u64 (x.2 : Int))) (fun i hi => by
      obtain ⟨cs', h1, h2⟩ := hcell i hi
      rw [hce] at h1
      obtain ⟨x, hx, rfl⟩ := pair_open hu htu hce hcu h2
      obtain ⟨_, _, h3⟩ := World.cells?_some h1
      have g0 := h3 0 (by omega)
      have g1 := h3 1 (by omega)
      rw [Addr.add_lit] at g0 g1
      rw [Addr.add_lit] at g0 g1
      exact ⟨x, hx, g0, g1⟩)
    refine ⟨(List.range len).map X, fun i hi => ?_, ?_⟩
    · obtain ⟨k, hk, rfl⟩ := List.mem_map.1 hi
      exact (hX k (by have := List.mem_range.1 hk; omega)).1
    · have hll : (ivsP ((List.range len).map X)).length = len := by simp
      have hel : ∀ (i : Nat) e, (ivsP ((List.range len).map X))[i]? = some e → i < len ∧ e = ivP (X i) := fun i e h1 => by
        have hi : i < len := by have := (List.getElem?_eq_some_iff.1 h1).1; rwa [hll] at this
        refine ⟨hi, ?_⟩
        rw [List.getElem?_map, List.getElem?_map, List.getElem?_range hi] at h1
        exact (Option.some.inj h1).symm
      have h := PR.sl (w := W) (FB := FBof noBor (oldF W)) false 2 (ivsP ((List.range len).map X)) b off cap (fun i j => if j = 0 then .int .u64 ((X i).1 : Int) else .int .u64 ((X i).2 : Int)) (by rw [hll]; exact hl) (fun hne => ?_) (fun e he => ?_) (fun e he c hc => ?_) (fun i e j c e1 e2 => ?_) (fun i e j c e1 e2 => ?_)
      · rw [hll] at h; exact h
      · have hpos : 0 < m * P.cellsOf e := by
          rw [hce]
          rcases Nat.eq_zero_or_pos len with h0 | h0
          · subst h0; exact (hne rfl).elim
          · omega
        exact hlt (.cell b off) (List.mem_append_left _ (MemPlace.mem_row.2 ⟨0, hpos, by simp⟩))
      · obtain ⟨z, _, rfl⟩ := List.mem_map.1 he; rfl
      · obtain ⟨z, _, rfl⟩ := List.mem_map.1 he
        have hc : c ∈ [PV.int .u64 (z.1 : Int), .int .u64 (z.2 : Int)] := hc
        simp at hc
        rcases hc with rfl | rfl <;> rfl
      · obtain ⟨hi, rfl⟩ := hel i e e1
        obtain ⟨_, g0, g1⟩ := hX i (by omega)
        match j, e2 with
        | 0, _ => exact g0
        | 1, _ => exact g1
      · obtain ⟨hi, rfl⟩ := hel i e e1
        match j, e2 with
        | 0, e2 => cases e2; exact .int _ _
        | 1, e2 => cases e2; exact .int _ _
end
section
variable {H : Type} {enc : TypeId × Value → H} {P : Program} {W : World} {base : Nat} {sp : Nat → Bool} {held : Bool}
theorem openInts {t e : TypeId} {r : Reach} {b0 : Nat} {v : Value} {d : DataW H} {ps : List MemPlace} (ht : P.underlying t = some (.slice e)) (he : P.underlying e = some (.int .i64)) (hc : P.cellsOf e = 1) (hval : Value.okWide P W r b0 t v)
    (hd : DataW.Trod enc P W base sp held t v d ps) (hlt : ∀ x ∈ ps, x.block < W.heap.size) : ∃ zs : List Int, I64s zs ∧ PR W (FBof noBor (oldF W)) (.sl false 1 (intsP zs)) v := by
  obtain ⟨a0, len, cap, rfl⟩ := okWide_slice ht hval
  obtain ⟨fuel, hf⟩ := hd
  rcases open_ints ht he hc hf with ⟨hcs, hx⟩ | ⟨a, len', cap', zs, hcs, _, hl, hm, hz, hx, hcell, hwz⟩
  · simp [Value.cells] at hcs
    obtain ⟨rfl, rfl, rfl⟩ := hcs
    exact ⟨[], fun i => by simp [I64], .nil _ _⟩
  · simp [Value.cells] at hcs
    obtain ⟨rfl, rfl, rfl⟩ := hcs
    simp only [Prod.mk.injEq] at hx
    obtain ⟨_, rfl⟩ := hx
    have hlen : len ≤ zs.length := by rw [hz]; split <;> omega
    have hspot : a.spot = none := by
      simp only [Value.okWide, ht, Cell.okWide] at hval
      simp [Cell.ok, World.has] at hval
      first | exact hval.1.2.1 | exact hval.2.1 | (have := hval; simp_all)
    obtain ⟨b, off, spot⟩ := a
    simp only at hspot
    subst hspot
    refine ⟨zs.take len, fun i => ?_, ?_⟩
    · by_cases hi : i < (zs.take len).length
      · have hm : (zs.take len).getD i 0 ∈ zs := by
          have : (zs.take len).getD i 0 = (zs.take len)[i] := by simp only [List.getD, List.getElem?_eq_getElem hi, Option.getD_some]
          rw [this]
          exact List.mem_of_mem_take (List.getElem_mem hi)
        have h4 := hwz _ hm
        generalize (zs.take len).getD i 0 = q at h4 ⊢
        simp [Lit.wf, IntKind.min, IntKind.max, IntKind.signed, IntKind.bits] at h4
        exact ⟨by omega, by omega⟩
      · rw [getD_ge _ 0 (by omega)]; simp [I64]
    · have hll : (intsP (zs.take len)).length = len := by simp; omega
      have h := PR.sl (w := W) (FB := FBof noBor (oldF W)) false 1 (intsP (zs.take len)) b off cap (fun i _ => .int .i64 (zs.getD i 0)) (by rw [hll]; exact hl) (fun hne => ?_) (fun e he => ?_) (fun e he c hc => ?_) (fun i e j c e1 e2 => ?_) (fun i e j c e1 e2 => ?_)
      · rw [hll] at h; exact h
      · have hpos : 0 < zs.length := by
          rcases Nat.eq_zero_or_pos zs.length with h0 | h0
          · exact (hne (by rw [List.length_eq_zero_iff.1 h0]; simp)).elim
          · exact h0
        exact hlt (.cell b off) (MemPlace.mem_row.2 ⟨0, hpos, by simp⟩)
      · obtain ⟨z, _, rfl⟩ := List.mem_map.1 he; rfl
      · obtain ⟨z, _, rfl⟩ := List.mem_map.1 he
        have hc : c ∈ [PV.int .i64 z] := hc
        simp at hc; subst hc; rfl
      all_goals
        have hi : i < len := by have := (List.getElem?_eq_some_iff.1 e1).1; rwa [hll] at this
        have he : e = .int .i64 (zs.getD i 0) := by
          rw [List.getElem?_map, List.getElem?_take_of_lt hi, List.getElem?_eq_getElem (show i < zs.length by omega)] at e1
          simp at e1
          simp [List.getD, show i < zs.length by omega, ← e1]
        subst he
        have hj : j = 0 := by
          have := (List.getElem?_eq_some_iff.1 e2).1
          simpa [PV.cells] using this
        subst hj
        first
          | (have := hcell i (by omega)
             rw [show off + i * 1 + 0 = off + i by omega]
             rwa [Addr.add_lit] at this)
          | (have hcv : c = .int .i64 (zs.getD i 0) := by simpa [PV.cells] using e2.symm
             subst hcv
             exact .int _ _)
end
theorem cellsI64 : Tryz.prog.cellsOf 3 = 1 := by kernel_rfl
set_option maxRecDepth 100000 in
theorem openInts2 {H : Type} {enc : TypeId × Value → H} {W : World} {base : Nat} {sp : Nat → Bool} {held : Bool} {r : Reach} {b0 : Nat} {v : Value} {d : DataW H} {ps : List MemPlace} (hval : Value.okWide Tryz.prog W r b0 44 v)
    (hd : DataW.Trod enc Tryz.prog W base sp held 44 v d ps) (hlt : ∀ x ∈ ps, x.block < W.heap.size) : ∃ zs : List Int, I64s zs ∧ PR W (FBof noBor (oldF W)) (.sl false 1 (intsP zs)) v :=
  openInts Tryz.underlying44 Tryz.underlying3 cellsI64 hval hd hlt
theorem cellsIv : Tryz.prog.cellsOf 24 = 2 := by kernel_rfl
theorem cellsU64 : Tryz.prog.cellsOf 22 = 1 := by kernel_rfl
theorem undIv : ∃ f0 f1 : Field, Tryz.prog.underlying 24 = some (.struct #[f0, f1]) ∧ f0.type = 22 ∧ f1.type = 22 ∧ f0.offset = 0 ∧ f1.offset = 1 := ⟨_, _, Tryz.underlying24, rfl, rfl, rfl, rfl⟩
set_option maxRecDepth 100000 in
theorem openE {H : Type} {enc : TypeId × Value → H} {W : World} {base : Nat} {sp : Nat → Bool} {held : Bool} {r : Reach} {b0 : Nat} {v : Value} {d : DataW H} {ps : List MemPlace} (hval : Value.okWide Tryz.prog W r b0 24 v)
    (hd : DataW.Trod enc Tryz.prog W base sp held 24 v d ps) : ∃ i : IvT, IvOk i ∧ PR W (FBof noBor (oldF W)) (ivP i) v :=
  openIv undIv Tryz.underlying22 cellsIv cellsU64 hval hd
set_option maxRecDepth 100000 in
theorem openEs {H : Type} {enc : TypeId × Value → H} {W : World} {base : Nat} {sp : Nat → Bool} {held : Bool} {r : Reach} {b0 : Nat} {v : Value} {d : DataW H} {ps : List MemPlace} (hval : Value.okWide Tryz.prog W r b0 43 v)
    (hd : DataW.Trod enc Tryz.prog W base sp held 43 v d ps) (hlt : ∀ x ∈ ps, x.block < W.heap.size) : ∃ l : List IvT, IvOks l ∧ PR W (FBof noBor (oldF W)) (.sl false 2 (ivsP l)) v :=
  openIvs Tryz.underlying43 undIv Tryz.underlying22 cellsIv cellsU64 hval hd hlt
end Go.Proofs.YtacklcbgkigcaaaGreat
