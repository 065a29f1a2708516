/- From the walks to the given statements: rows of raw numbers are opened. -/
import Derived.Test.YtkaooejeljdbnaaSh3
import Derived.Test.YtkaooejeljdbnaaCw2
import Derived.Deep.Slices
namespace Go.Proofs.Ytkaooejeljdbnaa
open Go Go.ChangeShapes Go.WideShapes Go.ChangeAt Go.RowKit Go.WideElems Go.Deep
set_option linter.unusedVariables false
set_option linter.unusedSimpArgs false

theorem choose_lt {α : Type} [Inhabited α] {n : Nat} {p : Nat → α → Prop} (h : ∀ i, i < n → ∃ x, p i x) : ∃ X : Nat → α, ∀ i, i < n → p i (X i) := by
  classical
  refine ⟨fun i => if hi : i < n then (h i hi).choose else default, fun i hi => ?_⟩
  dsimp only
  rw [dif_pos hi]; exact (h i hi).choose_spec
section
variable {H : Type} {enc : TypeId × Value → H} {P : Program} {W : World} {base : Nat} {held : Bool}
theorem cellU32s2 {t e : TypeId} {n : Nat} {c : Value} {y : DataW H × List MemPlace} (ht : P.underlying t = some (.slice e)) (he : P.underlying e = some (.int .u32)) (hc : P.cellsOf e = 1)
    (hf : DataW.trod enc P W base (fun _ => true) held n t [c] = some y) (hlt : ∀ x ∈ y.2, x.block < W.heap.size) : ∃ l : List Nat, Lok l ∧ PR W (FBof noBor (oldF W)) (.sl false 1 (limbs l)) c := by
  rcases open_ints ht he hc hf with ⟨hcs, hx⟩ | ⟨a, len, cap, zs, hcs, _, hl, hm, hz, hx, hcell, hwz⟩
  · simp only [List.cons.injEq, and_true] at hcs
    subst hcs
    exact ⟨[], Lok.nil, .nil _ _ _⟩
  · simp only [List.cons.injEq, and_true] at hcs
    subst hcs
    subst hx
    have hz : zs.length = cap := hz
    have hlen : len ≤ zs.length := by omega
    rcases Nat.eq_zero_or_pos cap with h0 | hpos
    · obtain rfl : len = 0 := by omega
      subst h0
      exact ⟨[], Lok.nil, .nil _ _ _⟩
    have hspot : a.spot = none := by
      have := hcell 0 (by omega)
      unfold World.cell? at this
      cases hs : a.spot with
      | none => rfl
      | some s =>
        have e : (a.add 0).spot = some s := hs
        rw [e] at this
        split at this
        · simp at this
        · cases this
    obtain ⟨b, off, spot⟩ := a
    simp only at hspot
    subst hspot
    obtain ⟨ws, hw, hzw⟩ := nats_of_ints (zs := zs) fun z hz => by
      have h4 := hwz z hz
      simp [Lit.wf, IntKind.min, IntKind.max, IntKind.signed, IntKind.bits] at h4
      omega
    have hwl : ws.length = zs.length := by rw [hzw, List.length_map]
    have hg : ∀ i, zs.getD i 0 = ((ws.getD i 0 : Nat) : Int) := fun i => by
      rw [hzw]
      by_cases hi : i < ws.length
      · simp [List.getD, List.getElem?_eq_getElem hi]
      · simp [List.getD, List.getElem?_eq_none (show ws.length ≤ i by omega)]
    refine ⟨ws.take len, hw.take len, ?_⟩
    have hll : (limbs (ws.take len)).length = len := by simp [limbs]; omega
    have h := PR.sl (w := W) (FB := FBof noBor (oldF W)) false 1 (limbs (ws.take len)) b off cap (fun i _ => .int .u32 (zs.getD i 0)) (by rw [hll]; exact hl) (fun hne => ?_) (fun e he => ?_) (fun e he c hc => ?_) (fun i e j c e1 e2 => ?_) (fun i e j c e1 e2 => ?_)
    · rw [hll] at h; exact h
    · exact hlt (.cell b off) (MemPlace.mem_row.2 ⟨0, by omega, by simp⟩)
    · obtain ⟨z, _, rfl⟩ := List.mem_map.1 he; rfl
    · obtain ⟨z, _, rfl⟩ := List.mem_map.1 he
      have hc : c ∈ [PV.int .u32 (z : Int)] := hc
      simp at hc; subst hc; rfl
    all_goals
      have hi : i < len := by have := (List.getElem?_eq_some_iff.1 e1).1; rwa [hll] at this
      have he : e = .int .u32 (zs.getD i 0) := by
        rw [hg]
        unfold limbs at e1
        rw [List.getElem?_map, List.getElem?_take_of_lt hi, List.getElem?_eq_getElem (show i < ws.length by omega)] at e1
        simp at e1
        simp [List.getD, show i < ws.length by omega, ← e1]
      subst he
      have hj : j = 0 := by
        have := (List.getElem?_eq_some_iff.1 e2).1
        simpa [PV.cells] using this
      subst hj
      first
        | (have := hcell i (by omega)
           rw [show off + i * 1 + 0 = off + i by omega]
           rwa [Addr.add_lit] at this)
        | (have hcv : c = .int .u32 (zs.getD i 0) := by simpa [PV.cells] using e2.symm
           subst hcv
           exact .int _ _)
theorem rat_open {t tb tn te : TypeId} (hct : P.cellsOf t = 3) (hcb : P.cellsOf tb = 1) (hcn : P.cellsOf tn = 1) (hce : P.cellsOf te = 1)
    (hu : ∃ f0 f1 f2 : Field, P.underlying t = some (.struct #[f0, f1, f2]) ∧ f0.type = tb ∧ f1.type = tn ∧ f2.type = tn ∧ f0.offset = 0 ∧ f1.offset = 1 ∧ f2.offset = 2)
    (htb : P.underlying tb = some .bool) (htn : P.underlying tn = some (.slice te)) (hte : P.underlying te = some (.int .u32))
    {n : Nat} {cs : List Value} {y : DataW H × List MemPlace} (hd : DataW.trod enc P W base (fun _ => true) held n t cs = some y) (hlt : ∀ x ∈ y.2, x.block < W.heap.size) :
    ∃ (r : Raw) (c1 c2 : Value), RawOk r ∧ cs = [.bool r.1, c1, c2] ∧ PR W (FBof noBor (oldF W)) (.sl false 1 (limbs r.2.1)) c1 ∧ PR W (FBof noBor (oldF W)) (.sl false 1 (limbs r.2.2)) c2 := by
  obtain ⟨f0, f1, f2, hu, t0, t1, t2, o0, o1, o2⟩ := hu
  obtain ⟨y0, y1, y2, m, hx, hl, g0, g1, g2⟩ := trod_struct3 hu hd
  rw [hct] at hl
  match cs, hl with
  | [c0, c1, c2], _ =>
    rw [t0, o0, hcb] at g0
    rw [t1, o1, hcn] at g1
    rw [t2, o2, hcn] at g2
    simp only [List.drop, List.take] at g0 g1 g2
    subst hx
    obtain ⟨N, hN, rN⟩ := cellU32s2 htn hte hce g1 fun x hx => hlt x (by simp [hx])
    obtain ⟨D, hD, rD⟩ := cellU32s2 htn hte hce g2 fun x hx => hlt x (by simp [hx])
    obtain ⟨b, hb, _⟩ := DataW.trod_bool htb g0
    simp only [List.cons.injEq, and_true] at hb
    subst hb
    exact ⟨(b, N, D), c1, c2, ⟨hN, hD⟩, rfl, rN, rD⟩
theorem openRats {ts t tb tn te : TypeId} (hts : P.underlying ts = some (.slice t)) (hct : P.cellsOf t = 3) (hcb : P.cellsOf tb = 1) (hcn : P.cellsOf tn = 1) (hce : P.cellsOf te = 1)
    (hu : ∃ f0 f1 f2 : Field, P.underlying t = some (.struct #[f0, f1, f2]) ∧ f0.type = tb ∧ f1.type = tn ∧ f2.type = tn ∧ f0.offset = 0 ∧ f1.offset = 1 ∧ f2.offset = 2)
    (htb : P.underlying tb = some .bool) (htn : P.underlying tn = some (.slice te)) (hte : P.underlying te = some (.int .u32))
    {r : Go.Reach} {b0 : Nat} {v : Value} {d : DataW H} {ps : List MemPlace} (hval : Value.okWide P W r b0 ts v) (hd : DataW.Trod enc P W base (fun _ => true) held ts v d ps) (hlt : ∀ x ∈ ps, x.block < W.heap.size) :
    ∃ l : List Raw, (∀ r ∈ l, RawOk r) ∧ PR W (FBof noBor (oldF W)) (.sl false 3 (rawsP l)) v := by
  obtain ⟨a0, len, cap, rfl⟩ := okWide_slice hts hval
  obtain ⟨fuel, hf⟩ := hd
  rcases open_slice hts hf with ⟨hcs, hx⟩ | ⟨a, len', cap', m, n, D, Pl, hcs, _, hl, _, hm, hx, hcell⟩
  · simp [Value.cells] at hcs
    obtain ⟨rfl, rfl, rfl⟩ := hcs
    exact ⟨[], fun i hi => by simp at hi, .nil _ _ _⟩
  · simp [Value.cells] at hcs
    obtain ⟨rfl, rfl, rfl⟩ := hcs
    simp only [Prod.mk.injEq] at hx
    obtain ⟨_, rfl⟩ := hx
    have hm : m = cap := hm
    have hlm : len ≤ m := by omega
    have hspot : a.spot = none := by
      simp only [Value.okWide, hts, Cell.okWide] at hval
      simp [Cell.ok, World.has] at hval
      first | exact hval.1.2.1 | exact hval.2.1 | (have := hval; simp_all)
    obtain ⟨b, off, spot⟩ := a
    simp only at hspot
    subst hspot
    obtain ⟨X, hX⟩ := choose_lt (α := Raw × Value × Value) (n := m) (p := fun i x => RawOk x.1 ∧ (W.cell? ⟨b, off + i * 3, none⟩ = some (.bool x.1.1) ∧ W.cell? ⟨b, off + i * 3 + 1, none⟩ = some x.2.1 ∧ W.cell? ⟨b, off + i * 3 + 2, none⟩ = some x.2.2) ∧
        PR W (FBof noBor (oldF W)) (.sl false 1 (limbs x.1.2.1)) x.2.1 ∧ PR W (FBof noBor (oldF W)) (.sl false 1 (limbs x.1.2.2)) x.2.2) (fun i hi => by
      obtain ⟨cs', h1, h2⟩ := hcell i hi
      rw [hct] at h1
      obtain ⟨x, c1, c2, hx, rfl, r1, r2⟩ := rat_open hct hcb hcn hce hu htb htn hte h2 fun y hy => hlt y (List.mem_append_right _ (List.mem_flatMap.2 ⟨i, List.mem_range.2 hi, hy⟩))
      obtain ⟨_, _, h3⟩ := World.cells?_some h1
      have g0 := h3 0 (by omega)
      have g1 := h3 1 (by omega)
      have g2 := h3 2 (by omega)
      rw [Addr.add_lit] at g0 g1 g2
      rw [Addr.add_lit] at g0 g1 g2
      exact ⟨(x, c1, c2), hx, ⟨g0, g1, g2⟩, r1, r2⟩)
    refine ⟨(List.range len).map fun i => (X i).1, fun i hi => ?_, ?_⟩
    · obtain ⟨k, hk, rfl⟩ := List.mem_map.1 hi
      exact (hX k (by have := List.mem_range.1 hk; omega)).1
    · have hll : (rawsP ((List.range len).map fun i => (X i).1)).length = len := by simp
      have hel : ∀ (i : Nat) e, (rawsP ((List.range len).map fun i => (X i).1))[i]? = some e → i < len ∧ e = rawP (X i).1.1 false false (X i).1.2.1 (X i).1.2.2 := fun i e h1 => by
        have hi : i < len := by have := (List.getElem?_eq_some_iff.1 h1).1; rwa [hll] at this
        refine ⟨hi, ?_⟩
        rw [List.getElem?_map, List.getElem?_map, List.getElem?_range hi] at h1
        exact (Option.some.inj h1).symm
      have h := PR.sl (w := W) (FB := FBof noBor (oldF W)) false 3 (rawsP ((List.range len).map fun i => (X i).1)) b off cap (fun i j => if j = 0 then .bool (X i).1.1 else if j = 1 then (X i).2.1 else (X i).2.2) (by rw [hll]; exact hl) (fun hne => ?_) (fun e he => ?_) (fun e he c hc => ?_) (fun i e j c e1 e2 => ?_) (fun i e j c e1 e2 => ?_)
      · rw [hll] at h; exact h
      · have hpos : 0 < m * P.cellsOf t := by
          rw [hct]
          rcases Nat.eq_zero_or_pos len with h0 | h0
          · subst h0; exact (hne rfl).elim
          · omega
        exact hlt (.cell b off) (List.mem_append_left _ (MemPlace.mem_row.2 ⟨0, hpos, by simp⟩))
      · obtain ⟨z, _, rfl⟩ := List.mem_map.1 he; rfl
      · obtain ⟨z, _, rfl⟩ := List.mem_map.1 he
        have hc : c ∈ [PV.bool z.1, .sl false 1 (limbs z.2.1), .sl false 1 (limbs z.2.2)] := hc
        simp at hc
        rcases hc with rfl | rfl | rfl <;> rfl
      · obtain ⟨hi, rfl⟩ := hel i e e1
        obtain ⟨_, ⟨g0, g1, g2⟩, _⟩ := hX i (by omega)
        match j, e2 with
        | 0, _ => exact g0
        | 1, _ => exact g1
        | 2, _ => exact g2
      · obtain ⟨hi, rfl⟩ := hel i e e1
        obtain ⟨_, _, r1, r2⟩ := hX i (by omega)
        match j, e2 with
        | 0, e2 => cases e2; exact .bool _
        | 1, e2 => cases e2; exact r1
        | 2, e2 => cases e2; exact r2
theorem openInts {t e : TypeId} {r : Go.Reach} {b0 : Nat} {v : Value} {sp : Nat → Bool} {d : DataW H} {ps : List MemPlace} (ht : P.underlying t = some (.slice e)) (he : P.underlying e = some (.int .i64)) (hc : P.cellsOf e = 1) (hval : Value.okWide P W r b0 t v)
    (hd : DataW.Trod enc P W base sp held t v d ps) (hlt : ∀ x ∈ ps, x.block < W.heap.size) : ∃ zs : List Int, I64s zs ∧ PR W (FBof noBor (oldF W)) (.sl false 1 (intsP zs)) v := by
  obtain ⟨a0, len, cap, rfl⟩ := okWide_slice ht hval
  obtain ⟨fuel, hf⟩ := hd
  rcases open_ints ht he hc hf with ⟨hcs, hx⟩ | ⟨a, len', cap', zs, hcs, _, hl, hm, hz, hx, hcell, hwz⟩
  · simp [Value.cells] at hcs
    obtain ⟨rfl, rfl, rfl⟩ := hcs
    exact ⟨[], fun i => by simp [I64], .nil _ _ _⟩
  · simp [Value.cells] at hcs
    obtain ⟨rfl, rfl, rfl⟩ := hcs
    simp only [Prod.mk.injEq] at hx
    obtain ⟨_, rfl⟩ := hx
    have hlen : len ≤ zs.length := by rw [hz]; split <;> omega
    have hspot : a.spot = none := by
      simp only [Value.okWide, ht, Cell.okWide] at hval
      simp [Cell.ok, World.has] at hval
      first | exact hval.1.2.1 | exact hval.2.1 | (have := hval; simp_all)
    obtain ⟨b, off, spot⟩ := a
    simp only at hspot
    subst hspot
    refine ⟨zs.take len, fun i => ?_, ?_⟩
    · by_cases hi : i < (zs.take len).length
      · have hm : (zs.take len).getD i 0 ∈ zs := by
          have : (zs.take len).getD i 0 = (zs.take len)[i] := by simp only [List.getD, List.getElem?_eq_getElem hi, Option.getD_some]
          rw [this]
          exact List.mem_of_mem_take (List.getElem_mem hi)
        have h4 := hwz _ hm
        generalize (zs.take len).getD i 0 = q at h4 ⊢
        simp [Lit.wf, IntKind.min, IntKind.max, IntKind.signed, IntKind.bits] at h4
        exact ⟨by omega, by omega⟩
      · rw [getD_ge _ 0 (by omega)]; simp [I64]
    · have hll : (intsP (zs.take len)).length = len := by simp; omega
      have h := PR.sl (w := W) (FB := FBof noBor (oldF W)) false 1 (intsP (zs.take len)) b off cap (fun i _ => .int .i64 (zs.getD i 0)) (by rw [hll]; exact hl) (fun hne => ?_) (fun e he => ?_) (fun e he c hc => ?_) (fun i e j c e1 e2 => ?_) (fun i e j c e1 e2 => ?_)
      · rw [hll] at h; exact h
      · have hpos : 0 < zs.length := by
          rcases Nat.eq_zero_or_pos zs.length with h0 | h0
          · exact (hne (by rw [List.length_eq_zero_iff.1 h0]; simp)).elim
          · exact h0
        exact hlt (.cell b off) (MemPlace.mem_row.2 ⟨0, hpos, by simp⟩)
      · obtain ⟨z, _, rfl⟩ := List.mem_map.1 he; rfl
      · obtain ⟨z, _, rfl⟩ := List.mem_map.1 he
        have hc : c ∈ [PV.int .i64 z] := hc
        simp at hc; subst hc; rfl
      all_goals
        have hi : i < len := by have := (List.getElem?_eq_some_iff.1 e1).1; rwa [hll] at this
        have he : e = .int .i64 (zs.getD i 0) := by
          rw [List.getElem?_map, List.getElem?_take_of_lt hi, List.getElem?_eq_getElem (show i < zs.length by omega)] at e1
          simp at e1
          simp [List.getD, show i < zs.length by omega, ← e1]
        subst he
        have hj : j = 0 := by
          have := (List.getElem?_eq_some_iff.1 e2).1
          simpa [PV.cells] using this
        subst hj
        first
          | (have := hcell i (by omega)
             rw [show off + i * 1 + 0 = off + i by omega]
             rwa [Addr.add_lit] at this)
          | (have hcv : c = .int .i64 (zs.getD i 0) := by simpa [PV.cells] using e2.symm
             subst hcv
             exact .int _ _)
end
theorem cellsI64 : Try.prog.cellsOf 3 = 1 := by kernel_rfl
set_option maxRecDepth 100000 in
theorem openInts2 {H : Type} {enc : TypeId × Value → H} {W : World} {base : Nat} {sp : Nat → Bool} {held : Bool} {r : Go.Reach} {b0 : Nat} {v : Value} {d : DataW H} {ps : List MemPlace} (hval : Value.okWide Try.prog W r b0 22 v)
    (hd : DataW.Trod enc Try.prog W base sp held 22 v d ps) (hlt : ∀ x ∈ ps, x.block < W.heap.size) : ∃ zs : List Int, I64s zs ∧ PR W (FBof noBor (oldF W)) (.sl false 1 (intsP zs)) v :=
  openInts Try.underlying22 Try.underlying3 cellsI64 hval hd hlt
set_option maxRecDepth 100000 in
theorem openRs {H : Type} {enc : TypeId × Value → H} {W : World} {base : Nat} {held : Bool} {r : Go.Reach} {b0 : Nat} {v : Value} {d : DataW H} {ps : List MemPlace} (hval : Value.okWide Try.prog W r b0 25 v)
    (hd : DataW.Trod enc Try.prog W base (fun _ => true) held 25 v d ps) (hlt : ∀ x ∈ ps, x.block < W.heap.size) : ∃ l : List Raw, (∀ r ∈ l, RawOk r) ∧ PR W (FBof noBor (oldF W)) (.sl false 3 (rawsP l)) v :=
  openRats Try.underlying25 cellsR cellsB cellsN cellsU32 undR Try.underlying4 Try.underlying35 Try.underlying70 hval hd hlt
end Go.Proofs.Ytkaooejeljdbnaa
