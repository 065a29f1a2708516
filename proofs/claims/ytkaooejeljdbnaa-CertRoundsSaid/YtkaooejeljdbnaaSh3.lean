/- From the walks to the given statements: arguments that are raw numbers are opened. -/
import Derived.Test.YtkaooejeljdbnaaSh2
import Derived.Test.YtkaooejeljdbnaaRr
import Derived.Deep.Strs
namespace Go.Proofs.Ytkaooejeljdbnaa
open Go Go.ChangeShapes Go.WideShapes Go.ChangeAt Go.RowKit Go.WideElems Go.Deep
set_option linter.unusedVariables false
set_option linter.unusedSimpArgs false

theorem nats_of_ints {zs : List Int} (h : ∀ z ∈ zs, 0 ≤ z ∧ z < 4294967296) : ∃ ws : List Nat, Lok ws ∧ zs = ws.map fun (x : Nat) => (x : Int) := by
  refine ⟨zs.map Int.toNat, fun x hx => ?_, ?_⟩
  · obtain ⟨z, hz, rfl⟩ := List.mem_map.1 hx
    have := h z hz; omega
  · rw [List.map_map]
    refine (List.map_id zs).symm.trans (List.map_congr_left fun z hz => ?_)
    have := h z hz
    show z = ((z.toNat : Nat) : Int)
    omega
section
variable {H : Type} {enc : TypeId × Value → H} {P : Program} {W : World} {base : Nat} {sp : Nat → Bool} {held : Bool}
theorem cellU32s {t e : TypeId} {r : Go.Reach} {b0 n : Nat} {c : Value} {y : DataW H × List MemPlace} (ht : P.underlying t = some (.slice e)) (he : P.underlying e = some (.int .u32)) (hc : P.cellsOf e = 1) (hval : Cell.okWide P W r b0 t c)
    (hf : DataW.trod enc P W base sp held n t [c] = some y) (hlt : ∀ x ∈ y.2, x.block < W.heap.size) : ∃ l : List Nat, Lok l ∧ PR W (FBof noBor (oldF W)) (.sl false 1 (limbs l)) c := by
  rcases open_ints ht he hc hf with ⟨hcs, hx⟩ | ⟨a, len, cap, zs, hcs, _, hl, hm, hz, hx, hcell, hwz⟩
  · simp only [List.cons.injEq, and_true] at hcs
    subst hcs
    exact ⟨[], Lok.nil, .nil _ _ _⟩
  · simp only [List.cons.injEq, and_true] at hcs
    subst hcs
    subst hx
    have hlen : len ≤ zs.length := by rw [hz]; split <;> omega
    have hspot : a.spot = none := by
      simp only [Cell.okWide, ht] at hval
      simp [Cell.ok, World.has, ht] at hval
      first | exact hval.2.2.2.1 | exact hval.1.2.1 | exact hval.2.1 | (have := hval; simp_all)
    obtain ⟨b, off, spot⟩ := a
    simp only at hspot
    subst hspot
    obtain ⟨ws, hw, hzw⟩ := nats_of_ints (zs := zs) fun z hz => by
      have h4 := hwz z hz
      simp [Lit.wf, IntKind.min, IntKind.max, IntKind.signed, IntKind.bits] at h4
      omega
    have hwl : ws.length = zs.length := by rw [hzw, List.length_map]
    have hg : ∀ i, zs.getD i 0 = ((ws.getD i 0 : Nat) : Int) := fun i => by
      rw [hzw]
      by_cases hi : i < ws.length
      · simp [List.getD, List.getElem?_eq_getElem hi]
      · simp [List.getD, List.getElem?_eq_none (show ws.length ≤ i by omega)]
    refine ⟨ws.take len, hw.take len, ?_⟩
    have hll : (limbs (ws.take len)).length = len := by simp [limbs]; omega
    have h := PR.sl (w := W) (FB := FBof noBor (oldF W)) false 1 (limbs (ws.take len)) b off cap (fun i _ => .int .u32 (zs.getD i 0)) (by rw [hll]; exact hl) (fun hne => ?_) (fun e he => ?_) (fun e he c hc => ?_) (fun i e j c e1 e2 => ?_) (fun i e j c e1 e2 => ?_)
    · rw [hll] at h; exact h
    · have hpos : 0 < zs.length := by
        rcases Nat.eq_zero_or_pos zs.length with h0 | h0
        · exact (hne (by rw [show len = 0 by omega]; rfl)).elim
        · exact h0
      exact hlt (.cell b off) (MemPlace.mem_row.2 ⟨0, hpos, by simp⟩)
    · obtain ⟨z, _, rfl⟩ := List.mem_map.1 he; rfl
    · obtain ⟨z, _, rfl⟩ := List.mem_map.1 he
      have hc : c ∈ [PV.int .u32 (z : Int)] := hc
      simp at hc; subst hc; rfl
    all_goals
      have hi : i < len := by have := (List.getElem?_eq_some_iff.1 e1).1; rwa [hll] at this
      have he : e = .int .u32 (zs.getD i 0) := by
        rw [hg]
        unfold limbs at e1
        rw [List.getElem?_map, List.getElem?_take_of_lt hi, List.getElem?_eq_getElem (show i < ws.length by omega)] at e1
        simp at e1
        simp [List.getD, show i < ws.length by omega, ← e1]
      subst he
      have hj : j = 0 := by
        have := (List.getElem?_eq_some_iff.1 e2).1
        simpa [PV.cells] using this
      subst hj
      first
        | (have := hcell i (by omega)
           rw [show off + i * 1 + 0 = off + i by omega]
           rwa [Addr.add_lit] at this)
        | (have hcv : c = .int .u32 (zs.getD i 0) := by simpa [PV.cells] using e2.symm
           subst hcv
           exact .int _ _)
end
section
variable {H : Type} {enc : TypeId × Value → H} {P : Program} {W : World} {base : Nat} {sp : Nat → Bool} {held : Bool}
theorem openRat {t tb tn te : TypeId} (hcts : P.cellTypes P.depth t = some [tb, tn, tn]) (hct : P.cellsOf t = 3) (hcb : P.cellsOf tb = 1) (hcn : P.cellsOf tn = 1) (hce : P.cellsOf te = 1)
    (hu : ∃ f0 f1 f2 : Field, P.underlying t = some (.struct #[f0, f1, f2]) ∧ f0.type = tb ∧ f1.type = tn ∧ f2.type = tn ∧ f0.offset = 0 ∧ f1.offset = 1 ∧ f2.offset = 2)
    (htb : P.underlying tb = some .bool) (htn : P.underlying tn = some (.slice te)) (hte : P.underlying te = some (.int .u32))
    {r : Go.Reach} {b0 : Nat} {v : Value} {d : DataW H} {ps : List MemPlace} (hval : Value.okWide P W r b0 t v) (hd : DataW.Trod enc P W base sp held t v d ps) (hlt : ∀ x ∈ ps, x.block < W.heap.size) :
    ∃ neg N D, Lok N ∧ Lok D ∧ PR W (FBof noBor (oldF W)) (rawP neg false false N D) v := by
  obtain ⟨f0, f1, f2, hu, t0, t1, t2, o0, o1, o2⟩ := hu
  have hu' := hu
  simp only [Value.okWide, hu] at hval
  obtain ⟨cs, rfl, hsz, ts, hts, _, hrow⟩ := hval
  rw [hcts] at hts
  cases hts
  rw [hct] at hsz
  obtain ⟨fuel, hd⟩ := hd
  have hd : DataW.trod enc P W base sp held fuel t cs.toList = some (d, ps) := hd
  obtain ⟨y0, y1, y2, n, hx, _, g0, g1, g2⟩ := trod_struct3 hu' hd
  obtain ⟨l⟩ := cs
  have hsz : l.length = 3 := hsz
  match l, hsz with
  | [c0, c1, c2], _ =>
    rw [t0, o0, hcb] at g0
    rw [t1, o1, hcn] at g1
    rw [t2, o2, hcn] at g2
    simp only [List.drop, List.take] at g0 g1 g2
    cases hx
    obtain ⟨u1, e1, k1⟩ := hrow 1 c1 rfl
    cases e1
    obtain ⟨u2, e2, k2⟩ := hrow 2 c2 rfl
    cases e2
    obtain ⟨N, hN, rN⟩ := cellU32s htn hte hce k1 g1 fun x hx => hlt x (by simp [hx])
    obtain ⟨D, hD, rD⟩ := cellU32s htn hte hce k2 g2 fun x hx => hlt x (by simp [hx])
    obtain ⟨b, hb, _⟩ := DataW.trod_bool htb g0
    simp only [List.cons.injEq, and_true] at hb
    subst hb
    refine ⟨b, N, D, hN, hD, .agg _ _ (fun c hc => ?_) rfl fun i c v h1 h2 => ?_⟩
    · simp at hc
      rcases hc with rfl | rfl | rfl <;> rfl
    · match i, h1, h2 with
      | 0, h1, h2 => cases h1; cases h2; exact .bool _
      | 1, h1, h2 => cases h1; cases h2; exact rN
      | 2, h1, h2 => cases h1; cases h2; exact rD
end
theorem cellTypesR : Try.prog.cellTypes Try.prog.depth 37 = some [4, 35, 35] := by kernel_rfl
theorem cellsR : Try.prog.cellsOf 37 = 3 := by kernel_rfl
theorem cellsB : Try.prog.cellsOf 4 = 1 := by kernel_rfl
theorem cellsN : Try.prog.cellsOf 35 = 1 := by kernel_rfl
theorem cellsU32 : Try.prog.cellsOf 70 = 1 := by kernel_rfl
theorem undR : ∃ f0 f1 f2 : Field, Try.prog.underlying 37 = some (.struct #[f0, f1, f2]) ∧ f0.type = 4 ∧ f1.type = 35 ∧ f2.type = 35 ∧ f0.offset = 0 ∧ f1.offset = 1 ∧ f2.offset = 2 := ⟨_, _, _, Try.underlying37, rfl, rfl, rfl, rfl, rfl, rfl⟩
set_option maxRecDepth 100000 in
theorem openR {H : Type} {enc : TypeId × Value → H} {W : World} {base : Nat} {sp : Nat → Bool} {held : Bool} {r : Go.Reach} {b0 : Nat} {v : Value} {d : DataW H} {ps : List MemPlace} (hval : Value.okWide Try.prog W r b0 37 v)
    (hd : DataW.Trod enc Try.prog W base sp held 37 v d ps) (hlt : ∀ x ∈ ps, x.block < W.heap.size) : ∃ neg N D, Lok N ∧ Lok D ∧ PR W (FBof noBor (oldF W)) (rawP neg false false N D) v :=
  openRat cellTypesR cellsR cellsB cellsN cellsU32 undR Try.underlying4 Try.underlying35 Try.underlying70 hval hd hlt
end Go.Proofs.Ytkaooejeljdbnaa
