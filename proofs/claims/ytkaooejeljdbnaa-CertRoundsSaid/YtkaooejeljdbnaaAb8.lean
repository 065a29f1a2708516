/- Each operation does to the machine what 'opSem' says (sixth part). -/
import Derived.Test.YtkaooejeljdbnaaAb7
namespace Go.Proofs.Ytkaooejeljdbnaa
open Go
set_option linter.unusedVariables false
set_option linter.unusedSimpArgs false

section
variable {P : Program} {Γ : Tab} {E : Env} {n : Nat} {s : Nat → AV} {L : Hd → Blk} {a : Act} {w : World} {F : Nat → Prop} {β : Hd → Option Nat × Nat} {K : AV → List (Hd × Blk) → Prop}
  {W : Operand → (AV → Prop) → Prop} {LK : Hd → (Blk → Prop) → Prop} {wr : FuncId → Bool} {base : Nat}

theorem VR.intOf {w FB β} {k : IntKind} {z : Int} {x : Value} (h : VR w FB β (.p (.int k z)) x) : x = .int k z := by
  cases h with | p h => cases h; rfl

theorem elemK_ok (hΓ : GOK P Γ) {t : TypeId} {K : TypeId → TI → Prop} (h : elemK Γ t K) : ∃ e j, P.underlying t = some (.slice e) ∧ Γ e = some j ∧ K e j := by
  unfold elemK at h
  split at h
  · rename_i i hi
    split at h
    · rename_i e hd
      have hu := (hΓ t _ hi).desc
      rw [hd] at hu
      split at h
      · rename_i j hj; exact ⟨e, j, hu, hj, h⟩
      · exact h.elim
    · exact h.elim
  · exact h.elim

theorem fieldOf_ok (hΓ : GOK P Γ) {t : TypeId} {f : Nat} {K : Nat → TI → Prop} (h : fieldOf Γ t f K) : ∃ (fields : Array Field) (fl : Field) (j : TI), P.underlying t = some (.struct fields) ∧ fields[f]? = some fl ∧ Γ fl.type = some j ∧ K fl.offset j := by
  unfold fieldOf at h
  split at h
  · rename_i i hi
    split at h
    · rename_i fs hd
      have hu := (hΓ t _ hi).desc
      rw [hd] at hu
      obtain ⟨fields, hu, hfs⟩ := hu
      split at h
      · rename_i x hx
        split at h
        · rename_i j hj
          rw [← hfs, List.getElem?_map] at hx
          cases e : fields.toList[f]? with
          | none => rw [e] at hx; cases hx
          | some fl => rw [e] at hx; cases hx; exact ⟨fields, fl, j, hu, by simpa using e, hj, h⟩
        · exact h.elim
      · exact h.elim
    · exact h.elim
  · exact h.elim

theorem cond_beq {a b : Nat} {A : Prop} (h : cond (Nat.beq a b) A False) : a = b ∧ A := by
  cases e : Nat.beq a b with
  | false => rw [e] at h; exact h.elim
  | true => rw [e] at h; exact ⟨Nat.eq_of_beq_eq_true e, h⟩

theorem zeroK_ok (hΓ : GOK P Γ) {e : TypeId} {i : TI} (hi : Γ e = some i) {K : PV → Prop} (h : zeroK i K) : ∃ z, K z ∧ z.cells = i.zero := by
  unfold zeroK at h
  split at h
  · exact ⟨_, h, rfl⟩
  · split at h
    · rename_i z hz
      exact ⟨z, h, by rw [hz, PV.cells_one ((hΓ e i hi).plain z (by rw [hz]; simp))]⟩
    · exact h.elim

theorem vec_new {b W len cap : Nat} {w' : World} {FB} (h : len ≤ cap) : VR w' FB (upd β base (some b, cap)) (.vec base W 0 len) (.slice (some ⟨b, 0, none⟩) len cap) := by
  have := VR.vec (w := w') (FB := FB) (β := upd β base (some b, cap)) (h := base) (W := W) (off := 0) (len := len) (b := b) (o := 0) (c := cap) (by rw [upd_same]) (by omega) (by rw [upd_same]; omega) (fun _ => by simp)
  exact this

theorem out_make (hΓ : GOK P Γ) (hW : ∀ x K, W x K → K (rho s x)) (h : StI E n s L a w F β) (hf : ∀ v ups, K v ups → ∀ x ∈ ups, base ≤ x.1.key → FreeAt L x.1.key) {t : TypeId} {l c : Operand}
    (hk : opSem Γ P wr W LK L base (.makeSlice t l c) K) : Out P E n s L a K ((Instr.makeSlice t (a.eval l) (a.eval c)).run P w) := by
  simp only [opSem] at hk
  have hl := h.ev l
  have hc := h.ev c
  have hk := hW c _ (hW l _ hk)
  generalize rho s l = vl at hk hl
  generalize rho s c = vc at hk hc
  generalize a.eval l = al at hl
  generalize a.eval c = ac at hc
  unfold makeK at hk
  split at hk
  · split at hk
    · obtain ⟨e, i, hu, hi, hk⟩ := elemK_ok hΓ hk
      obtain ⟨z, hk, hz⟩ := zeroK_ok hΓ hi hk
      obtain ⟨m', hm', hlt, j, hj, hb, hb2, hK⟩ := hk
      obtain rfl := hl.intOf
      obtain rfl := hc.intOf
      subst hm'
      subst hj
      obtain rfl : _ = ((j : Nat) : Int) := Int.sub_eq_zero.1 (Int.natAbs_eq_zero.1 (Nat.lt_one_iff.1 hlt))
      obtain ⟨info, zv, g1, g2, g3, g4, g5⟩ := info_of hΓ hi
      obtain ⟨zv', h1, h2, h3, h4⟩ := zero_run hΓ hi
      have hzz : zv' = zv := by
        have := h1 w
        simp [zeroValue, typeInfo, g1, g4] at this
        exact this.symm
      subst hzz
      have hb' : ((info.bytes : Int) * (j : Int)) ≤ 281474976710656 := by
        rw [g3, Int.mul_comm]
        have : ((j * i.bytes : Nat) : Int) ≤ 140737488355328 := Int.ofNat_le.2 hb
        rw [Int.natCast_mul] at this
        omega
      have hr := fun k1 k2 => run_make (P := P) w t e info zv' hu g1 g4 k1 k2 (j : Int) (j : Int) (by omega) (Int.le_refl _) hb' (by omega)
      rw [hr]
      simp only [Int.toNat_natCast]
      have vecs : K (.vec base i.size 0 j) [(base, .vec e i.size (List.replicate j z))] → Out P E n s L a K (.ok (.slice (some ⟨w.heap.size, 0, none⟩) j j) (w.alloc (.cells (madeCells zv'.cells (j * info.size)) e))) := by
        intro hK'
        have hfree : L base = .free := (hf _ _ hK' (base, .vec e i.size (List.replicate j z)) (by simp) (Nat.le_refl _)).1
        have hzl : z.cells.length = i.size := by rw [hz]; exact (hΓ e i hi).info.choose_spec.choose_spec.2.2.2.2.2.1
        refine .new h _ e (.vec e i.size (List.replicate j z)) base j hK' hfree ⟨fun e' he' => ?_, by simp [upd_same], .inr ⟨w.heap.size, _, by rw [upd_same], push_new w _, by rw [upd_same, size_madeCells, g2], fun i' e' o c v e1 e2 e3 => h.pr_alloc _ ?_⟩⟩ trivial (fun j hj => hj.elim) (vec_new (Nat.le_refl _)) (fun k hk => .inl hk.symm)
        · rw [List.eq_of_mem_replicate he']; exact ⟨hzl, fun c hc => (hΓ e i hi).plain c (by rw [← hz]; exact hc)⟩
        · have he' : e' = z := List.eq_of_mem_replicate (List.mem_of_getElem? e1)
          subst he'
          have ho : o < i.size := by rw [← hzl]; exact (List.getElem?_eq_some_iff.1 e2).1
          have hi' : i' < j := by simpa using (List.getElem?_eq_some_iff.1 e1).1
          have hlt : i' * i.size + o < j * info.size := by
            rw [g2]
            have : (i' + 1) * i.size ≤ j * i.size := Nat.mul_le_mul_right _ (by omega)
            rw [Nat.add_mul] at this; omega
          have hmod : (i' * i.size + o) % i.size = o := by rw [Nat.mul_comm, Nat.mul_add_mod, Nat.mod_eq_of_lt ho]
          have e4 : v = zv'.cells[o]! := by
            simp only [madeCells, Array.getElem?_map, Array.getElem?_range, hlt, if_true, Option.map_some, Option.some.injEq] at e3
            rw [← e3, h2, hmod]
          rw [hz] at e2
          exact h4 w _ o c v e2 (by rw [e4]; simp [h2, ho])
      revert hK
      cases hrow : i.isRow with
      | false => exact fun hK => vecs hK
      | true =>
        intro hK
        cases hK with
        | vec hK => exact vecs hK
        | rows hK =>
          have hfree : L base = .free := (hf _ _ hK (base, .rows e (List.replicate j .emp)) (by simp) (Nat.le_refl _)).1
          have hsz1 : i.size = 1 := by
            unfold TI.isRow at hrow
            split at hrow
            · exact Nat.eq_of_beq_eq_true hrow
            · cases hrow
          have hzv : zv' = .slice none 0 0 := by
            unfold TI.isRow at hrow
            split at hrow
            · rename_i e' hd; exact (hΓ e i hi).zrow info zv' e' g1 g4 hd
            · cases hrow
          refine .new h _ e (.rows e (List.replicate j .emp)) base j hK hfree ⟨fun c hc => by rw [List.eq_of_mem_replicate hc]; rfl, by simp [upd_same], .inr ⟨w.heap.size, _, by rw [upd_same], push_new w _, by rw [upd_same, size_madeCells, g2, hsz1, Nat.mul_one], fun q c v e1 e2 => ?_⟩⟩ trivial (fun q hq => ?_) (vec_new (Nat.le_refl _)) (fun k hk => .inl hk.symm)
          · have hc : c = .emp := List.eq_of_mem_replicate (List.mem_of_getElem? e1)
            subst hc
            have hlt : q < j * info.size := by rw [g2, hsz1, Nat.mul_one]; simpa using (List.getElem?_eq_some_iff.1 e1).1
            simp only [madeCells, Array.getElem?_map, Array.getElem?_range, hlt, if_true, Option.map_some, Option.some.injEq] at e2
            rw [← e2, hzv]
            show VR _ _ _ .emp ((#[Value.slice none 0 0])[q % 1]!)
            rw [Nat.mod_one]
            exact .empn
          · exfalso
            have : ∀ m, AV.menL (List.replicate m AV.emp) q → False := by
              intro m
              induction m with
              | zero => intro h; simp only [List.replicate, AV.menL] at h
              | succ m ih => intro h; simp only [List.replicate, AV.menL, AV.men, false_or] at h; exact ih h
            exact this j hq
    · exact hk.elim
  · exact hk.elim

theorem PR.take {w FB} {m : Bool} {W : Nat} {es : List PV} {b off cap : Nat} {l h : Nat} (hp : PR w FB (.sl m W es) (.slice (some ⟨b, off, none⟩) es.length cap)) (h1 : l ≤ h) (h2 : h ≤ es.length) (off' cap' : Nat)
    (ho : l < h → off' = off + l * W) (hc : h - l ≤ cap') : PR w FB (.sl m W ((es.take h).drop l)) (.slice (some ⟨b, off', none⟩) (h - l) cap') := by
  have hlen : ((es.take h).drop l).length = h - l := by simp; omega
  cases hp with
  | nil =>
    have h2 : h ≤ 0 := h2
    have e1 : h = 0 := by omega
    have e2 : l = 0 := by omega
    subst e1; subst e2
    exact PR.sl m W [] b off' cap' (fun _ _ => Go.undef) (Nat.zero_le _) (fun h => absurd rfl h) (by simp) (by simp) (by simp) (by simp)
  | sl _ _ _ _ _ _ vals hcap hb hW hone hv hr =>
    have := PR.sl m W ((es.take h).drop l) b off' cap' (fun i j => vals (l + i) j) (w := w) (FB := FB) (by rw [hlen]; exact hc) (fun hne => hb (by intro e; rw [e] at hne; simp at hne))
      (fun e he => hW e (List.mem_of_mem_take (List.mem_of_mem_drop he))) (fun e he => hone e (List.mem_of_mem_take (List.mem_of_mem_drop he))) (fun i e j c e1 e2 => ?_) (fun i e j c e1 e2 => ?_)
    · rw [hlen] at this; exact this
    · have hi : i < h - l := by rw [← hlen]; exact (List.getElem?_eq_some_iff.1 e1).1
      rw [List.getElem?_drop, List.getElem?_take_of_lt (by omega)] at e1
      rw [ho (by omega), show off + l * W + i * W + j = off + (l + i) * W + j by rw [Nat.add_mul]; omega]
      exact hv (l + i) e j c e1 e2
    · have hi : i < h - l := by rw [← hlen]; exact (List.getElem?_eq_some_iff.1 e1).1
      rw [List.getElem?_drop, List.getElem?_take_of_lt (by omega)] at e1
      exact hr (l + i) e j c e1 e2

theorem optK_ok (hW : ∀ x K, W x K → K (rho s x)) (h : StI E n s L a w F β) {x : Option Operand} {d : Int} {K : Int → Prop} (hk : optK W x d K) :
    (x = none ∧ K d) ∨ ∃ y k i, x = some y ∧ a.eval y = .int k i ∧ K i := by
  unfold optK at hk
  split at hk
  · exact .inl ⟨rfl, hk⟩
  · rename_i y
    have hy := h.ev y
    have hk := hW y _ hk
    generalize rho s y = vy at hk hy
    split at hk
    · cases hy with | p hy => generalize hay : a.eval y = ay at hy
                              cases hy
                              exact .inr ⟨y, _, _, rfl, hay, hk⟩
    · exact hk.elim

/-- The bounds of a cut, where all is well. -/
theorem run_bounds (low high mx : Option Value) (len cap l h : Nat) (hl : low = none ∧ l = 0 ∨ ∃ k, low = some (.int k (l : Int))) (hh : high = none ∧ h = len ∨ ∃ k, high = some (.int k (h : Int)))
    (hm : mx = none ∨ (∃ k, mx = some (.int k (h : Int))) ∧ high.isSome) (h1 : l ≤ h) (h2 : h ≤ len) (h3 : len ≤ cap) :
    (Instr.sliceBounds true len cap low high mx).run P w = .ok (l, h, if mx.isSome then h else cap) w := by
  have b : ∀ (k : IntKind) (i y : Nat) c, i ≤ y → (Instr.sliceBound (.int k (i : Int)) y c).run P w = .ok i w := by
    intro k i y c hi
    simp [Instr.sliceBound, asIntOf, hi]
  rcases hm with rfl | ⟨⟨k, rfl⟩, hs⟩
  · rcases hh with ⟨rfl, rfl⟩ | ⟨k', rfl⟩ <;> rcases hl with ⟨rfl, rfl⟩ | ⟨k'', rfl⟩
    · simp [Instr.sliceBounds]
    · simp [Instr.sliceBounds, b _ _ _ _ h1]
    · simp [Instr.sliceBounds, b _ _ _ _ (Nat.le_trans h2 h3)]
    · simp [Instr.sliceBounds, b _ _ _ _ (Nat.le_trans h2 h3), b _ _ _ _ h1]
  · rcases hh with ⟨rfl, rfl⟩ | ⟨k', rfl⟩
    · cases hs
    · rcases hl with ⟨rfl, rfl⟩ | ⟨k'', rfl⟩
      · simp [Instr.sliceBounds, b _ _ _ _ (Nat.le_trans h2 h3), b _ _ _ _ (Nat.le_refl h)]
      · simp [Instr.sliceBounds, b _ _ _ _ (Nat.le_trans h2 h3), b _ _ _ _ (Nat.le_refl h), b _ _ _ _ h1]
end
end Go.Proofs.Ytkaooejeljdbnaa
