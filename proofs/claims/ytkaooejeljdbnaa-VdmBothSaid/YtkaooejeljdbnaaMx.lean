/- Matrices: rows of the call's own, in a pool. -/
import Derived.Test.YtkaooejeljdbnaaVw1
namespace Go.Proofs.Ytkaooejeljdbnaa
open Go
set_option linter.unusedVariables false
set_option linter.unusedSimpArgs false
set_option maxRecDepth 10000

/-! #### lists told by a function -/
def fl {α : Type} (n : Nat) (f : Nat → α) : List α := (List.range n).map f
@[simp] theorem fl_length {α : Type} {n : Nat} {f : Nat → α} : (fl n f).length = n := by simp [fl]
theorem fl_get {α : Type} {n : Nat} {f : Nat → α} {i : Nat} (h : i < n) : (fl n f)[i]? = some (f i) := by simp [fl, h]
theorem fl_get_iff {α : Type} {n : Nat} {f : Nat → α} {i : Nat} {v : α} : (fl n f)[i]? = some v ↔ i < n ∧ f i = v := by
  constructor
  · intro h
    have hi : i < n := by have := (List.getElem?_eq_some_iff.1 h).1; simpa using this
    rw [fl_get hi] at h
    exact ⟨hi, by simpa using h⟩
  · rintro ⟨hi, rfl⟩; exact fl_get hi
theorem fl_set {α : Type} {n : Nat} {f : Nat → α} {i : Nat} {v : α} : (fl n f).set i v = fl n (upd f i v) := by
  apply List.ext_getElem (by simp)
  intro k h1 h2
  simp only [List.getElem_set, fl, List.getElem_map, List.getElem_range, upd]
  by_cases e : i = k
  · rw [if_pos e, if_pos e.symm]
  · rw [if_neg e, if_neg (Ne.symm e)]
theorem fl_snoc {α : Type} {n : Nat} {f : Nat → α} : fl (n + 1) f = fl n f ++ [f n] := by simp [fl, List.range_succ]
theorem fl_zero {α : Type} {f : Nat → α} : fl 0 f = [] := rfl
theorem fl_congr {α : Type} {n : Nat} {f g : Nat → α} (h : ∀ i, i < n → f i = g i) : fl n f = fl n g := List.map_congr_left fun i hi => h i (by simpa using hi)
theorem fl_map {α β : Type} {n : Nat} {f : Nat → α} {g : α → β} : (fl n f).map g = fl n fun i => g (f i) := by simp [fl]
theorem fl_mem {α : Type} {n : Nat} {f : Nat → α} {x : α} (h : x ∈ fl n f) : ∃ i, i < n ∧ f i = x := by
  simp only [fl, List.mem_map, List.mem_range] at h; exact h
theorem lst_fl {n : Nat} {g : Nat → Rat} : lst n g = fl n g := rfl

theorem app_lst (k : Nat) (f : Nat → Rat) (q : Rat) (h : q = f k) : rats (lst k f) ++ [ratP q] = rats (lst (k + 1) f) := by
  subst h; rw [rats, rats, lst, lst, List.range_succ, List.map_append, List.map_append]; rfl
theorem one_lst (f : Nat → Rat) (q : Rat) (h : q = f 0) : [ratP q] = rats (lst 1 f) := app_lst 0 f q h
/-! #### a matrix that is read alone -/
abbrev matP (m m' : Bool) (n w : Nat) (A : Nat → Nat → Rat) : PV := .sl m 1 (fl n fun i => ratsM m' (lst w (A i)))
theorem SIdx.mf {m' : Bool} {n w : Nat} {A : Nat → Nat → Rat} {i : Int} {K : Nat → PV → Prop} (j : Nat) (hi : i = j) (hj : j < n) (hk : K j (ratsM m' (lst w (A j)))) : SIdx (fl n fun i => ratsM m' (lst w (A i))) i K :=
  .mk j _ hi (fl_get hj) hk
theorem pers_matP {n w : Nat} {A : Nat → Nat → Rat} : Pers (matP false false n w A) :=
  .sl _ _ fun e he c hc => by
    obtain ⟨i, _, rfl⟩ := fl_mem he
    simp only [PV.cells, List.mem_singleton] at hc
    subst hc
    exact .sl _ _ (pers_rats _)
theorem pers_fl {n w : Nat} {A : Nat → Nat → Rat} : ∀ e ∈ fl n (fun i => ratsM false (lst w (A i))), ∀ c ∈ e.cells, Pers c := fun e he c hc => by
  obtain ⟨i, _, rfl⟩ := fl_mem he
  simp only [PV.cells, List.mem_singleton] at hc
  subst hc
  exact .sl _ _ (pers_rats _)

/-! #### the call's own matrix: cells that name a pool's rows -/
abbrev plc (p c n : Nat) (s : Nat → Nat) : List AV := fl n fun i => .vec (.r p (s i)) 3 0 c
abbrev plr (n w : Nat) (G : Nat → Nat → Rat) : List (Option (List PV)) := fl n fun k => some (rats (lst w (G k)))
theorem SIdxA.plc {p c n : Nat} {s : Nat → Nat} {i : Int} {K : AV → Prop} (j : Nat) (hi : i = j) (hj : j < n) (hk : K (.vec (.r p (s j)) 3 0 c)) : SIdxA (plc p c n s) i K := .mk j _ hi (fl_get hj) hk
theorem SRow.plr {n w : Nat} {G : Nat → Nat → Rat} {k : Nat} {K : List PV → Prop} (hk : k < n) (hK : K (rats (lst w (G k)))) : SRow (plr n w G) k K := .mk _ (fl_get hk) hK
theorem SPool.plr {n w : Nat} {G : Nat → Nat → Rat} {k : Nat} {f : Nat → Rat} {K : List (Option (List PV)) → Prop} (hk : k < n) (hK : K (plr n w (upd G k f))) : SPool (plr n w G) k (some (rats (lst w f))) K :=
  .mk _ (by simpa using hk) (by rw [fl_set]; exact fl_congr fun i _ => by unfold upd; split <;> rfl) hK
theorem SLt.plc {p c n i : Nat} {s : Nat → Nat} {K : Prop} (h : i < n) (hk : K) : SLt i (plc p c n s).length K := .mk (by simpa using h) hk
theorem SAs.plc {p c n i k : Nat} {s : Nat → Nat} {K : List AV → Prop} (hk : K (plc p c n (upd s i k))) : SAs ((plc p c n s).set i (.vec (.r p k) 3 0 c)) K :=
  .mk _ (by rw [fl_set]; exact fl_congr fun j _ => by unfold upd; split <;> rfl) hk

theorem renL_fl {ρ : Hd → Hd} {n : Nat} {f : Nat → AV} : AV.renL ρ (fl n f) = fl n fun i => (f i).ren ρ := by rw [AV.renL_eq, fl_map]
/-- The pool takes a row in. -/
theorem plc_absorb {hs : List Nat} {P : Hp} {p p' q c k : Nat} (hp : hs.getD p 0 = p' + 1000 * (q + 1)) (hp' : p' < 1000) (hl : plenAt P p = k + 1) : AV.renL (renW hs P) (plc p c (k + 1) id) = plc p' c k id ++ [.vec (.t q) 3 0 c] := by
  rw [renL_fl, fl_snoc]
  have eb : Nat.blt (hs.getD p 0) 1000 = false := by
    cases hb : Nat.blt (hs.getD p 0) 1000 with
    | false => rfl
    | true => have := blt_iff.1 hb; omega
  have e1 : hs.getD p 0 % 1000 = p' := by omega
  have e2 : hs.getD p 0 / 1000 - 1 = q := by omega
  congr 1
  · refine fl_congr fun i hi => ?_
    have e4 : Nat.blt (i + 1) (k + 1) = true := blt_iff.2 (by omega)
    simp only [AV.ren, renW, eb, hl, id, e4, cond_false, cond_true, e1]
  · have e4 : Nat.blt (k + 1) (k + 1) = false := by
      cases hb : Nat.blt (k + 1) (k + 1) with
      | false => rfl
      | true => have := blt_iff.1 hb; omega
    simp only [AV.ren, renW, eb, hl, id, e4, cond_false, e2]
theorem plc_ren {hs : List Nat} {P : Hp} {p c n : Nat} {s : Nat → Nat} (p' : Nat) (hp : hs.getD p 0 = p') (hp' : p' < 1000) : AV.renL (renW hs P) (plc p c n s) = plc p' c n s := by
  rw [renL_fl]
  refine fl_congr fun i hi => ?_
  have eb : Nat.blt p' 1000 = true := blt_iff.2 hp'
  simp only [AV.ren, renW, hp, eb, cond_true]
theorem plr_snoc {n w : Nat} {G : Nat → Nat → Rat} : plr (n + 1) w G = plr n w G ++ [some (rats (lst w (G n)))] := fl_snoc
theorem rows_in {P : Hp} {p c n : Nat} {s : Nat → Nat} (h : ∀ i, i < n → s i < plenAt P p) : ∀ x ∈ plc p c n s, ∀ h, x.men h → look P h ≠ .free := by
  intro x hx g hg
  obtain ⟨i, hi, rfl⟩ := fl_mem hx
  simp only [AV.men] at hg
  subst hg
  exact look_row (h i hi)
theorem look_pr {H : Hp} {p n w : Nat} {T : TypeId} {G : Nat → Nat → Rat} (hH : H.getD p .free = .pool T 3 (plr n w G)) {k : Nat} (hk : k < n) : look H (.r p k) = .vec T 3 (rats (lst w (G k))) := by
  simp only [look, hH, Blk.row, fl_get hk]
theorem SLendR.plc {H : Hp} {p n N w : Nat} {T : TypeId} {G : Nat → Nat → Rat} {s : Nat → Nat} {K : List PV → Prop} (hH : H.getD p .free = .pool T 3 (plr N w G)) (hs : ∀ i, i < n → s i < N) (hk : K (fl n fun i => ratsM true (lst w (G (s i))))) : SLendR (look H) (plc p w n s) n K :=
  .mk _ (by simp) (by simp) (fun i c q e1 e2 => by
    obtain ⟨hi, rfl⟩ := fl_get_iff.1 e1
    obtain ⟨_, rfl⟩ := fl_get_iff.1 e2
    have := LendR.vec (L := look H) (h := .r p (s i)) (W := 3) (off := 0) (len := w) (look_pr hH (hs i hi)) (by simp [lst])
    rw [List.drop_zero, List.take_of_length_le (by simp [lst])] at this
    exact this) hk
/-- The call's own matrix, as it is answered: read alone from then on. -/
theorem frzM {H : Hp} {h p n N w : Nat} {T T' : TypeId} {G : Nat → Nat → Rat} {s : Nat → Nat} (hB : look H h = .rows T (plc p w n s)) (hH : H.getD p .free = .pool T' 3 (plr N w G)) (hs : ∀ i, i < n → s i < N) : Conv [] H (.vec h 1 0 n) (.p (matP false false n w fun i => G (s i))) := by
  refine Conv.frzR (h := h) hB (by simp) (by simp) (fun d hd => by obtain ⟨i, _, rfl⟩ := fl_mem hd; rfl) (by simp) fun i c d e1 e2 => ?_
  obtain ⟨hi, rfl⟩ := fl_get_iff.1 e1
  obtain ⟨_, rfl⟩ := fl_get_iff.1 e2
  exact .frz (look_pr hH (hs i hi)) (by simp) (by simp [lst]) (pers_rats _) (by rw [List.drop_zero]; exact List.take_of_length_le (by simp [lst]))
end Go.Proofs.Ytkaooejeljdbnaa
