/- A table of types, and what ties it to the program. -/
import Derived.Test.YtkaooejeljdbnaaAb18
namespace Go.Proofs.Ytkaooejeljdbnaa
open Go
set_option linter.unusedVariables false

def zv : PV → Value
  | .int k n => .int k n
  | .bool b => .bool b
  | .raw v => v
  | _ => .slice none 0 0
def zsimple : PV → Bool
  | .int _ _ => true
  | .bool _ => true
  | .raw v => v.oneCell'
  | .sl _ _ [] => true
  | _ => false
def TI.val (i : TI) : Value := match i.d.agg with
  | true => .agg (i.zero.map zv).toArray
  | false => match i.zero with
    | [z] => zv z
    | _ => .bool false
theorem zv_rel {w FB} {z : PV} (h : zsimple z = true) : PR w FB z (zv z) := by
  cases z with
  | int k n => exact .int k n
  | bool b => exact .bool b
  | raw v => exact .raw v h
  | sl m W es =>
    cases es with
    | nil => exact .nil m W _
    | cons _ _ => cases h
  | _ => cases h
theorem zv_one {z : PV} (h : zsimple z = true) : z.one = true := by
  cases z <;> first | rfl | cases h
theorem zv_cells {z : PV} (h : zsimple z = true) : (zv z).cells = #[zv z] := by
  cases z with
  | raw v =>
    have h : v.oneCell' = true := h
    show v.cells = #[v]
    cases v <;> first | rfl | (simp [Value.oneCell'] at h)
  | sl m W es =>
    cases es with
    | nil => rfl
    | cons _ _ => cases h
  | int k n => rfl
  | bool b => rfl
  | _ => cases h

/-- Is a slice's zero value the empty one? -/
def TI.rowZ (i : TI) : Bool :=
  match i.d with
  | .slice _ => match i.zero with
    | [.sl _ _ []] => true
    | _ => false
  | _ => true
theorem tyok_mk {P : Program} {t : TypeId} {i : TI} (hd : TyDesc P t i.d) (hi : (P.info? t).map (fun x => (x.zero, x.size, x.bytes)) = some (some i.val, i.size, i.bytes)) (hs : i.zero.length = i.size) (hz : i.zero.all zsimple = true)
    (hc : (i.d.agg || Nat.beq i.zero.length 1) = true) (he : i.eq = false) (hrw : i.rowZ = true := by rfl) : TyOK P t i := by
  have hzero : ∀ info z, P.info? t = some info → info.zero = some z → z = i.val := fun info z h1 h2 => by
    rw [h1] at hi
    simp only [Option.map_some, Option.some.injEq, Prod.mk.injEq] at hi
    rw [hi.1] at h2
    exact (Option.some.inj h2).symm
  refine ⟨hd, ?_, fun c hc => zv_one (List.all_eq_true.1 hz c hc), (fun h => by rw [he] at h; cases h), (fun h => by rw [he] at h; cases h), fun info z h1 h2 => ?_, fun info z e h1 h2 hde => ?_⟩
  rotate_left
  · rw [hzero info z h1 h2]
    refine ⟨fun ha => ⟨_, by unfold TI.val; rw [ha]⟩, fun ha => ?_⟩
    unfold TI.val
    rw [ha] at hc ⊢
    have hl : i.zero.length = 1 := Nat.eq_of_beq_eq_true (by simpa using hc)
    obtain ⟨z', hz'⟩ := List.length_eq_one_iff.1 hl
    rw [hz'] at hz ⊢
    simp only [List.all_cons, List.all_nil, Bool.and_true] at hz
    exact zv_cells hz
  · rw [hzero info z h1 h2]
    unfold TI.rowZ at hrw
    unfold TI.val
    rw [hde] at hrw ⊢
    simp only [Ty.agg] at hrw ⊢
    split at hrw
    · rename_i e; rw [e]; rfl
    · cases hrw
  cases hp : P.info? t with
  | none => rw [hp] at hi; cases hi
  | some info =>
    rw [hp] at hi
    simp only [Option.map_some, Option.some.injEq, Prod.mk.injEq] at hi
    obtain ⟨h1, h2, h3⟩ := hi
    have key : i.val.cells = (i.zero.map zv).toArray := by
      unfold TI.val
      cases ha : i.d.agg with
      | true => rfl
      | false =>
        rw [ha] at hc
        have hl : i.zero.length = 1 := Nat.eq_of_beq_eq_true (by simpa using hc)
        obtain ⟨z, hz'⟩ := List.length_eq_one_iff.1 hl
        rw [hz'] at hz ⊢
        simp only [List.all_cons, List.all_nil, Bool.and_true] at hz
        simpa using zv_cells hz
    refine ⟨info, i.val, rfl, h2, h3, h1, by rw [key]; simpa using hs, hs, fun w FB j c v e1 e2 => ?_⟩
    rw [key] at e2
    simp only [List.getElem?_toArray, List.getElem?_map, e1, Option.map_some, Option.some.injEq] at e2
    subst e2
    exact zv_rel (List.all_eq_true.1 hz c (List.mem_of_getElem? e1))

def tyGet : List (Nat × TI) → Nat → Option TI
  | [], _ => none
  | (i, x) :: l, t => cond (Nat.beq t i) (some x) (tyGet l t)

def TabOK (P : Program) : List (Nat × TI) → Prop
  | [] => True
  | (t, i) :: l => TyOK P t i ∧ TabOK P l

theorem gok_of_tab {P : Program} {l : List (Nat × TI)} (h : TabOK P l) : GOK P (fun t => tyGet l t) := by
  intro t i hi
  induction l with
  | nil => cases hi
  | cons x l ih =>
    obtain ⟨t', i'⟩ := x
    simp only [tyGet] at hi
    cases e : Nat.beq t t' with
    | false => rw [e] at hi; exact ih h.2 hi
    | true =>
      rw [e] at hi
      have := Nat.eq_of_beq_eq_true e
      subst this
      cases hi
      exact h.1
end Go.Proofs.Ytkaooejeljdbnaa
