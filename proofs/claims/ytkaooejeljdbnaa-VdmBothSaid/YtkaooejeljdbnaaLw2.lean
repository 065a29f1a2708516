/- The statements' own parts: known, apart; the document's value of a polynomial. -/
import Derived.Test.YtkaooejeljdbnaaLw1
import Derived.Test.YtkaooejeljdbnaaPm2
namespace Go.Proofs.Ytkaooejeljdbnaa
open Go
set_option linter.unusedVariables false
set_option linter.unusedSimpArgs false
set_option maxRecDepth 10000

theorem apart14_ok (m : Bool) (l : List Rat) {k : Nat} (hl : Bl l k) (hk : k + k ≤ 1048576) (hn : l.length ≤ 1099511627776) : CallP Try.prog 23 [ratsM m l] (.p (.bool (decide l.Nodup))) [] := by
  refine callG_of_vc (wr := wr0) Γok mixed Try.func23 (by kernel_rfl) rfl (by kernel_rfl) (le_of_ble rfl) (by simp) ?_
  refine SLoop.mk Nat (fun i => ([(0, .p (ratsM m l)), (3, .p (.int .i64 i))], [])) (fun i => i ≤ l.length ∧ (l.take i).Nodup) (fun i => l.length - i) 0 []
    ⟨Nat.zero_le _, List.nodup_nil⟩ ⟨rfl, .nil, rfl, rfl, rfl, ⟨rfl, rfl, trivial⟩, trivial⟩ ?_
  intro i ⟨h1, h2⟩
  refine SZ.mk (l.length : Int) (by simp) ?_
  by_cases hi : i < l.length
  · refine SCmp.yes (decide_eq_true (by omega)) ?_
    refine SLoop.mk Nat (fun j => ([(0, .p (ratsM m l)), (3, .p (.int .i64 i)), (4, .p (.int .i64 j))], [])) (fun j => j ≤ i ∧ ∀ q, q < j → l.getD i 0 ≠ l.getD q 0) (fun j => i - j) 0 []
      ⟨Nat.zero_le _, fun q hq => absurd hq (Nat.not_lt_zero _)⟩ ⟨rfl, .nil, rfl, rfl, rfl, ⟨rfl, rfl, rfl, trivial⟩, trivial⟩ ?_
    intro j ⟨g1, g2⟩
    by_cases hj : j < i
    · refine SCmp.yes (decide_eq_true (by omega)) ?_
      refine SDraw.mk (by kernel_rfl) ?_
      repeat refine SOp.mk _ _ (And.intro rfl rfl) rfl ?_
      refine SOp.mk _ _ (SIdx.rb i rfl hi (And.intro rfl rfl)) rfl ?_
      repeat refine SOp.mk _ _ (And.intro rfl rfl) rfl ?_
      refine SOp.mk _ _ (SIdx.rb j rfl (by omega) (And.intro rfl rfl)) rfl ?_
      repeat refine SOp.mk _ _ (And.intro rfl rfl) rfl ?_
      refine SOp.mk _ _ (SCall.pure (rsame_ok _ _ (hl i hi) (hl j (by omega)) hk) (And.intro rfl rfl)) rfl ?_
      refine SCond.mk (fun hb => ?_) (fun hb => ?_)
      · have hb := of_decide_eq_true hb
        rw [decide_eq_false (show ¬ l.Nodup from fun hnd => by have := nodup_inj hnd hi (by omega) hb; omega)]
        exact SRet.pure (.tf _)
      · have hb := of_decide_eq_false hb
        refine SWrap.i64z ((j + 1 : Nat) : Int) (by omega) (by omega) ?_
        refine ⟨j + 1, [], ⟨hj, fun q hq => ?_⟩, by show i - (j + 1) < i - j; omega, ⟨rfl, .nil, rfl, rfl, rfl, ⟨rfl, rfl, rfl, trivial⟩, trivial⟩⟩
        by_cases e : q = j
        · rw [e]; exact hb
        · exact g2 q (by omega)
    · refine SCmp.no (decide_eq_false (by omega)) ?_
      refine SWrap.i64z ((i + 1 : Nat) : Int) (by omega) (by omega) ?_
      refine ⟨i + 1, [], ⟨hi, ?_⟩, by show l.length - (i + 1) < l.length - i; omega, ⟨rfl, .nil, rfl, rfl, rfl, ⟨rfl, rfl, trivial⟩, trivial⟩⟩
      rw [take_snoc l hi, List.nodup_append]
      refine ⟨h2, by simp, fun a ha b hb => ?_⟩
      have hb : b = l.getD i 0 := by simpa using hb
      rw [hb]
      obtain ⟨q, hq⟩ := List.getElem?_of_mem ha
      have hql : q < i := by
        have := (List.getElem?_eq_some_iff.1 hq).1
        simp at this; omega
      have : a = l.getD q 0 := by
        rw [List.getElem?_take_of_lt hql] at hq
        simp [List.getD, hq]
      rw [this]
      exact fun e => g2 q (by omega) e.symm
  · refine SCmp.no (decide_eq_false (by omega)) ?_
    rw [List.take_of_length_le (by omega)] at h2
    rw [decide_eq_true h2]
    exact SRet.pure (.tf _)

theorem thrL_length {x f : List Rat} : (thrL x f).length = x.length := lst_length
theorem bl1 {q : Rat} {k : Nat} (h : Bz q k) : Bl [q] k := fun i hi => by
  have : i = 0 := by simpa using hi
  subst this; exact h
theorem known14_ok : CallP Try.prog 16 [] (.p (.bool true)) [] := by
  refine callG_of_vc (wr := wr0) Γok mixed Try.func16 (by kernel_rfl) rfl (by kernel_rfl) (le_of_ble rfl) (by simp) ?_
  have b5 : Bz ((5 : Int) : Rat) 4 := int_bz (by decide) (by omega)
  have b7 : Bz ((7 : Int) : Rat) 4 := int_bz (by decide) (by omega)
  have b9 : Bz ((9 : Int) : Rat) 4 := int_bz (by decide) (by omega)
  refine SCall.pure (rint_ok 5 (by omega)) ?_
  refine SCall.pure (rint_ok 7 (by omega)) ?_
  refine SView.all rfl ?_
  refine SView.all rfl ?_
  have hT := Through_ok true true [((5 : Int) : Rat)] [((7 : Int) : Rat)] (s := 4) (b := 4) (bl1 b5) (bl1 b7) (by omega) (by decide) (by simp)
  rw [if_pos (by simp [rightZ])] at hT
  have e : thrL [((5 : Int) : Rat)] [((7 : Int) : Rat)] = [((7 : Int) : Rat)] := rfl
  rw [e] at hT
  refine SCall.pureT (pvs := [ratsM true [((5 : Int) : Rat)], ratsM true [((7 : Int) : Rat)]]) hT (fun _ => rfl) ?_
  refine SCmp.yes (rfl) ?_
  refine SCall.pure (rint_ok 7 (by omega)) ?_
  refine SView.all rfl ?_
  have hR := rrows_ok false true [((7 : Int) : Rat)] [((7 : Int) : Rat)] (bl1 b7) (bl1 b7) (by omega) (by simp)
  rw [decide_eq_true rfl] at hR
  refine SCall.pure (pvs := [ratsM false [((7 : Int) : Rat)], ratsM true [((7 : Int) : Rat)]]) hR ?_
  refine SCond.mk (fun _ => ?_) (fun h => by cases h)
  refine SCall.pure (rint_ok 9 (by omega)) ?_
  refine SCall.pure (vat_ok false [((7 : Int) : Rat)] ((9 : Int) : Rat) (bl1 b7) b9 (by simp) (by simp)) ?_
  refine SCall.pure (rint_ok 7 (by omega)) ?_
  have e2 : hor ((9 : Int) : Rat) [((7 : Int) : Rat)] = ((7 : Int) : Rat) := by
    show (0 : Rat) * ((9 : Int) : Rat) + ((7 : Int) : Rat) = _
    grind
  rw [e2]
  have hS := rsame_ok ((7 : Int) : Rat) ((7 : Int) : Rat) b7 b7 (by omega)
  rw [decide_eq_true rfl] at hS
  refine SCall.pure (hS) ?_
  exact SRet.pure (.p _ (.bool _))
end Go.Proofs.Ytkaooejeljdbnaa
