/- Cert: what the walks share. -/
import Derived.Test.YtkaooejeljdbnaaRr
namespace Go.Proofs.Ytkaooejeljdbnaa
open Go
set_option linter.unusedVariables false
set_option linter.unusedSimpArgs false
set_option maxRecDepth 10000

theorem nl_one : nl 1 = [1] := by rw [nl_pos (by omega), show 1 / 4294967296 = 0 by decide, nl_zero]
theorem frz1 {H : Hp} {h : Nat} {T : TypeId} (hB : look H h = .vec T 1 [.int .u32 1]) : Conv [] H (.vec h 1 0 1) (.p (natP 1)) := by
  show Conv _ _ _ (.p (.sl false 1 (limbs (nl 1))))
  rw [nl_one]
  exact frz0 (l := [1]) hB rfl
def lst (N : Nat) (g : Nat → Rat) : List Rat := (List.range N).map g
theorem lst_length {N : Nat} {g : Nat → Rat} : (lst N g).length = N := by simp [lst]
theorem lst_getD {N : Nat} {g : Nat → Rat} {i : Nat} (h : i < N) : (lst N g).getD i 0 = g i := by simp [lst, List.getD, h]
theorem lst_set {N : Nat} {g : Nat → Rat} {i : Nat} {q : Rat} : (lst N g).set i q = lst N (upd g i q) := by
  apply List.ext_getElem (by simp [lst])
  intro k h1 h2
  simp only [List.getElem_set, lst, List.getElem_map, List.getElem_range, upd]
  by_cases e : i = k
  · rw [if_pos e, if_pos e.symm]
  · rw [if_neg e, if_neg (Ne.symm e)]
theorem lst_of (l : List Rat) : l = lst l.length (fun i => l.getD i 0) := by
  apply List.ext_getElem (by simp [lst])
  intro k h1 h2
  simp [lst, List.getD, h1]
theorem lst_congr {N : Nat} {g h : Nat → Rat} (e : ∀ i, i < N → g i = h i) : lst N g = lst N h := List.map_congr_left fun i hi => e i (by simpa using hi)
theorem lst_inj {N : Nat} {g h : Nat → Rat} (e : lst N g = lst N h) {i : Nat} (hi : i < N) : g i = h i := by
  have := congrArg (fun l => l.getD i 0) e
  simpa only [lst_getD hi] using this
theorem Bl.lst {N : Nat} {g : Nat → Rat} {k : Nat} (h : ∀ i, i < N → Bz (g i) k) : Bl (lst N g) k := fun i hi => by
  rw [lst_length] at hi
  rw [lst_getD hi]; exact h i hi
theorem SIdx.rf {N : Nat} {g : Nat → Rat} {i : Int} {K : Nat → PV → Prop} (j : Nat) (hi : i = j) (hj : j < N) (hk : K j (ratP (g j))) : SIdx (rats (lst N g)) i K := by
  refine .rb j hi (by rw [lst_length]; exact hj) ?_
  rw [lst_getD hj]; exact hk
theorem SEs.rf {N : Nat} {g : Nat → Rat} {i : Nat} {q : Rat} {K : List PV → Prop} (hk : K (rats (lst N (upd g i q)))) : SEs ((rats (lst N g)).set i (ratP q)) K :=
  .mk _ (by rw [← lst_set, rats, rats, List.map_set]) hk
theorem SLt.rf {N : Nat} {g : Nat → Rat} {i : Nat} {K : Prop} (h : i < N) (hk : K) : SLt i (rats (lst N g)).length K := .mk (by simpa [lst] using h) hk
theorem SView.rf {N : Nat} {g : Nat → Rat} {K : List PV → Prop} (hk : K (rats (lst N g))) : SView (rats (lst N g)) 0 N K := .all (by simp [lst]) hk
theorem frzR {H : Hp} {h : Nat} {l : List Rat} {T : TypeId} {n : Nat} (hB : look H h = .vec T 3 (rats l)) (hn : n = l.length) : Conv [] H (.vec h 3 0 n) (.p (ratsM false l)) :=
  .frz hB (by simp) (by simp [hn]) (pers_rats l) (by rw [List.drop_zero]; exact List.take_of_length_le (by simp [hn]))
theorem SMake.rat {n : Int} {K : Nat → Prop} (j : Nat) (hi : n = j) (h : j ≤ 1099511627776) (hk : K j) : SMake n 56 K := .mk j hi (by omega) (by omega) hk
abbrev rat0 : PV := .agg [.bool false, .sl false 1 [], .sl false 1 []]
theorem fill_set {α : Type} (l : List α) (z v : α) {n i : Nat} (hi : i < n) (hl : l.length = i) : (l ++ List.replicate (n - i) z).set i v = (l ++ [v]) ++ List.replicate (n - (i + 1)) z := by
  subst hl
  rw [List.set_append_right _ _ (Nat.le_refl _), Nat.sub_self]
  obtain ⟨d, hd⟩ : ∃ d, n - l.length = d + 1 := ⟨n - l.length - 1, by omega⟩
  rw [hd, List.replicate_succ, List.set_cons_zero, show n - (l.length + 1) = d by omega, List.append_assoc]
  rfl
theorem take_snoc (l : List Rat) {i : Nat} (h : i < l.length) : l.take (i + 1) = l.take i ++ [l.getD i 0] := by
  rw [List.take_add_one]; simp [List.getD, List.getElem?_eq_getElem h]
theorem bz_zero : Bz 0 1 := ⟨by decide, by decide⟩
theorem bz_one : Bz 1 1 := ⟨by decide, by decide⟩

def rowG (ns : List Int) (i : Nat) : Rat := smallQ (if i < ns.length then ns.getD i 0 else 3 * i + 1)
theorem rowG_bz (ns : List Int) (i : Nat) : Bz (rowG ns i) 5 := smallQ_bz _
theorem lst_snoc {i : Nat} {g : Nat → Rat} : lst i g ++ [g i] = lst (i + 1) g := by rw [lst, lst, List.range_succ, List.map_append]; rfl
theorem row2_ok (m : Bool) (ns : List Int) (hns : I64s ns) (n : Nat) (hn : n ≤ 1000000) : CallP Try.prog 19 [.sl m 1 (intsP ns), .int .i64 n] (.p (ratsM false (lst n (rowG ns)))) [] := by
  refine callG_of_vc (wr := wr0) Γok mixed Try.func19 (by kernel_rfl) rfl (by kernel_rfl) (le_of_ble rfl) (by simp) ?_
  refine SLoop.mkT Nat (fun i => ([(0, .p (.sl m 1 (intsP ns))), (1, .p (.int .i64 n)), (5, .vec 0 3 0 i), (6, .p (.int .i64 i))], [.vec 37 3 (rats (lst i (rowG ns)))])) (fun i => i ≤ n) (fun i => n - i) 0 [0] _ _ (.step 5 37 3 rfl (.done _ _)) (Nat.zero_le _)
    ⟨rfl, by simp, rfl, rfl, rfl, ⟨rfl, rfl, rfl, rfl, trivial⟩, ⟨rfl, trivial⟩⟩ ?_
  intro i h1
  have h1 : i ≤ n := h1
  by_cases hi : i < n
  · refine SCmp.yes (decide_eq_true (by omega)) ?_
    refine SWrap.i64z ((3 * i : Nat) : Int) (by omega) (by omega) ?_
    refine SWrap.i64z ((3 * i + 1 : Nat) : Int) (by omega) (by omega) ?_
    refine SZ.mk (ns.length : Int) (by simp) ?_
    have next : ∀ q, q = rowG ns i → (rats (lst i (rowG ns)) ++ [ratP q]) = rats (lst (i + 1) (rowG ns)) := fun q hq => by rw [hq, ← lst_snoc, rats, rats, List.map_append]; rfl
    by_cases hs : i < ns.length
    · refine SCmp.yes (decide_eq_true (by omega)) ?_
      refine SIdx.ib i rfl hs ?_
      refine SCall.pure (small2_ok (ns.getD i 0) (hns i)) ?_
      refine SEqN.mk (by simp [lst]) ?_
      refine SView.all rfl ?_
      refine SRoom.mk (by simp [lst]; omega) (by simp [lst]; omega) ?_
      refine SEs.mk _ (next _ (by rw [rowG, if_pos hs])) ?_
      refine SZN.mk (i + 1) (by simp [lst]) ?_
      refine SWrap.i64z ((i + 1 : Nat) : Int) (by omega) (by omega) ?_
      exact ⟨i + 1, [2], hi, by show n - (i + 1) < n - i; omega, ⟨rfl, by simp, rfl, rfl, rfl, ⟨rfl, rfl, rfl, rfl, trivial⟩, ⟨rfl, trivial⟩⟩⟩
    · refine SCmp.no (decide_eq_false (by omega)) ?_
      refine SCall.pure (small2_ok ((3 * i + 1 : Nat) : Int) (by omega)) ?_
      refine SEqN.mk (by simp [lst]) ?_
      refine SView.all rfl ?_
      refine SRoom.mk (by simp [lst]; omega) (by simp [lst]; omega) ?_
      refine SEs.mk _ (next _ (by rw [rowG, if_neg hs]; rfl)) ?_
      refine SZN.mk (i + 1) (by simp [lst]) ?_
      refine SWrap.i64z ((i + 1 : Nat) : Int) (by omega) (by omega) ?_
      exact ⟨i + 1, [2], hi, by show n - (i + 1) < n - i; omega, ⟨rfl, by simp, rfl, rfl, rfl, ⟨rfl, rfl, rfl, rfl, trivial⟩, ⟨rfl, trivial⟩⟩⟩
  · refine SCmp.no (decide_eq_false (by omega)) ?_
    have : i = n := by omega
    subst this
    exact SRet.pure (frzR rfl (by rw [lst_length]))

theorem vabs_ok (q : Rat) {k : Nat} (h : Bz q k) (hk : k ≤ 1099511627776) : CallP Try.prog 93 [ratP q] (.p (ratP q.abs)) [] := by
  have := abs_ok q (h.nn hk) (h.nd hk)
  rwa [absP] at this

theorem cmpQ_pos {p q : Rat} : (0 < cmpQ p q) ↔ q < p := by
  unfold cmpQ
  split
  · rename_i h; constructor
    · intro h; omega
    · intro h2; grind
  · rename_i h
    split
    · rename_i e; constructor
      · intro h; omega
      · intro h2; grind
    · rename_i e
      constructor
      · intro _; grind
      · intro _; omega
theorem cmpQ_neg {p q : Rat} : (cmpQ p q < 0) ↔ p < q := by
  unfold cmpQ
  split
  · rename_i h; simp [h]
  · rename_i h
    split
    · constructor
      · intro h; omega
      · intro h2; grind
    · constructor
      · intro h; omega
      · intro h2; grind
end Go.Proofs.Ytkaooejeljdbnaa
