/- Polynomials through points: zero, one, over, apart, own, right, At. -/
import Derived.Test.YtkaooejeljdbnaaQa
namespace Go.Proofs.Ytkaooejeljdbnaa
open Go
set_option linter.unusedVariables false
set_option linter.unusedSimpArgs false
set_option maxRecDepth 10000

theorem nl_one : nl 1 = [1] := by rw [nl_pos (by omega), show 1 / 4294967296 = 0 by decide, nl_zero]
theorem frz1 {H : Hp} {h : Nat} {T : TypeId} (hB : look H h = .vec T 1 [.int .u32 1]) : Conv [] H (.vec h 1 0 1) (.p (natP 1)) := by
  show Conv _ _ _ (.p (.sl false 1 (limbs (nl 1))))
  rw [nl_one]
  exact frz0 (l := [1]) hB rfl
theorem vzero_ok : CallP Try.prog 74 [] (.p (ratP 0)) [] := by
  refine callG_of_vc (wr := wr0) Γok mixed Try.func74 (by kernel_rfl) rfl (by kernel_rfl) (le_of_ble rfl) (by simp) ?_
  refine SRet.pure ?_
  rw [ratP_zero]
  exact conv3 ⟨rfl, rfl, rfl⟩ (.p _ (.bool _)) (.p _ (.sl _ _ (fun e he => by simp at he))) (frz1 rfl)
theorem vover_ok (p q : Rat) (hq0 : q ≠ 0) {j k : Nat} (hp : Bz p j) (hq : Bz q k) (h : j + k ≤ 137438953472) : CallP Try.prog 128 [ratP p, ratP q] (.p (ratP (p / q))) [] := by
  refine callG_of_vc (wr := wr0) Γok mixed Try.func128 (by kernel_rfl) rfl (by kernel_rfl) (le_of_ble rfl) (by simp) ?_
  refine SCall.pureT (quo_ok p q hq0 hp.sz hq.sz h) (fun _ => rfl) ?_
  exact SRet.pure (.p _ (pers_rat _ _ _))

/-! #### lists told by a function -/
def lst (N : Nat) (g : Nat → Rat) : List Rat := (List.range N).map g
theorem lst_length {N : Nat} {g : Nat → Rat} : (lst N g).length = N := by simp [lst]
theorem lst_getD {N : Nat} {g : Nat → Rat} {i : Nat} (h : i < N) : (lst N g).getD i 0 = g i := by simp [lst, List.getD, h]
theorem lst_set {N : Nat} {g : Nat → Rat} {i : Nat} {q : Rat} : (lst N g).set i q = lst N (upd g i q) := by
  apply List.ext_getElem (by simp [lst])
  intro k h1 h2
  simp only [List.getElem_set, lst, List.getElem_map, List.getElem_range, upd]
  by_cases e : i = k
  · rw [if_pos e, if_pos e.symm]
  · rw [if_neg e, if_neg (Ne.symm e)]
theorem lst_of (l : List Rat) : l = lst l.length (fun i => l.getD i 0) := by
  apply List.ext_getElem (by simp [lst])
  intro k h1 h2
  simp [lst, List.getD, h1]
theorem lst_congr {N : Nat} {g h : Nat → Rat} (e : ∀ i, i < N → g i = h i) : lst N g = lst N h := List.map_congr_left fun i hi => e i (by simpa using hi)
theorem lst_inj {N : Nat} {g h : Nat → Rat} (e : lst N g = lst N h) {i : Nat} (hi : i < N) : g i = h i := by
  have := congrArg (fun l => l.getD i 0) e
  simpa only [lst_getD hi] using this
theorem Bl.lst {N : Nat} {g : Nat → Rat} {k : Nat} (h : ∀ i, i < N → Bz (g i) k) : Bl (lst N g) k := fun i hi => by
  rw [lst_length] at hi
  rw [lst_getD hi]; exact h i hi
theorem SIdx.rf {N : Nat} {g : Nat → Rat} {i : Int} {K : Nat → PV → Prop} (j : Nat) (hi : i = j) (hj : j < N) (hk : K j (ratP (g j))) : SIdx (rats (lst N g)) i K := by
  refine .rb j hi (by rw [lst_length]; exact hj) ?_
  rw [lst_getD hj]; exact hk
theorem SEs.rf {N : Nat} {g : Nat → Rat} {i : Nat} {q : Rat} {K : List PV → Prop} (hk : K (rats (lst N (upd g i q)))) : SEs ((rats (lst N g)).set i (ratP q)) K :=
  .mk _ (by rw [← lst_set, rats, rats, List.map_set]) hk
theorem SLt.rf {N : Nat} {g : Nat → Rat} {i : Nat} {K : Prop} (h : i < N) (hk : K) : SLt i (rats (lst N g)).length K := .mk (by simpa [lst] using h) hk
theorem SView.rf {N : Nat} {g : Nat → Rat} {K : List PV → Prop} (hk : K (rats (lst N g))) : SView (rats (lst N g)) 0 N K := .all (by simp [lst]) hk
theorem frzR {H : Hp} {h : Nat} {l : List Rat} {T : TypeId} {n : Nat} (hB : look H h = .vec T 3 (rats l)) (hn : n = l.length) : Conv [] H (.vec h 3 0 n) (.p (ratsM false l)) :=
  .frz hB (by simp) (by simp [hn]) (pers_rats l) (by rw [List.drop_zero]; exact List.take_of_length_le (by simp [hn]))
theorem SMake.rat {n : Int} {K : Nat → Prop} (j : Nat) (hi : n = j) (h : j ≤ 1099511627776) (hk : K j) : SMake n 56 K := .mk j hi (by omega) (by omega) hk

/-- A call that makes one block and answers with it. -/
theorem SCall.fresh {P : Program} {wr : Bool} {f : FuncId} {L : Hd → Blk} {base : Nat} {K : AV → List (Hd × Blk) → Prop} {pvs : List PV} {T : TypeId} {W off len : Nat} {es : List PV} (hc : CallP P f pvs (.vec 0 W off len) [.vec T W es])
    (hk : K (.vec base W off len) [(base, .vec T W es)]) : SCall P wr f (pvs.map .p) L base K :=
  .mk [] (pvs.map .p) (.vec 0 W off len) [] [.vec T W es] (fun _ => rfl) .nil (fun _ h => by simp at h) (by rw [AV.renL_eq, List.map_map]; exact List.map_congr_left fun _ _ => rfl) rfl (fun i h B e => by simp at e) (fun _ h => by simp at h) (fun _ h => by simp at h) (Nat.zero_le _) (fun B h => by simp at h; subst h; exact fun e => by cases e)
    (fun a ha k hk => by obtain ⟨v, _, rfl⟩ := List.mem_map.1 ha; simp only [AV.men] at hk) hc hk
/-- What is answered is a new block of the caller's. -/
theorem getD_of_look {H : Hp} {h : Nat} {B : Blk} (hB : look H h = B) (hl : B.live) : H.getD h .free = B := by
  have hB : (H.getD h .free).top = B := hB
  generalize H.getD h .free = C at hB
  cases C <;> first | exact hB | (subst hB; exact hl.elim)
theorem SRet.new {av : AV} {H : Hp} {T : TypeId} {W off len : Nat} {es : List PV} (h : Nat) (hav : av = .vec h W off len) (h0 : look H h = .vec T W es) (hp : ∀ e ∈ es, ∀ c ∈ e.cells, Pers c) : SRet [] av H (.vec 0 W off len) [.vec T W es] :=
  .mk [h] rfl (by simp) rfl (Nat.zero_le _) (fun h hl => by rw [look_nil] at hl; exact hl.elim) (fun h hl => absurd (look_nil h) hl) (fun i h' B e1 e2 => by
    match i, e1, e2 with
    | 0, e1, e2 => cases e1; cases e2; rw [getD_of_look h0 trivial]; exact .vec hp) (by rw [hav]; exact .vec rfl)

theorem vapart_ok (m : Bool) (l : List Rat) (i far : Nat) (hi : i < l.length) (hf : far ≤ i) {k : Nat} (hl : Bl l k) (hk : k + k + 1 ≤ 137438953472) (hn : l.length ≤ 1099511627776) : CallP Try.prog 130 [ratsM m l, .int .i64 i, .int .i64 far] (.p (ratP (l.getD i 0 - l.getD (i - far) 0))) [] := by
  refine callG_of_vc (wr := wr0) Γok mixed Try.func130 (by kernel_rfl) rfl (by kernel_rfl) (le_of_ble rfl) (by simp) ?_
  refine SDraw.mk (by kernel_rfl) ?_
  repeat refine SOp.mk _ _ (And.intro rfl rfl) rfl ?_
  refine SOp.mk _ _ (SIdx.rb i rfl hi (And.intro rfl rfl)) rfl ?_
  repeat refine SOp.mk _ _ (And.intro rfl rfl) rfl ?_
  refine SOp.mk _ _ (SWrap.i64z ((i - far : Nat) : Int) (by omega) (by omega) (And.intro rfl rfl)) rfl ?_
  refine SOp.mk _ _ (SIdx.rb (i - far) rfl (by omega) (And.intro rfl rfl)) rfl ?_
  repeat refine SOp.mk _ _ (And.intro rfl rfl) rfl ?_
  refine SOp.mk _ _ (SCall.pure (ratsub_ok _ _ (hl i hi).sz (hl (i - far) (by omega)).sz hk) (And.intro rfl rfl)) rfl ?_
  repeat refine SOp.mk _ _ (And.intro rfl rfl) rfl ?_
  exact SRet.pure (.p _ (pers_rat _ _ _))

abbrev rat0 : PV := .agg [.bool false, .sl false 1 [], .sl false 1 []]
theorem fill_set {α : Type} (l : List α) (z v : α) {n i : Nat} (hi : i < n) (hl : l.length = i) : (l ++ List.replicate (n - i) z).set i v = (l ++ [v]) ++ List.replicate (n - (i + 1)) z := by
  subst hl
  rw [List.set_append_right _ _ (Nat.le_refl _), Nat.sub_self]
  obtain ⟨d, hd⟩ : ∃ d, n - l.length = d + 1 := ⟨n - l.length - 1, by omega⟩
  rw [hd, List.replicate_succ, List.set_cons_zero, show n - (l.length + 1) = d by omega, List.append_assoc]
  rfl
theorem take_snoc (l : List Rat) {i : Nat} (h : i < l.length) : l.take (i + 1) = l.take i ++ [l.getD i 0] := by
  rw [List.take_add_one]; simp [List.getD, List.getElem?_eq_getElem h]

theorem bz_zero : Bz 0 1 := ⟨by decide, by decide⟩
theorem bz_one : Bz 1 1 := ⟨by decide, by decide⟩
theorem vown_ok (m : Bool) (l : List Rat) {k : Nat} (hl : Bl l k) (hk : k ≤ 1048576) (hn : l.length ≤ 1099511627776) : CallP Try.prog 127 [ratsM m l] (.vec 0 3 0 l.length) [.vec 37 3 (rats l)] := by
  refine callG_of_vc (wr := wr0) Γok mixed Try.func127 (by kernel_rfl) rfl (by kernel_rfl) (le_of_ble rfl) (by simp) ?_
  refine SZ.mk (l.length : Int) (by simp) ?_
  refine SZ.mk (l.length : Int) rfl ?_
  refine SLt.mk (by simp) ?_
  refine SMake.rat l.length rfl hn ?_
  refine SZ.mk (l.length : Int) (by simp) ?_
  refine SLoop.mk Nat (fun i => ([(3, .vec 0 3 0 l.length), (9, .p (ratsM m l)), (10, .p (.int .i64 l.length)), (11, .p (.int .i64 i))], [.vec 37 3 (rats (l.take i) ++ List.replicate (l.length - i) rat0)]))
    (fun i => i ≤ l.length) (fun i => l.length - i) 0 [0] (Nat.zero_le _) ⟨rfl, by simp, rfl, rfl, rfl, ⟨rfl, rfl, rfl, rfl, trivial⟩, ⟨rfl, trivial⟩⟩ ?_
  intro i h1
  have h1 : i ≤ l.length := h1
  by_cases hi : i < l.length
  · refine SCmp.yes (decide_eq_true (by omega)) ?_
    refine SIdx.rb i rfl hi ?_
    refine SDraw.mk (by kernel_rfl) ?_
    repeat refine SOp.mk _ _ (And.intro rfl rfl) rfl ?_
    refine SOp.mk _ _ (SCall.pure (vzero_ok) (And.intro rfl rfl)) rfl ?_
    refine SOp.mk _ _ (SCall.pure (ratadd_ok _ _ (hl i hi).sz bz_zero.sz (by omega)) (And.intro rfl rfl)) rfl ?_
    rw [Rat.add_zero]
    refine SOp.mk _ _ (SPos.mk i rfl hi (And.intro rfl rfl)) rfl ?_
    refine SOp.mk _ _ (SLt.mk (by simp; omega) <| SEs.mk _ (fill_set _ _ _ hi (by simp; omega)) (And.intro rfl rfl)) rfl ?_
    refine SWrap.i64z ((i + 1 : Nat) : Int) (by omega) (by omega) ?_
    refine ⟨i + 1, [0], hi, by show l.length - (i + 1) < l.length - i; omega, ⟨rfl, by simp, rfl, rfl, rfl, ⟨rfl, rfl, rfl, rfl, trivial⟩, ⟨?_, trivial⟩⟩⟩
    show Blk.vec _ _ _ = Blk.vec _ _ _
    rw [take_snoc l hi, rats, rats, List.map_append]
    rfl
  · refine SCmp.no (decide_eq_false (by omega)) ?_
    have : i = l.length := by omega
    subst this
    refine SRet.new 0 rfl ?_ (pers_rats l)
    simp [look]
end Go.Proofs.Ytkaooejeljdbnaa
