/- Each operation does to the machine what 'opSem' says (ninth part): the other built-in functions. -/
import Derived.Test.YtkaooejeljdbnaaAb10
namespace Go.Proofs.Ytkaooejeljdbnaa
open Go
set_option linter.unusedVariables false
set_option linter.unusedSimpArgs false

section
variable {P : Program} {Γ : Tab} {E : Env} {n : Nat} {s : Nat → AV} {L : Hd → Blk} {a : Act} {w : World} {F : Nat → Prop} {β : Hd → Option Nat × Nat} {K : AV → List (Hd × Blk) → Prop}
  {W : Operand → (AV → Prop) → Prop} {LK : Hd → (Blk → Prop) → Prop} {wr : FuncId → Bool} {base : Nat}

/-- Elements at the begin of a row of the call's own are written. -/
theorem out_front (h : StI E n s L a w F β) {hd : Hd} {T : TypeId} {Wd : Nat} {es ys : List PV} {v : AV} {x : Value} (hB : L hd = .vec T Wd es) (h0 : Wd ≠ 0) {len : Nat} (hlen : len ≤ es.length) {b o : Nat} (hb : (β hd).1 = some b) (ho : len ≠ 0 → o = 0 * Wd)
    (hys : ys.length ≤ len) (hel : ∀ e ∈ ys, e.cells.length = Wd ∧ ∀ c ∈ e.cells, c.one = true) (news : List Value) (hn : news.length = ys.length * Wd) (h1 : ∀ u ∈ news, u.oneCell' = true)
    (hr : ∀ (i : Nat) e (j : Nat) c v, ys[i]? = some e → e.cells[j]? = some c → news[i * Wd + j]? = some v → PR w (FBof E.Bor F) c v) (hk : K v [(hd, .vec T Wd (ys ++ es.drop ys.length))]) (hv : ∀ w' FB β', VR w' FB β' v x) (hm : ∀ k, ¬ v.men k) :
    ∃ w', (storeCells ⟨b, o, none⟩ news).run P w = .ok () w' ∧ Out P E n s L a K (.ok x w') := by
  have hbk := h.blks hd
  rw [hB] at hbk
  obtain ⟨q1, q2, q3⟩ := hbk
  obtain ⟨arr, p1, p2, p3, p4⟩ : ∃ arr, (β hd).1 = some b ∧ w.heap[b]? = some (.cells arr T (0, 0)) ∧ arr.size = (β hd).2 * Wd ∧ ∀ (q : Nat) e (j : Nat) c v, es[q]? = some e → e.cells[j]? = some c → arr[q * Wd + j]? = some v → PR w (FBof E.Bor F) c v := by
    rcases q3 with q3 | ⟨b', arr, g1, g2, g3, g4⟩
    · rw [q3.1] at hb; cases hb
    · rw [g1] at hb; cases hb; exact ⟨arr, g1, g2, g3, g4⟩
  have hlv : (L hd).live := by rw [hB]; trivial
  by_cases hy : ys = []
  · subst hy
    have hn0 : news = [] := List.length_eq_zero_iff.1 (by simpa using hn)
    subst hn0
    simp only [List.nil_append, List.length_nil, List.drop_zero] at hk
    refine ⟨w, rfl, ?_⟩
    have hw := h.write (w' := w) (.vec T Wd es) hd rfl rfl rfl rfl p1 (fun _ _ => rfl) hlv (by have := h.blks hd; rw [hB] at this; exact this) trivial (fun j hj => hj.elim)
    exact ⟨v, _, F, β, hk, hw, hv _ _ _, fun k hk => (hm k hk).elim⟩
  · have hpos : 0 < ys.length := List.length_pos_iff.2 hy
    have ho := ho (by omega)
    simp only [Nat.zero_mul] at ho
    subst ho
    have hle : news.length ≤ arr.size := by rw [hn, p3]; exact Nat.mul_le_mul_right _ (by omega)
    have hst := run_storeCells_at P b 0 T news 0 arr w p2 (by simpa using hle) h1
    refine ⟨_, hst, ?_⟩
    simp only [Nat.add_zero, Nat.zero_add, List.take_zero, List.nil_append]
    have hw := h.write (w' := w.setRow b (news ++ arr.toList.drop news.length).toArray) (.vec T Wd (ys ++ es.drop ys.length)) hd rfl rfl rfl (by simp) p1 (fun b' hb' => setRow_other w b b' _ hb') hlv
      ⟨fun e he => (List.mem_append.1 he).elim (hel e) (fun h => q1 e (List.mem_of_mem_drop h)), by simp; omega, .inr ⟨b, _, p1, setRow_heap w b arr _ T _ p2, by simp; omega, fun q e j c v e1 e2 e3 => h.pr_row hlv p1 _ (by
        have hj : j < Wd := by rw [← ((List.mem_append.1 (List.mem_of_getElem? e1)).elim (hel e) (fun h => q1 e (List.mem_of_mem_drop h))).1]; exact (List.getElem?_eq_some_iff.1 e2).1
        simp only [List.getElem?_toArray] at e3
        by_cases hq : q < ys.length
        · rw [List.getElem?_append_left hq] at e1
          have : (q + 1) * Wd ≤ ys.length * Wd := Nat.mul_le_mul_right _ (by omega)
          rw [Nat.add_mul] at this
          rw [List.getElem?_append_left (by rw [hn]; omega)] at e3
          exact hr q e j c v e1 e2 e3
        · rw [List.getElem?_append_right (by omega), List.getElem?_drop] at e1
          have h1 : ys.length * Wd ≤ q * Wd := Nat.mul_le_mul_right _ (by omega)
          rw [List.getElem?_append_right (by rw [hn]; omega), List.getElem?_drop] at e3
          have e4 : ys.length + (q - ys.length) = q := by omega
          rw [e4] at e1
          exact p4 q e j c v e1 e2 (by rw [← e3]; simp; congr 1; omega))⟩⟩ trivial (fun j hj => hj.elim)
    exact ⟨v, _, F, β, hk, hw, hv _ _ _, fun k hk => (hm k hk).elim⟩

theorem cond_not {c : Bool} {A : Prop} (h : cond c A False) : c = true ∧ A := by
  cases c with
  | false => exact h.elim
  | true => exact ⟨rfl, h⟩

theorem out_copy (hΓ : GOK P Γ) (hL : ∀ h K, LK h K → K (L h)) (h : StI E n s L a w F β) {t ty : TypeId} {t2 : List TypeId} {hd : Hd} {Wd len : Nat} {vx : AV} {av ax : Value} (hs : VR w (FBof E.Bor F) β (.vec hd Wd 0 len) av) (hx : VR w (FBof E.Bor F) β vx ax)
    (hk : copyK Γ LK t (.vec hd Wd 0 len) vx K) (ts : Array TypeId) (hts : ts[0]? = some t) : Out P E n s L a K ((Builtin.copy_ ts ty #[av, ax]).run P w) := by
  simp only [copyK] at hk
  obtain ⟨hnv, hk⟩ := cond_not hk
  have hk := hL hd _ hk
  generalize hB : L hd = B at hk
  split at hk
  · rename_i T W' es
    obtain ⟨e, i, hu, hi, hk⟩ := elemK_ok hΓ hk
    obtain ⟨hWd, h2, hK⟩ := cond_and hk
    subst hWd
    simp only [Bool.and_eq_true] at h2
    have h3 := Nat.eq_of_beq_eq_true h2.1
    have h0 : i.size ≠ 0 := by have := Nat.le_of_ble_eq_true h2.2; omega
    subst h3
    obtain ⟨hlen, hK⟩ := hK
    obtain ⟨xs, hK, hsrc⟩ := addedS_ok hL h hx hK
    obtain ⟨es', hes, z, hz, hK⟩ := hK
    subst hes
    subst hz
    have hsz := size_run hΓ hi w
    have hn : min xs.length len = (xs.take len).length := by simp; omega
    rw [hn] at hK
    -- what is read
    have hval : ∃ ad c, ax = .slice ad xs.length c ∧ ∃ news : List Value, news.length = (xs.take len).length * i.size ∧ (Builtin.firstCells i.size (xs.take len).length ax).run P w = .ok news.toArray w ∧ (∀ u ∈ news, u.oneCell' = true) ∧
        (∀ e ∈ xs, e.cells.length = i.size ∧ ∀ c ∈ e.cells, c.one = true) ∧
        ∀ (q : Nat) e (j : Nat) c v, (xs.take len)[q]? = some e → e.cells[j]? = some c → news[q * i.size + j]? = some v → PR w (FBof E.Bor F) c v := by
      have nothing : ∀ ad c, ax = .slice ad 0 c → (Builtin.firstCells i.size 0 ax).run P w = .ok #[] w := by
        intro ad c e
        subst e
        cases ad with
        | none => simp [Builtin.firstCells]
        | some x => simp [Builtin.firstCells, loadCells, loadCellsFrom]
      rcases hsrc with ⟨e, ad, c, e'⟩ | ⟨⟨ad, c, e, hsrc⟩, hel⟩
      · subst e
        exact ⟨ad, c, e', [], by simp, by simpa using nothing ad c e', by simp, by simp, by simp⟩
      · by_cases hxs : xs = []
        · subst hxs
          exact ⟨ad, c, e, [], by simp, by simpa using nothing ad c e, by simp, by simp, by simp⟩
        · obtain ⟨b', off', news, rfl, n1, n2, n3, n4⟩ := hsrc hxs
          have hl1 : (xs.take len).length * i.size ≤ news.length := by rw [n1]; exact Nat.mul_le_mul_right _ (by simp; omega)
          refine ⟨_, c, e, news.take ((xs.take len).length * i.size), by rw [List.length_take]; omega, ?_, fun u hu => n3 u (List.mem_of_mem_take hu), hel, fun q e j c v e1 e2 e3 => ?_⟩
          · rw [e]
            exact run_firstCells_some (P := P) w i.size _ _ _ _ _ (by rw [List.length_take]; omega) (fun j v hj => by
              have hjl := (List.getElem?_eq_some_iff.1 hj).1
              rw [List.length_take] at hjl
              rw [List.getElem?_take_of_lt (by omega)] at hj
              rw [Addr.add_lit]; exact n2 j v hj)
          · have hq := (List.getElem?_eq_some_iff.1 e1).1
            have hq' : q < len := by simp at hq; omega
            rw [List.getElem?_take_of_lt hq'] at e1
            have hj : j < i.size := by rw [← (hel e (List.mem_of_getElem? e1)).1]; exact (List.getElem?_eq_some_iff.1 e2).1
            have : (q + 1) * i.size ≤ (xs.take len).length * i.size := Nat.mul_le_mul_right _ (by omega)
            rw [Nat.add_mul] at this
            rw [List.getElem?_take_of_lt (by omega)] at e3
            exact n4 q e j c v e1 e2 e3
    obtain ⟨ad, c, e, news, n1, n2, n3, hel, n4⟩ := hval
    have hmin : Nat.min xs.length len = (xs.take len).length := hn
    rcases hs.vecInv with ⟨b, o, cc, hb', hcl, hcm, ho, rfl⟩ | ⟨ad', hb', _, hz, rfl, ha⟩
    · obtain ⟨w', hst, hout⟩ := out_front (P := P) (K := K) h hB h0 (len := len) (by omega) hb' (fun _ => ho (by omega)) (ys := xs.take len) (by simp; omega) (fun e he => hel e (List.mem_of_mem_take he)) news n1 n3 n4 hK (x := .int .i64 ((xs.take len).length : Int)) (fun _ _ _ => .p (.int _ _)) (fun k hk => by simp only [AV.men] at hk)
      rw [e] at n2 ⊢
      have hr : (Builtin.copy_ ts ty #[.slice (some ⟨b, o, none⟩) len cc, .slice ad xs.length c]).run P w = .ok (.int .i64 ((xs.take len).length : Int)) w' := by
        have n2' : (Builtin.firstCells i.size (min len xs.length) (.slice ad xs.length c)).run P w = .ok news.toArray w := by simpa using n2
        simp only [Builtin.copy_, hts]
        simp [run_underlying hu, hsz, Builtin.lenOf, hmin, n2', hst, goInt]
      rw [hr]; exact hout
    · subst hz
      simp only [List.take_zero, List.length_nil] at hK n2 hmin
      rw [e] at n2 ⊢
      have hn0 : news = [] := List.length_eq_zero_iff.1 (by simpa using n1)
      subst hn0
      have hbk := h.blks hd
      rw [hB] at hbk
      have hes : es = [] := by
        have : (β hd).2 = 0 := by
          rcases hbk.2.2 with h | ⟨_, _, h, _⟩
          · exact h.2
          · rw [hb'] at h; cases h
        exact List.length_eq_zero_iff.1 (by have := hbk.2.1; omega)
      have hst : ∀ ad', (match ad' with | some x => storeCells x [] | none => pure ()  : Sem Unit).run P w = .ok () w := by intro ad'; cases ad' <;> rfl
      have hr : (Builtin.copy_ ts ty #[.slice ad' 0 0, .slice ad xs.length c]).run P w = .ok (.int .i64 0) w := by
        simp only [Builtin.copy_, hts]
        cases ad' <;> simp [run_underlying hu, hsz, Builtin.lenOf, n2, goInt, storeCells, Nat.min_zero]
      rw [hr]
      subst hes
      simp only [List.nil_append, List.drop_nil] at hK
      have hlv : (L hd).live := by rw [hB]; trivial
      have hLe : upd L hd (.vec T i.size []) = L := by
        funext k; simp only [upd]; split
        · subst_vars; exact hB.symm
        · rfl
      exact ⟨_, _, F, β, hK, by show StI E n s (upd L hd (.vec T i.size [])) a w F β; rw [hLe]; exact h, .p (.int _ _), fun k hk => by simp only [AV.men] at hk⟩
  · exact hk.elim

theorem out_clear (hΓ : GOK P Γ) (hL : ∀ h K, LK h K → K (L h)) (h : StI E n s L a w F β) {t ty : TypeId} {t2 : List TypeId} {hd : Hd} {Wd len : Nat} {av : Value} (hs : VR w (FBof E.Bor F) β (.vec hd Wd 0 len) av)
    (hk : clearK Γ LK t (.vec hd Wd 0 len) K) (ts : Array TypeId) (hts : ts[0]? = some t) : Out P E n s L a K ((Builtin.clear_ ts ty #[av]).run P w) := by
  simp only [clearK] at hk
  have hk := hL hd _ hk
  generalize hB : L hd = B at hk
  split at hk
  · rename_i T W' es
    obtain ⟨e, i, hu, hi, hk⟩ := elemK_ok hΓ hk
    obtain ⟨hWd, h2, hK⟩ := cond_and hk
    subst hWd
    simp only [Bool.and_eq_true] at h2
    have h3 := Nat.eq_of_beq_eq_true h2.1
    have h0 : i.size ≠ 0 := by have := Nat.le_of_ble_eq_true h2.2; omega
    subst h3
    obtain ⟨hlen, hK⟩ := hK
    obtain ⟨z, hK, hz⟩ := zeroK_ok hΓ hi hK
    obtain ⟨es', hes, hK⟩ := hK
    subst hes
    obtain ⟨zv, z1, z2, z3, z4⟩ := zero_run hΓ hi
    have hzl : z.cells.length = i.size := by rw [hz, z3]
    have hzo : ∀ c ∈ z.cells, c.one = true := fun c hc => (hΓ e i hi).plain c (by rw [← hz]; exact hc)
    have same : len = 0 → Out P E n s L a K (.ok Go.undef w) := by
      intro e0
      subst e0
      simp only [List.replicate_zero, List.nil_append, List.drop_zero] at hK
      have hLe : upd L hd (.vec T i.size es) = L := by
        funext k; simp only [upd]; split
        · subst_vars; exact hB.symm
        · rfl
      exact ⟨_, _, F, β, hK, by show StI E n s (upd L hd (.vec T i.size es)) a w F β; rw [hLe]; exact h, .undef, fun k hk => by simp only [AV.men] at hk⟩
    rcases hs.vecInv with ⟨b, o, cc, hb', hcl, hcm, ho, rfl⟩ | ⟨ad', hb', _, hz, rfl, ha⟩
    · by_cases e0 : len = 0
      · have hr : (Builtin.clear_ ts ty #[.slice (some ⟨b, o, none⟩) len cc]).run P w = .ok Go.undef w := by
          subst e0
          simp [Builtin.clear_, hts, run_underlying hu, Go.undef]
        rw [hr]; exact same e0
      · have hzn : (Builtin.zeroCells zv.cells len).toList.length = len * i.size := by simp [size_zeroCells, z2]
        have zget : ∀ k, k < len * i.size → (Builtin.zeroCells zv.cells len).toList[k]? = some (zv.cells[k % i.size]!) := by
          intro k hk
          simp [Builtin.zeroCells, z2, hk]
        have hpos : 0 < i.size := Nat.pos_of_ne_zero h0
        have zin : ∀ o, o < i.size → zv.cells[o]? = some (zv.cells[o]!) := fun o ho => by simp [z2, ho]
        obtain ⟨w', hst, hout⟩ := out_front (P := P) (K := K) h hB h0 (len := len) (by omega) hb' (fun _ => ho (by omega)) (ys := List.replicate len z) (by simp) (fun e he => by rw [List.eq_of_mem_replicate he]; exact ⟨hzl, hzo⟩) (Builtin.zeroCells zv.cells len).toList (by rw [hzn]; simp)
          (fun u hu => by
            obtain ⟨k, hk⟩ := List.getElem?_of_mem hu
            have hkl : k < len * i.size := by rw [← hzn]; exact (List.getElem?_eq_some_iff.1 hk).1
            rw [zget k hkl] at hk
            cases hk
            have hm := Nat.mod_lt k hpos
            have hzc : i.zero[k % i.size]? = some (i.zero[k % i.size]'(by rw [z3]; exact hm)) := List.getElem?_eq_getElem _
            exact (z4 w (FBof E.Bor F) _ _ _ hzc (zin _ hm)).oneCell ((hΓ e i hi).plain _ (List.getElem_mem _)))
          (fun q e' j c v e1 e2 e3 => by
            have he' : e' = z := List.eq_of_mem_replicate (List.mem_of_getElem? e1)
            subst he'
            have hj : j < i.size := by rw [← hzl]; exact (List.getElem?_eq_some_iff.1 e2).1
            have hq : q < len := by simpa using (List.getElem?_eq_some_iff.1 e1).1
            have hlt : q * i.size + j < len * i.size := by
              have : (q + 1) * i.size ≤ len * i.size := Nat.mul_le_mul_right _ (by omega)
              rw [Nat.add_mul] at this; omega
            rw [zget _ hlt, Nat.mul_comm, Nat.mul_add_mod, Nat.mod_eq_of_lt hj] at e3
            cases e3
            rw [hz] at e2
            exact z4 w _ j c _ e2 (zin _ hj)) (by simpa using hK) (x := Go.undef) (fun _ _ _ => .undef) (fun k hk => by simp only [AV.men] at hk)
        have hr : (Builtin.clear_ ts ty #[.slice (some ⟨b, o, none⟩) len cc]).run P w = .ok Go.undef w' := by
          cases len with
          | zero => exact (e0 rfl).elim
          | succ q => simp [Builtin.clear_, hts, run_underlying hu, z1, hst, Go.undef]
        rw [hr]; exact hout
    · have hr : (Builtin.clear_ ts ty #[.slice ad' 0 0]).run P w = .ok Go.undef w := by
        cases ad' <;> simp [Builtin.clear_, hts, run_underlying hu, Go.undef]
      rw [hr]; exact same hz
  · exact hk.elim

theorem eval_vals (h : StI E n s L a w F β) (hW : ∀ x K, W x K → K (rho s x)) : ∀ (xs : List Operand) (K' : List AV → Prop), evalL W xs K' → K' (xs.map (rho s)) := by
  intro xs
  induction xs with
  | nil => intro K' h; exact h
  | cons x xs ih => intro K' h; exact ih _ (hW x _ h)

theorem VR.slInv {w FB β} {m : Bool} {Wd : Nat} {es : List PV} {x : Value} (h : VR w FB β (.p (.sl m Wd es)) x) : ∃ b c, x = .slice b es.length c := by
  cases h with | p h =>
  cases h with
  | nil => exact ⟨_, _, rfl⟩
  | sl => exact ⟨_, _, rfl⟩
theorem VR.vecInv' {w FB β} {hd : Hd} {Wd off len : Nat} {x : Value} (h : VR w FB β (.vec hd Wd off len) x) : ∃ b c, x = .slice b len c := by
  cases h with
  | vec => exact ⟨_, _, rfl⟩
  | vecn => exact ⟨_, _, rfl⟩
theorem VR.empInv {w FB β} {x : Value} (h : VR w FB β .emp x) : ∃ b c, x = .slice b 0 c := by
  cases h with
  | empn => exact ⟨_, _, rfl⟩
  | emp => exact ⟨_, _, rfl⟩

theorem out_builtin {b : Builtin} (hΓ : GOK P Γ) (hW : ∀ x K, W x K → K (rho s x)) (hL : ∀ h K, LK h K → K (L h)) (h : StI E n s L a w F β) (hf : ∀ v ups, K v ups → ∀ x ∈ ups, base ≤ x.1.key → FreeAt L x.1.key) {xs : Array Operand} {ts : Array TypeId} {ty : TypeId}
    {cs : Array Bool} (hk : opSem Γ P wr W LK L base (.call ⟨.builtin b, xs, ts⟩) K) :
    ∃ v w', (builtin b ts ty cs (xs.map a.eval)).run P w = .ok (.value v) w' ∧ Out P E n s L a K (.ok v w') := by
  simp only [opSem] at hk
  have hk := eval_vals h hW _ _ hk
  have hvs : ∀ (i : Nat) c v, (xs.toList.map (rho s))[i]? = some c → (xs.toList.map a.eval)[i]? = some v → VR w (FBof E.Bor F) β c v := by
    intro i c v e1 e2
    simp only [List.getElem?_map] at e1 e2
    cases e : xs.toList[i]? with
    | none => rw [e] at e1; cases e1
    | some x => rw [e] at e1 e2; cases e1; cases e2; exact h.ev x
  have hxs : xs.map a.eval = (xs.toList.map a.eval).toArray := by cases xs; simp
  have hts : ts = ts.toList.toArray := Array.toArray_toList.symm
  rw [hxs, hts]
  generalize ts.toList = tl at hk
  have hlen : (xs.toList.map (rho s)).length = (xs.toList.map a.eval).length := by simp
  generalize xs.toList.map (rho s) = vs at hk hvs hlen
  generalize xs.toList.map a.eval = as' at hvs hlen
  have fin : ∀ r : Result Value, Out P E n s L a K r → ∃ v w', r = .ok v w' := by
    intro r hr
    cases r with
    | ok v w' => exact ⟨v, w', rfl⟩
    | halt => exact hr.elim
  have done : ∀ sm : Sem Value, Out P E n s L a K (sm.run P w) → ∃ v w', (do pure (.value (← sm)) : Sem Next).run P w = .ok (.value v) w' ∧ Out P E n s L a K (.ok v w') := by
    intro sm hr
    obtain ⟨v, w', e⟩ := fin _ hr
    exact ⟨v, w', by simp [e], by rw [e] at hr; exact hr⟩
  -- the arguments, one by one
  have one : ∀ {c : AV}, vs = [c] → ∃ v, as' = [v] ∧ VR w (FBof E.Bor F) β c v := by
    intro c e
    subst e
    match as', hlen with
    | [v], _ => exact ⟨v, rfl, hvs 0 c v rfl rfl⟩
  have two : ∀ {c d : AV}, vs = [c, d] → ∃ v u, as' = [v, u] ∧ VR w (FBof E.Bor F) β c v ∧ VR w (FBof E.Bor F) β d u := by
    intro c d e
    subst e
    match as', hlen with
    | [v, u], _ => exact ⟨v, u, rfl, hvs 0 c v rfl rfl, hvs 1 d u rfl rfl⟩
  unfold builtinK at hk
  split at hk
  · obtain ⟨v, rfl, hv⟩ := one rfl
    split at hk
    · rename_i t _
      split at hk
      · -- len
        unfold lenK at hk
        obtain ⟨e, i, hu, hi, hk⟩ := elemK_ok hΓ hk
        refine done (Builtin.len_ _ ty _) ?_
        have hl : ∀ b l c, v = .slice b l c → (Builtin.len_ (t :: ‹List TypeId›).toArray ty #[v]).run P w = .ok (.int .i64 (l : Int)) w := by
          intro b l c e
          subst e
          simp [Builtin.len_, run_underlying hu, goInt]
        split at hk
        · obtain ⟨b, c, e⟩ := hv.slInv
          obtain ⟨z, hz, hk⟩ := hk
          rw [hl _ _ _ e, hz]; exact Out.int h hk
        · obtain ⟨b, c, e⟩ := hv.vecInv'
          obtain ⟨z, hz, hk⟩ := hk
          rw [hl _ _ _ e, hz]; exact Out.int h hk
        · obtain ⟨b, c, e⟩ := hv.empInv
          rw [hl _ _ _ e]; exact Out.int h hk
        · exact hk.elim
      · -- clear
        refine done (Builtin.clear_ _ ty _) ?_
        have hk0 := hk
        unfold clearK at hk
        split at hk
        · exact out_clear (t2 := []) hΓ hL h hv hk0 _ (by simp)
        · exact hk.elim
      · exact hk.elim
    · exact hk.elim
  · obtain ⟨v, u, rfl, hv, hu'⟩ := two rfl
    split at hk
    · split at hk
      · refine done (Builtin.max_ _ ty _) ?_
        unfold twoK at hk
        split at hk
        · split at hk
          · obtain rfl := hv.intOf
            obtain rfl := hu'.intOf
            obtain ⟨z, hz, hk⟩ := hk
            simp [Builtin.max_, Builtin.max2, hz]
            exact Out.int h hk
          · exact hk.elim
        · exact hk.elim
      · refine done (Builtin.min_ _ ty _) ?_
        unfold twoK at hk
        split at hk
        · split at hk
          · obtain rfl := hv.intOf
            obtain rfl := hu'.intOf
            obtain ⟨z, hz, hk⟩ := hk
            simp [Builtin.min_, Builtin.min2, hz]
            exact Out.int h hk
          · exact hk.elim
        · exact hk.elim
      · refine done (Builtin.append_ _ ty _) ?_
        obtain ⟨ht, hemp, hK⟩ := cond_and hk
        subst ht
        obtain rfl := List.isEmpty_iff.1 hemp
        obtain ⟨e, i, hu, hi, hK⟩ := elemK_ok hΓ hK
        exact out_appendA hΓ hL h hf hu hi hv hu' hK
      · refine done (Builtin.copy_ _ ty _) ?_
        have hk0 := hk
        unfold copyK at hk
        split at hk
        · exact out_copy (t2 := []) hΓ hL h hv hu' hk0 _ (by simp)
        · exact hk.elim
      · exact hk.elim
    · exact hk.elim
  · exact hk.elim
end
end Go.Proofs.Ytkaooejeljdbnaa
