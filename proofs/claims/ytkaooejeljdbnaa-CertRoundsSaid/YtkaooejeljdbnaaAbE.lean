/- Regions that draw their order (second part): the rounds. -/
import Derived.Test.YtkaooejeljdbnaaAbD
namespace Go.Proofs.Ytkaooejeljdbnaa
open Go
set_option linter.unusedVariables false
set_option linter.unusedSimpArgs false

abbrev Ups := List (Hd × Blk)
abbrev appS (dst : Nat → Option Tmp) (v : Nat → AV) : (Nat → AV) → Nat → (Nat → AV) := fun s k => putS s (dst k) (v k)
abbrev appU (ups : Nat → Ups) : (Hd → Blk) → Nat → (Hd → Blk) := fun L k => applyUps L (ups k)

theorem putS_other {s : Nat → AV} {d : Option Tmp} {v : AV} {t : Nat} (h : d ≠ some t) : putS s d v t = s t := by
  cases d with
  | none => rfl
  | some d => exact upd_other _ _ (fun e => h (by rw [e]))
theorem putS_same {s : Nat → AV} {v : AV} {t : Nat} : putS s (some t) v t = v := upd_same _ _ _
theorem putS_comm {s : Nat → AV} {d d' : Option Tmp} {v v' : AV} (h : ∀ t, d = some t → d' ≠ some t) : putS (putS s d v) d' v' = putS (putS s d' v') d v := by
  funext t
  by_cases e1 : d = some t
  · rw [putS_other (h t e1), e1, putS_same, putS_same]
  · by_cases e2 : d' = some t
    · rw [e2, putS_same, putS_other e1, putS_same]
    · rw [putS_other e2, putS_other e1, putS_other e1, putS_other e2]
theorem updB_off {L : Hd → Blk} {g h : Hd} {B : Blk} (hk : g.key ≠ h.key) : updB L g B h = L h := by
  cases g with
  | t n => exact updB_other (fun e => hk (by rw [e]; rfl))
  | r n k =>
    have ne : h ≠ .r n k := fun e => hk (by rw [e])
    cases B <;> exact upd_other _ _ ne
theorem updB_or (g h : Hd) (B : Blk) : (∀ L, updB L g B h = L h) ∨ ∀ L L', updB L g B h = updB L' g B h := by
  have up : ∀ B : Blk, (∀ L : Hd → Blk, upd L g B h = L h) ∨ ∀ L L' : Hd → Blk, upd L g B h = upd L' g B h := fun B => by
    by_cases e : h = g
    · subst e; exact .inr fun L L' => by rw [upd_same, upd_same]
    · exact .inl fun L => upd_other _ _ e
  cases B with
  | pool T W rows =>
    cases g with
    | r n k => exact up _
    | t n =>
      cases h with
      | t m =>
        by_cases e : m = n
        · exact .inr fun L L' => by simp [updB, updPool, e]
        · exact .inl fun L => by simp [updB, updPool, e]
      | r m k =>
        by_cases e : m = n
        · exact .inr fun L L' => by simp [updB, updPool, e]
        · exact .inl fun L => by simp [updB, updPool, e]
  | _ => exact up _
theorem applyUps_other {L : Hd → Blk} {ups : Ups} {h : Hd} : (∀ x ∈ ups, x.1.key ≠ h.key) → applyUps L ups h = L h := by
  induction ups generalizing L with
  | nil => intro _; rfl
  | cons x ups ih =>
    intro hh
    show applyUps (updB L x.1 x.2) ups h = _
    rw [ih fun y hy => hh y (List.mem_cons_of_mem _ hy)]
    exact updB_off (hh x List.mem_cons_self)
theorem applyUps_same {L L' : Hd → Blk} {ups : Ups} {h : Hd} : L h = L' h → applyUps L ups h = applyUps L' ups h := by
  induction ups generalizing L L' with
  | nil => exact id
  | cons x ups ih =>
    intro hh
    show applyUps (updB L x.1 x.2) ups h = applyUps (updB L' x.1 x.2) ups h
    refine ih ?_
    rcases updB_or x.1 h x.2 with e | e
    · rw [e, e]; exact hh
    · exact e _ _
/-- What was there doesn't matter where it is written. -/
theorem applyUps_or (ups : Ups) (h : Hd) : (∀ L, applyUps L ups h = L h) ∨ ∀ L L', applyUps L ups h = applyUps L' ups h := by
  induction ups with
  | nil => exact .inl fun L => rfl
  | cons x ups ih =>
    rcases ih with ih | ih
    · rcases updB_or x.1 h x.2 with e | e
      · exact .inl fun L => (ih _).trans (e L)
      · exact .inr fun L L' => by
          show applyUps (updB L x.1 x.2) ups h = applyUps (updB L' x.1 x.2) ups h
          rw [ih, ih]; exact e _ _
    · exact .inr fun L L' => ih _ _
theorem applyUps_comm {L : Hd → Blk} {u u' : Ups} (h : ∀ x ∈ u, ∀ y ∈ u', x.1.key ≠ y.1.key) : applyUps (applyUps L u) u' = applyUps (applyUps L u') u := by
  funext k
  by_cases e1 : ∃ x ∈ u, x.1.key = k.key
  · have e2 : ∀ y ∈ u', y.1.key ≠ k.key := fun y hy e => by obtain ⟨x, hx, e'⟩ := e1; exact h x hx y hy (e'.trans e.symm)
    rw [applyUps_other e2]
    exact applyUps_same (applyUps_other e2).symm
  · have e1' : ∀ x ∈ u, x.1.key ≠ k.key := fun x hx e => e1 ⟨x, hx, e⟩
    rw [applyUps_other (L := applyUps L u') e1']
    exact applyUps_same (applyUps_other e1')

theorem upsK_len {ups : Ups} {H : Hp} {K : Hp → Prop} (hk : upsK ups H K) : ∃ H', K H' ∧ look H' = applyUps (look H) ups ∧ H.length ≤ H'.length ∧ ∀ x ∈ ups, x.1.key < H'.length := by
  induction ups generalizing H with
  | nil => exact ⟨H, hk, rfl, Nat.le_refl _, by simp⟩
  | cons x ups ih =>
    obtain ⟨h, B⟩ := x
    obtain ⟨H1, hk, e1, l1, m1⟩ := putB_ok hk
    obtain ⟨H2, hk, e2, l2, m2⟩ := ih hk
    refine ⟨H2, hk, by rw [e2, e1]; rfl, by omega, fun y hy => ?_⟩
    rcases List.mem_cons.1 hy with rfl | hy
    · exact Nat.lt_of_lt_of_le m1 l2
    · exact m2 y hy

section
variable {P : Program} {Γ : Tab} {E : Env} {n : Nat}

/-- What the text's order says of operation k. -/
structure Stp (P : Program) (Γ : Tab) (all : Array Oper) (o : Oper) (s : Nat → AV) (L : Hd → Blk) (base base' : Nat) (v : AV) (ups : Ups) (run : Bool) : Prop where
  guard : match o.guard with
    | none => run = true
    | some (j, want) => ∃ t, (all[j]?).bind (·.dst) = some t ∧ ((∃ b, (s t = .tf b ∨ s t = .p (.bool b)) ∧ run = (b == want)) ∨ (s t = .undef ∧ run = false))
  ran : run = true → (∃ LK : Hd → (Blk → Prop) → Prop, (∀ h K, LK h K → K (L h)) ∧ opSem Γ P (fun _ => false) (W0 s) LK L base o.op (fun v' ups' => v' = v ∧ ups' = ups)) ∧ (quiet all o.op = true → ∀ x ∈ ups, base ≤ x.1.key)
  not : run = false → v = .undef ∧ ups = []
  le : base ≤ base'
  lt : ∀ x ∈ ups, x.1.key < base'
  free : ∀ h, base ≤ h.key → L h = .free

theorem vcDraw_trace (all : Array Oper) : ∀ (rest : List Oper) (K : Sl → Hp → Prop) (s : Sl) (H : Hp), vcDraw Γ P all rest K s H →
    ∃ (v : Nat → AV) (ups : Nat → Ups) (base : Nat → Nat) (run : Nat → Bool), (∀ k o, rest[k]? = some o → Stp P Γ all o (foldD (appS (fun k => (rest[k]?).bind (·.dst)) v) allD (getS s) k) (foldD (appU ups) allD (look H) k) (base k) (base (k + 1)) (v k) (ups k) (run k)) ∧
      ∃ s' H', K s' H' ∧ getS s' = foldD (appS (fun k => (rest[k]?).bind (·.dst)) v) allD (getS s) rest.length ∧ look H' = foldD (appU ups) allD (look H) rest.length ∧ base 0 = H.length := by
  intro rest
  induction rest with
  | nil => intro K s H hk; exact ⟨fun _ => .undef, fun _ => [], fun _ => H.length, fun _ => true, by simp, s, H, hk, rfl, rfl, rfl⟩
  | cons o rest ih =>
    intro K s H hk
    -- one step put ahead of the others
    have step : ∀ (v0 : AV) (u0 : Ups) (r0 : Bool) (H1 : Hp), look H1 = applyUps (look H) u0 → Stp P Γ all o (getS s) (look H) H.length H1.length v0 u0 r0 → vcDraw Γ P all rest K (putL o.dst v0 s) H1 →
        ∃ (v : Nat → AV) (ups : Nat → Ups) (base : Nat → Nat) (run : Nat → Bool), (∀ k o', (o :: rest)[k]? = some o' → Stp P Γ all o' (foldD (appS (fun k => ((o :: rest)[k]?).bind (·.dst)) v) allD (getS s) k) (foldD (appU ups) allD (look H) k) (base k) (base (k + 1)) (v k) (ups k) (run k)) ∧
          ∃ s' H', K s' H' ∧ getS s' = foldD (appS (fun k => ((o :: rest)[k]?).bind (·.dst)) v) allD (getS s) (o :: rest).length ∧ look H' = foldD (appU ups) allD (look H) (o :: rest).length ∧ base 0 = H.length := by
      intro v0 u0 r0 H1 eL hstp hk
      obtain ⟨v, ups, base, run, h1, s', H', hK, e1, e2, hb0⟩ := ih K _ H1 hk
      refine ⟨fun k => match k with | 0 => v0 | k + 1 => v k, fun k => match k with | 0 => u0 | k + 1 => ups k, fun k => match k with | 0 => H.length | k + 1 => base k, fun k => match k with | 0 => r0 | k + 1 => run k, ?_, s', H', hK, ?_, ?_, rfl⟩
      · intro k o' ho'
        cases k with
        | zero =>
          simp only [List.getElem?_cons_zero, Option.some.injEq] at ho'
          subst ho'
          show Stp P Γ all o (getS s) (look H) H.length (base 0) v0 u0 r0
          rw [hb0]; exact hstp
        | succ k =>
          have := h1 k o' (by simpa using ho')
          rw [foldD_shift, foldD_shift]
          have e : putS (getS s) o.dst v0 = getS (putL o.dst v0 s) := (getS_putL _ _ _).symm
          show Stp P Γ all o' (foldD _ allD (putS (getS s) o.dst v0) k) (foldD _ allD (applyUps (look H) u0) k) (base k) (base (k + 1)) (v k) (ups k) (run k)
          rw [e, ← eL]
          exact this
      · rw [List.length_cons, foldD_shift]
        have e : putS (getS s) o.dst v0 = getS (putL o.dst v0 s) := (getS_putL _ _ _).symm
        show getS s' = foldD _ allD (putS (getS s) o.dst v0) rest.length
        rw [e]; exact e1
      · rw [List.length_cons, foldD_shift]
        show look H' = foldD _ allD (applyUps (look H) u0) rest.length
        rw [← eL]; exact e2
    have run : (lenK' H 0 fun base => SOp (fun K' => opSem Γ P (fun _ => false) (WK s) (lookK H) (look H) base o.op K') (quiet all o.op) base fun v ups => upsK ups H fun H' => vcDraw Γ P all rest K (putL o.dst v s) H') →
        ∃ v0 u0 H1, look H1 = applyUps (look H) u0 ∧ H.length ≤ H1.length ∧ (∀ x ∈ u0, x.1.key < H1.length) ∧ ((∃ LK : Hd → (Blk → Prop) → Prop, (∀ h K, LK h K → K (look H h)) ∧ opSem Γ P (fun _ => false) (W0 (getS s)) LK (look H) H.length o.op (fun v' ups' => v' = v0 ∧ ups' = u0)) ∧ (quiet all o.op = true → ∀ x ∈ u0, H.length ≤ x.1.key)) ∧ vcDraw Γ P all rest K (putL o.dst v0 s) H1 := by
      intro hk
      have hk := lenK'_ok hk
      rw [Nat.zero_add] at hk
      obtain ⟨v0, u0, h1, hb, hk⟩ := hk
      obtain ⟨H1, hk, e1, l1, m1⟩ := upsK_len hk
      refine ⟨v0, u0, H1, e1, l1, m1, ⟨?_, fun hq x hx => ?_⟩, hk⟩
      · rw [WK_eq] at h1; exact ⟨_, fun h K hk => lookK_ok H h K hk, h1⟩
      · rw [hq] at hb
        have hb : (u0.all fun x => Hd.from H.length x.1) = true := hb
        have := List.all_eq_true.1 hb x hx
        cases hx1 : x.1 <;> rw [hx1] at this <;> first | exact Nat.le_of_ble_eq_true this | cases this
    have hk : vcDrawStep Γ P all o (vcDraw Γ P all rest) K s H := hk
    simp only [vcDrawStep] at hk
    cases hg : o.guard with
    | none =>
      rw [hg] at hk
      obtain ⟨v0, u0, H1, e1, l1, m1, hr, hk⟩ := run hk
      exact step v0 u0 true H1 e1 ⟨by rw [hg], fun _ => hr, (fun h => by cases h), l1, m1, fun h hh => look_ge hh⟩ hk
    | some jw =>
      obtain ⟨j, want⟩ := jw
      rw [hg] at hk
      simp only at hk
      cases ht : (all[j]?).bind (·.dst) with
      | none => rw [ht] at hk; exact hk.elim
      | some t =>
        rw [ht] at hk
        simp only at hk
        rw [getSK_iff] at hk
        have skip : (∃ b, (getS s t = .tf b ∨ getS s t = .p (.bool b)) ∧ false = (b == want)) ∨ (getS s t = .undef ∧ false = false) → vcDraw Γ P all rest K (putL o.dst .undef s) H → _ := fun hc hk =>
          step .undef [] false H rfl ⟨by rw [hg]; exact ⟨t, ht, hc⟩, (fun h => by cases h), fun _ => ⟨rfl, rfl⟩, Nat.le_refl _, by simp, fun h hh => look_ge hh⟩ hk
        cases hv : getS s t with
        | tf b =>
          rw [hv] at hk
          simp only at hk
          cases hbw : (b == want) with
          | true =>
            rw [hbw] at hk
            obtain ⟨v0, u0, H1, e1, l1, m1, hr, hk⟩ := run hk
            exact step v0 u0 true H1 e1 ⟨by rw [hg]; exact ⟨t, ht, .inl ⟨b, .inl hv, hbw.symm⟩⟩, fun _ => hr, (fun h => by cases h), l1, m1, fun h hh => look_ge hh⟩ hk
          | false => rw [hbw] at hk; exact skip (.inl ⟨b, .inl hv, hbw.symm⟩) hk
        | undef => rw [hv] at hk; exact skip (.inr ⟨hv, rfl⟩) hk
        | p pv =>
          rw [hv] at hk
          cases pv with
          | bool b =>
            simp only at hk
            cases hbw : (b == want) with
            | true =>
              rw [hbw] at hk
              obtain ⟨v0, u0, H1, e1, l1, m1, hr, hk⟩ := run hk
              exact step v0 u0 true H1 e1 ⟨by rw [hg]; exact ⟨t, ht, .inl ⟨b, .inr hv, hbw.symm⟩⟩, fun _ => hr, (fun h => by cases h), l1, m1, fun h hh => look_ge hh⟩ hk
            | false => rw [hbw] at hk; exact skip (.inl ⟨b, .inr hv, hbw.symm⟩) hk
          | _ => exact hk.elim
        | _ => rw [hv] at hk; exact hk.elim
/-- What an operation looks at. -/
def MenOf (o : Oper) (s : Nat → AV) (L : Hd → Blk) (h : Hd) : Prop := looks o.op = true ∧ ∃ z ∈ o.op.operands.toList, Reach L (rho s z) h
theorem handsStep_ok {H : Hp} {l : List Nat} {k h : Hd} (hk : k.key ∈ l) (hm : (look H k).men h) : h.key ∈ handsStep H l := by
  unfold handsStep
  rw [List.mem_append, List.mem_flatMap]
  cases k with
  | r n j => exact (Blk.row_nomen _ _ _ hm).elim
  | t n =>
    refine .inr ⟨n, hk, ?_⟩
    have hm : (H.getD n .free).top.men h := hm
    generalize H.getD n .free = B at hm
    cases B <;> first | exact hm.elim | skip
    · obtain ⟨c, hc, hm⟩ := menL_ex hm
      exact AV.handsL_ok hc hm
    · obtain ⟨c, hc, hm⟩ := menL_ex hm
      exact AV.handsL_ok hc hm
theorem handsStep_sub {H : Hp} {l : List Nat} {n : Nat} (h : n ∈ l) : n ∈ handsStep H l := by unfold handsStep; exact List.mem_append_left _ h
theorem handsH_ok {o : Oper} {s : Sl} {H : Hp} {h : Hd} (hm : MenOf o (getS s) (look H) h) : h.key ∈ cond (looks o.op) (handsH H (AV.handsL (o.op.operands.toList.map (rho (getS s))))) [] := by
  obtain ⟨hlk, z, hz, hm⟩ := hm
  rw [hlk, cond_true]
  have b : ∀ k : Hd, (rho (getS s) z).men k → k.key ∈ AV.handsL (o.op.operands.toList.map (rho (getS s))) := fun k hk => AV.handsL_ok (List.mem_map_of_mem hz) hk
  unfold handsH
  rcases hm with hm | ⟨k, h1, h2⟩ | ⟨k, k', h1, h2, h3⟩
  · exact handsStep_sub (handsStep_sub (b h hm))
  · exact handsStep_sub (handsStep_ok (b k h1) h2)
  · exact handsStep_ok (handsStep_ok (b k h1) h2) h3

theorem vcDrawX_trace (all : Array Oper) : ∀ (rest : List Oper) (K : Acc → Sl → Hp → Prop) (acc : Acc) (s : Sl) (H : Hp), vcDrawX Γ P all rest K acc s H →
    ∃ (v : Nat → AV) (ups : Nat → Ups) (base : Nat → Nat) (run : Nat → Bool), (∀ k o, rest[k]? = some o → Stp P Γ all o (foldD (appS (fun k => (rest[k]?).bind (·.dst)) v) allD (getS s) k) (foldD (appU ups) allD (look H) k) (base k) (base (k + 1)) (v k) (ups k) (run k)) ∧
      ∃ s' H', (∃ acc2 : Acc, acc2.length = rest.length ∧ K (acc ++ acc2) s' H' ∧ ∀ k o, rest[k]? = some o → ∃ rd, acc2[k]? = some (rd, (ups k).map fun x => x.1.key) ∧ (run k = true → ∀ h, MenOf o (foldD (appS (fun k => (rest[k]?).bind (·.dst)) v) allD (getS s) k) (foldD (appU ups) allD (look H) k) h → h.key ∈ rd)) ∧ getS s' = foldD (appS (fun k => (rest[k]?).bind (·.dst)) v) allD (getS s) rest.length ∧ look H' = foldD (appU ups) allD (look H) rest.length ∧ base 0 = H.length := by
  intro rest
  induction rest with
  | nil => intro K acc s H hk; exact ⟨fun _ => .undef, fun _ => [], fun _ => H.length, fun _ => true, by simp, s, H, ⟨[], rfl, by rw [List.append_nil]; exact hk, by simp⟩, rfl, rfl, rfl⟩
  | cons o rest ih =>
    intro K acc s H hk
    -- one step put ahead of the others
    have step : ∀ (v0 : AV) (u0 : Ups) (r0 : Bool) (H1 : Hp) (rd : List Nat), (r0 = true → ∀ h, MenOf o (getS s) (look H) h → h.key ∈ rd) → look H1 = applyUps (look H) u0 → Stp P Γ all o (getS s) (look H) H.length H1.length v0 u0 r0 → vcDrawX Γ P all rest K (acc ++ [(rd, u0.map fun x => x.1.key)]) (putL o.dst v0 s) H1 →
        ∃ (v : Nat → AV) (ups : Nat → Ups) (base : Nat → Nat) (run : Nat → Bool), (∀ k o', (o :: rest)[k]? = some o' → Stp P Γ all o' (foldD (appS (fun k => ((o :: rest)[k]?).bind (·.dst)) v) allD (getS s) k) (foldD (appU ups) allD (look H) k) (base k) (base (k + 1)) (v k) (ups k) (run k)) ∧
          ∃ s' H', (∃ acc2 : Acc, acc2.length = (o :: rest).length ∧ K (acc ++ acc2) s' H' ∧ ∀ k o', (o :: rest)[k]? = some o' → ∃ rd, acc2[k]? = some (rd, (ups k).map fun x => x.1.key) ∧ (run k = true → ∀ h, MenOf o' (foldD (appS (fun k => ((o :: rest)[k]?).bind (·.dst)) v) allD (getS s) k) (foldD (appU ups) allD (look H) k) h → h.key ∈ rd)) ∧ getS s' = foldD (appS (fun k => ((o :: rest)[k]?).bind (·.dst)) v) allD (getS s) (o :: rest).length ∧ look H' = foldD (appU ups) allD (look H) (o :: rest).length ∧ base 0 = H.length := by
      intro v0 u0 r0 H1 rd hrd eL hstp hk
      obtain ⟨v, ups, base, run, h1, s', H', ⟨acc2, hlen, hK, hacc⟩, e1, e2, hb0⟩ := ih K _ _ H1 hk
      refine ⟨fun k => match k with | 0 => v0 | k + 1 => v k, fun k => match k with | 0 => u0 | k + 1 => ups k, fun k => match k with | 0 => H.length | k + 1 => base k, fun k => match k with | 0 => r0 | k + 1 => run k, ?_, s', H', ⟨(rd, u0.map fun x => x.1.key) :: acc2, by simp [hlen], by rw [List.append_assoc] at hK; exact hK, fun k o' ho' => ?_⟩, ?_, ?_, rfl⟩
      · intro k o' ho'
        cases k with
        | zero =>
          simp only [List.getElem?_cons_zero, Option.some.injEq] at ho'
          subst ho'
          show Stp P Γ all o (getS s) (look H) H.length (base 0) v0 u0 r0
          rw [hb0]; exact hstp
        | succ k =>
          have := h1 k o' (by simpa using ho')
          rw [foldD_shift, foldD_shift]
          have e : putS (getS s) o.dst v0 = getS (putL o.dst v0 s) := (getS_putL _ _ _).symm
          show Stp P Γ all o' (foldD _ allD (putS (getS s) o.dst v0) k) (foldD _ allD (applyUps (look H) u0) k) (base k) (base (k + 1)) (v k) (ups k) (run k)
          rw [e, ← eL]
          exact this
      · cases k with
        | zero =>
          simp only [List.getElem?_cons_zero, Option.some.injEq] at ho'
          subst ho'
          exact ⟨rd, rfl, hrd⟩
        | succ k =>
          obtain ⟨rd', h3, h4⟩ := hacc k o' (by simpa using ho')
          refine ⟨rd', by simpa using h3, fun hr => ?_⟩
          rw [foldD_shift, foldD_shift]
          have e : putS (getS s) o.dst v0 = getS (putL o.dst v0 s) := (getS_putL _ _ _).symm
          show ∀ h, MenOf o' (foldD _ allD (putS (getS s) o.dst v0) k) (foldD _ allD (applyUps (look H) u0) k) h → h.key ∈ rd'
          rw [e, ← eL]
          exact h4 hr
      · rw [List.length_cons, foldD_shift]
        have e : putS (getS s) o.dst v0 = getS (putL o.dst v0 s) := (getS_putL _ _ _).symm
        show getS s' = foldD _ allD (putS (getS s) o.dst v0) rest.length
        rw [e]; exact e1
      · rw [List.length_cons, foldD_shift]
        show look H' = foldD _ allD (applyUps (look H) u0) rest.length
        rw [← eL]; exact e2
    have run : (evalL (WK s) o.op.operands.toList fun vs => lenK' H 0 fun base => SOp (fun K' => opSem Γ P (fun _ => false) (WK s) (lookK H) (look H) base o.op K') (quiet all o.op) base fun v ups => upsK ups H fun H' => vcDrawX Γ P all rest K (acc ++ [(cond (looks o.op) (handsH H (AV.handsL vs)) [], ups.map fun x => x.1.key)]) (putL o.dst v s) H') →
        ∃ v0 u0 H1 rd, (∀ h, MenOf o (getS s) (look H) h → h.key ∈ rd) ∧ look H1 = applyUps (look H) u0 ∧ H.length ≤ H1.length ∧ (∀ x ∈ u0, x.1.key < H1.length) ∧ ((∃ LK : Hd → (Blk → Prop) → Prop, (∀ h K, LK h K → K (look H h)) ∧ opSem Γ P (fun _ => false) (W0 (getS s)) LK (look H) H.length o.op (fun v' ups' => v' = v0 ∧ ups' = u0)) ∧ (quiet all o.op = true → ∀ x ∈ u0, H.length ≤ x.1.key)) ∧ vcDrawX Γ P all rest K (acc ++ [(rd, u0.map fun x => x.1.key)]) (putL o.dst v0 s) H1 := by
      intro hk
      rw [WK_eq, evalL_eq, ← WK_eq] at hk
      have hk := lenK'_ok hk
      rw [Nat.zero_add] at hk
      obtain ⟨v0, u0, h1, hb, hk⟩ := hk
      obtain ⟨H1, hk, e1, l1, m1⟩ := upsK_len hk
      refine ⟨v0, u0, H1, cond (looks o.op) (handsH H (AV.handsL (o.op.operands.toList.map (rho (getS s))))) [], fun h hm => handsH_ok hm, e1, l1, m1, ⟨?_, fun hq x hx => ?_⟩, hk⟩
      · rw [WK_eq] at h1; exact ⟨_, fun h K hk => lookK_ok H h K hk, h1⟩
      · rw [hq] at hb
        have hb : (u0.all fun x => Hd.from H.length x.1) = true := hb
        have := List.all_eq_true.1 hb x hx
        cases hx1 : x.1 <;> rw [hx1] at this <;> first | exact Nat.le_of_ble_eq_true this | cases this
    have hk : vcDrawXStep Γ P all o (vcDrawX Γ P all rest) K acc s H := hk
    simp only [vcDrawXStep] at hk
    cases hg : o.guard with
    | none =>
      rw [hg] at hk
      obtain ⟨v0, u0, H1, rd, hrd, e1, l1, m1, hr, hk⟩ := run hk
      exact step v0 u0 true H1 rd (fun _ => hrd) e1 ⟨by rw [hg], fun _ => hr, (fun h => by cases h), l1, m1, fun h hh => look_ge hh⟩ hk
    | some jw =>
      obtain ⟨j, want⟩ := jw
      rw [hg] at hk
      simp only at hk
      cases ht : (all[j]?).bind (·.dst) with
      | none => rw [ht] at hk; exact hk.elim
      | some t =>
        rw [ht] at hk
        simp only at hk
        rw [getSK_iff] at hk
        have skip : (∃ b, (getS s t = .tf b ∨ getS s t = .p (.bool b)) ∧ false = (b == want)) ∨ (getS s t = .undef ∧ false = false) → vcDrawX Γ P all rest K (acc ++ [([], [])]) (putL o.dst .undef s) H → _ := fun hc hk =>
          step .undef [] false H [] (fun h => by cases h) rfl ⟨by rw [hg]; exact ⟨t, ht, hc⟩, (fun h => by cases h), fun _ => ⟨rfl, rfl⟩, Nat.le_refl _, by simp, fun h hh => look_ge hh⟩ hk
        cases hv : getS s t with
        | tf b =>
          rw [hv] at hk
          simp only at hk
          cases hbw : (b == want) with
          | true =>
            rw [hbw] at hk
            obtain ⟨v0, u0, H1, rd, hrd, e1, l1, m1, hr, hk⟩ := run hk
            exact step v0 u0 true H1 rd (fun _ => hrd) e1 ⟨by rw [hg]; exact ⟨t, ht, .inl ⟨b, .inl hv, hbw.symm⟩⟩, fun _ => hr, (fun h => by cases h), l1, m1, fun h hh => look_ge hh⟩ hk
          | false => rw [hbw] at hk; exact skip (.inl ⟨b, .inl hv, hbw.symm⟩) hk
        | undef => rw [hv] at hk; exact skip (.inr ⟨hv, rfl⟩) hk
        | p pv =>
          rw [hv] at hk
          cases pv with
          | bool b =>
            simp only at hk
            cases hbw : (b == want) with
            | true =>
              rw [hbw] at hk
              obtain ⟨v0, u0, H1, rd, hrd, e1, l1, m1, hr, hk⟩ := run hk
              exact step v0 u0 true H1 rd (fun _ => hrd) e1 ⟨by rw [hg]; exact ⟨t, ht, .inl ⟨b, .inr hv, hbw.symm⟩⟩, fun _ => hr, (fun h => by cases h), l1, m1, fun h hh => look_ge hh⟩ hk
            | false => rw [hbw] at hk; exact skip (.inl ⟨b, .inr hv, hbw.symm⟩) hk
          | _ => exact hk.elim
        | _ => rw [hv] at hk; exact hk.elim

/-- What two operations write and look at is apart. -/
def Dis (u1 : Ups) (r1 : Bool) (m1 : Hd → Prop) (u2 : Ups) (r2 : Bool) (m2 : Hd → Prop) : Prop := (∀ p ∈ u1, ∀ q ∈ u2, p.1.key ≠ q.1.key) ∧ (r2 = true → ∀ p ∈ u1, ∀ h, m2 h → p.1.key ≠ h.key) ∧ (r1 = true → ∀ q ∈ u2, ∀ h, m1 h → q.1.key ≠ h.key)
def Fine (ops : Array Oper) (x : Oper) (sx : Nat → AV) (Lx : Hd → Blk) (ux : Ups) (rx : Bool) (y : Oper) (sy : Nat → AV) (Ly : Hd → Blk) (uy : Ups) (ry : Bool) : Prop :=
  (quiet ops x.op = true ∧ quiet ops y.op = true) ∨ (quiet0 x.op = true ∧ quiet0 y.op = true ∧ Dis ux rx (MenOf x sx Lx) uy ry (MenOf y sy Ly))
theorem Fine.q0 {ops : Array Oper} {x : Oper} {sx : Nat → AV} {Lx : Hd → Blk} {ux : Ups} {rx : Bool} {y : Oper} {sy : Nat → AV} {Ly : Hd → Blk} {uy : Ups} {ry : Bool} (h : Fine ops x sx Lx ux rx y sy Ly uy ry) : quiet0 x.op = true ∧ quiet0 y.op = true := by
  rcases h with ⟨h1, h2⟩ | ⟨h1, h2, _⟩
  · exact ⟨(Bool.and_eq_true .. ▸ h1).1, (Bool.and_eq_true .. ▸ h2).1⟩
  · exact ⟨h1, h2⟩

theorem St.drawn {s : Nat → AV} {L : Hd → Blk} {a : Act} {w : World} (h : St E n s L a w) : St E n s L a { w with drawn := w.drawn + 1 } := by
  obtain ⟨F, β, h⟩ := h
  exact ⟨F, β, h.still rfl rfl rfl rfl⟩

theorem draw_core (hΓ : GOK P Γ) (ops : Array Oper) (hfit : opsFit n ops.toList = true) (hdepF : ∀ {j : Nat} {o : Oper}, ops[j]? = some o → ∀ e ∈ o.after.toList, Region.binds .any e = true → e.on < j) (Q : Exit → Act → World → Prop)
    (s : Sl) (H : Hp) (a : Act) (w : World) (v : Nat → AV) (ups : Nat → Ups) (base : Nat → Nat) (run : Nat → Bool)
    (hstp : ∀ k o, ops.toList[k]? = some o → Stp P Γ ops o (foldD (appS (fun k => (ops.toList[k]?).bind (·.dst)) v) allD (getS s) k) (foldD (appU ups) allD (look H) k) (base k) (base (k + 1)) (v k) (ups k) (run k))
    (s' : Sl) (H' : Hp) (hQ' : ∀ a w, St E n (getS s') (look H') a w → Q .normal a w) (e1 : getS s' = foldD (appS (fun k => (ops.toList[k]?).bind (·.dst)) v) allD (getS s) ops.toList.length) (e2 : look H' = foldD (appU ups) allD (look H) ops.toList.length) (hb0 : base 0 = H.length)
    (hpair : ∀ {i j : Nat} {x y : Oper}, ops[i]? = some x → ops[j]? = some y → i < j → (x.apart ops y = true ∧ Fine ops x (foldD (appS (fun k => (ops.toList[k]?).bind (·.dst)) v) allD (getS s) i) (foldD (appU ups) allD (look H) i) (ups i) (run i) y (foldD (appS (fun k => (ops.toList[k]?).bind (·.dst)) v) allD (getS s) j) (foldD (appU ups) allD (look H) j) (ups j) (run j)) ∨ ∀ D, ClosedD ops.toList D → D j = true → D i = true)
    (hst : St E n (getS s) (look H) a w) : wpAny P .any ops Q ops.size (Array.replicate ops.size false) a w := by
  rw [Array.length_toList] at e1 e2
  generalize hdst : (fun (k : Nat) => (ops.toList[k]?).bind (fun (o : Oper) => o.dst)) = dst at hstp e1 hpair
  have hdst' : ∀ {k : Nat} {o : Oper}, ops[k]? = some o → dst k = o.dst := fun {k o} h => by rw [← hdst]; simp [h]
  have hstp : ∀ {k : Nat} {o : Oper}, ops[k]? = some o → Stp P Γ ops o (foldD (appS dst v) allD (getS s) k) (foldD (appU ups) allD (look H) k) (base k) (base (k + 1)) (v k) (ups k) (run k) := fun {k o} h => hstp k o (by simpa using h)
  have hget : ∀ k, k < ops.size → ∃ o, ops[k]? = some o := fun k hk => ⟨ops[k], by simp [hk]⟩
  have hmono : ∀ j, j ≤ ops.size → ∀ i, i ≤ j → base i ≤ base j := by
    intro j
    induction j with
    | zero => intro _ i hi; rw [Nat.le_zero.1 hi]; exact Nat.le_refl _
    | succ j ih =>
      intro hj i hi
      by_cases e : i = j + 1
      · rw [e]; exact Nat.le_refl _
      · obtain ⟨o, ho⟩ := hget j (by omega)
        exact Nat.le_trans (ih (by omega) i (by omega)) (hstp ho).le
  have hupslt : ∀ {k : Nat}, k < ops.size → ∀ x ∈ ups k, x.1.key < base (k + 1) := fun {k} hk => by
    obtain ⟨o, ho⟩ := hget k hk; exact (hstp ho).lt
  have hupsge : ∀ {k : Nat} {o : Oper}, ops[k]? = some o → quiet ops o.op = true → ∀ x ∈ ups k, base k ≤ x.1.key := fun {k o} ho hq x hx => by
    cases hr : run k with
    | true => exact ((hstp ho).ran hr).2 hq x hx
    | false => rw [((hstp ho).not hr).2] at hx; simp at hx
  -- all is done when nothing is ready
  have done : ∀ (D : Nat → Bool) (a : Act) (w : World), (∀ i, i < ops.size → D i = true) → St E n (foldD (appS dst v) D (getS s) ops.size) (foldD (appU ups) D (look H) ops.size) a w → Q .normal a w := by
    intro D a w hD hst
    rw [foldD_congr (D' := allD) ops.size fun j hj => hD j hj, foldD_congr (D' := allD) ops.size fun j hj => hD j hj, ← e1, ← e2] at hst
    exact hQ' a w hst
  have key : ∀ (fuel : Nat) (listed : Array Bool) (a : Act) (w : World), listed.size = ops.size → ClosedD ops.toList (fun j => listed.getD j false) → ((List.range ops.size).filter fun i => !listed.getD i false).length ≤ fuel →
      St E n (foldD (appS dst v) (fun j => listed.getD j false) (getS s) ops.size) (foldD (appU ups) (fun j => listed.getD j false) (look H) ops.size) a w → wpAny P .any ops Q fuel listed a w := by
    intro fuel
    induction fuel with
    | zero =>
      intro listed a w hsz hcl hcnt hst
      have hall : ∀ i, i < ops.size → listed.getD i false = true := fun i hi => by
        have := List.eq_nil_of_length_eq_zero (Nat.le_zero.1 hcnt)
        rw [List.filter_eq_nil_iff] at this
        simpa using this i (List.mem_range.2 hi)
      refine ⟨?_, done _ a w hall hst⟩
      unfold Region.ready
      rw [List.filter_eq_nil_iff]
      intro i hi
      have hi := List.mem_range.1 hi
      have := hall i hi
      have e : listed.getD i true = true := by simpa [Array.getD, hsz, hi] using this
      simp [e]
    | succ fuel ih =>
      intro listed a w hsz hcl hcnt hst
      refine ⟨fun hnil => ?_, fun i hi => ?_⟩
      · refine done _ a w (fun i => ?_) hst
        induction i using Nat.strongRecOn with
        | _ i ihs =>
          intro hi
          cases hd : listed.getD i false with
          | true => rfl
          | false =>
            exfalso
            obtain ⟨o, ho⟩ := hget i hi
            have : i ∈ Region.ready .any ops listed := by
              unfold Region.ready
              rw [List.mem_filter]
              refine ⟨List.mem_range.2 hi, ?_⟩
              have e : listed.getD i true = false := by simpa [Array.getD, hsz, hi] using hd
              rw [e, ho]
              simp only [Bool.not_false, Option.map_some, Option.getD_some, Bool.true_and]
              rw [← Array.all_toList, List.all_eq_true]
              intro e he
              cases hb : Region.binds .any e with
              | false => rfl
              | true =>
                have hlt := hdepF ho e he hb
                have hd := ihs e.on hlt (by omega)
                rw [hd]; rfl
            rw [hnil] at this
            simp at this
      · -- operation i is taken
        unfold Region.ready at hi
        rw [List.mem_filter] at hi
        obtain ⟨hlt, hi⟩ := hi
        have hlt := List.mem_range.1 hlt
        obtain ⟨o, ho⟩ := hget i hlt
        rw [ho] at hi
        simp only [Option.map_some, Option.getD_some, Bool.and_eq_true] at hi
        obtain ⟨hi1, hi2⟩ := hi
        generalize hD : (fun j => listed.getD j false) = D at hcl hst
        have hDi : D i = false := by
          rw [← hD]
          have : listed.getD i true = false := by simpa using hi1
          simpa [Array.getD, hsz, hlt] using this
        have hdep : ∀ e ∈ o.after.toList, Region.binds .any e = true → D e.on = true := fun e he hb => by
          rw [← Array.all_toList, List.all_eq_true] at hi2
          have := hi2 e he
          rw [hb] at this
          rw [← hD]; simpa using this
        have hD' : (fun j => (listed.setIfInBounds i true).getD j false) = addD D i := by
          funext j
          rw [← hD]
          by_cases e : j = i
          · subst e; rw [addD_same]; simp [Array.getD, hsz, hlt]
          · rw [addD_ne e]
            simp only [Array.getD_eq_getD_getElem?, Array.getElem?_setIfInBounds_ne (fun h => e h.symm)]
        have hcl' : ClosedD ops.toList (addD D i) := by
          intro j oj hj hoj e he hb
          by_cases hji : j = i
          · subst hji
            have : oj = o := by
              have h1 : ops[j]? = some oj := by simpa using hoj
              rw [ho] at h1; cases h1; rfl
            subst this
            simp [addD, hdep e he hb]
          · rw [addD_ne hji] at hj
            simp [addD, hcl j oj hj hoj e he hb]
        -- the pairs
        have lo : ∀ {j : Nat} {x : Oper}, ops[j]? = some x → j < i → (x.apart ops o = true ∧ Fine ops x (foldD (appS dst v) allD (getS s) j) (foldD (appU ups) allD (look H) j) (ups j) (run j) o (foldD (appS dst v) allD (getS s) i) (foldD (appU ups) allD (look H) i) (ups i) (run i)) ∨ D j = true := fun {j x} hx hji => by
          rcases hpair hx ho hji with h | h
          · exact .inl h
          · have := h _ hcl' addD_same
            rw [addD_ne (by omega)] at this
            exact .inr this
        have hi' : ∀ {j : Nat} {x : Oper}, ops[j]? = some x → i < j → D j = true → o.apart ops x = true ∧ Fine ops o (foldD (appS dst v) allD (getS s) i) (foldD (appU ups) allD (look H) i) (ups i) (run i) x (foldD (appS dst v) allD (getS s) j) (foldD (appU ups) allD (look H) j) (ups j) (run j) := fun {j x} hx hij hj => by
          rcases hpair ho hx hij with h | h
          · exact h
          · rw [h _ hcl hj] at hDi; cases hDi
        have hDlt : ∀ {j : Nat}, D j = true → j < ops.size := fun {j} hj => by
          rw [← hD] at hj
          by_cases h : j < listed.size
          · rwa [hsz] at h
          · simp [Array.getD, h] at hj
        have slot : ∀ t, t ∈ o.looksAt ops → foldD (appS dst v) D (getS s) ops.size t = foldD (appS dst v) allD (getS s) i t := by
          intro t ht
          have low : ∀ m, m ≤ i → foldD (appS dst v) D (getS s) m t = foldD (appS dst v) allD (getS s) m t := by
            intro m
            induction m with
            | zero => intro _; rfl
            | succ m ihm =>
              intro hm
              have ihm := ihm (by omega)
              simp only [foldD, allD, cond_true]
              cases hdm : D m with
              | true =>
                simp only [cond_true]
                by_cases e : dst m = some t
                · simp only [appS, e, putS_same]
                · simp only [appS]; rw [putS_other e, putS_other e]; exact ihm
              | false =>
                simp only [cond_false]
                have : dst m ≠ some t := fun e => by
                  obtain ⟨x, hx⟩ := hget m (by omega)
                  rw [hdst' hx] at e
                  rcases lo hx (by omega) with ⟨h, _⟩ | h
                  · exact (Oper.apart_spec h).1 t e ht
                  · rw [hdm] at h; cases h
                simp only [appS]
                rw [putS_other this]; exact ihm
          have high : ∀ m, m ≤ ops.size → i ≤ m → foldD (appS dst v) D (getS s) m t = foldD (appS dst v) D (getS s) i t := by
            intro m
            induction m with
            | zero => intro _ hm; rw [Nat.le_zero.1 hm]
            | succ m ihm =>
              intro hmn hm
              by_cases e : i = m + 1
              · rw [e]
              · have ihm := ihm (by omega) (by omega)
                simp only [foldD]
                cases hdm : D m with
                | false => exact ihm
                | true =>
                  simp only [cond_true, appS]
                  have hne : i ≠ m := fun e => by rw [e, hdm] at hDi; cases hDi
                  obtain ⟨x, hx⟩ := hget m (by omega)
                  rw [putS_other fun e => by
                    rw [hdst' hx] at e
                    exact (Oper.apart_spec (hi' hx (by omega) hdm).1).2.2 t e ht]
                  exact ihm
          rw [high ops.size (Nat.le_refl _) (by omega), low i (Nat.le_refl _)]
        have loud : quiet0 o.op = false → ∀ {σ : Type} (app : σ → Nat → σ) (x : σ), foldD app D x ops.size = foldD app allD x i := by
          intro hq σ app x
          have high : ∀ m, m ≤ ops.size → i ≤ m → foldD app D x m = foldD app D x i := by
            intro m
            induction m with
            | zero => intro _ hm; rw [Nat.le_zero.1 hm]
            | succ m ihm =>
              intro hmn hm
              by_cases e : i = m + 1
              · rw [e]
              · have ihm := ihm (by omega) (by omega)
                simp only [foldD]
                cases hdm : D m with
                | false => exact ihm
                | true =>
                  have hne : i ≠ m := fun e => by rw [e, hdm] at hDi; cases hDi
                  obtain ⟨y, hy⟩ := hget m (by omega)
                  have := (hi' hy (by omega) hdm).2.q0.1
                  rw [hq] at this; cases this
          rw [high ops.size (Nat.le_refl _) (by omega)]
          exact foldD_congr i fun j hj => by
            obtain ⟨y, hy⟩ := hget j (by omega)
            rcases lo hy hj with ⟨_, h⟩ | h
            · have h := h.q0.2
              rw [hq] at h; cases h
            · exact h
        -- the state behind it
        have next : ∀ a' w', St E n (putS (foldD (appS dst v) D (getS s) ops.size) o.dst (v i)) (applyUps (foldD (appU ups) D (look H) ops.size) (ups i)) a' w' → wpAny P .any ops Q fuel (listed.setIfInBounds i true) a' w' := by
          intro a' w' hst'
          refine ih _ a' w' (by simpa using hsz) (by rw [hD']; exact hcl') ?_ ?_
          · have hsub : ((List.range ops.size).filter fun j => !(listed.setIfInBounds i true).getD j false).length < ((List.range ops.size).filter fun j => !listed.getD j false).length := by
              have e1 : (fun j => !(listed.setIfInBounds i true).getD j false) = fun j => (!listed.getD j false) && !(Nat.beq j i) := by
                funext j
                have this : (listed.setIfInBounds i true).getD j false = addD D i j := congrFun hD' j
                rw [this, ← hD]
                simp [addD]
              rw [e1, ← List.countP_eq_length_filter, ← List.countP_eq_length_filter]
              have strict : ∀ (l : List Nat), i ∈ l → List.countP (fun j => (!listed.getD j false) && !(Nat.beq j i)) l < List.countP (fun j => !listed.getD j false) l := by
                have weak : ∀ (l : List Nat), List.countP (fun j => (!listed.getD j false) && !(Nat.beq j i)) l ≤ List.countP (fun j => !listed.getD j false) l := fun l =>
                  List.countP_mono_left fun x _ h => by simp only [Bool.and_eq_true] at h; exact h.1
                have hno : listed.getD i false = false := (congrFun hD i).trans hDi
                intro l
                induction l with
                | nil => intro h; simp at h
                | cons x l ihl =>
                  intro h
                  rw [List.countP_cons, List.countP_cons]
                  by_cases e : x = i
                  · subst e
                    have := weak l
                    have hb : Nat.beq x x = true := by simp
                    rw [hno, hb]
                    simp only [Bool.not_false, Bool.not_true, Bool.and_false, if_true, Bool.false_eq_true, if_false]
                    omega
                  · have := ihl (by rcases List.mem_cons.1 h with h | h; exact (e h.symm).elim; exact h)
                    rw [beq_ne e]
                    simp only [Bool.not_false, Bool.and_true]
                    split <;> omega
              exact strict _ (List.mem_range.2 hlt)
            omega
          · rw [hD', foldD_add hDi ops.size hlt, foldD_add hDi ops.size hlt]
            · simp only [appS, appU]
              rw [hdst' ho]
              exact hst'
            · intro j hij hjn hj y
              obtain ⟨x, hx⟩ := hget j hjn
              have hq := hi' hx hij hj
              simp only [appU]
              refine applyUps_comm fun p hp q hq' => ?_
              rcases hq.2 with ⟨_, hqx⟩ | ⟨_, _, hdis⟩
              · have h1 := hupslt hlt p hp
                have h2 := hupsge hx hqx q hq'
                have h3 := hmono j (by omega) (i + 1) (by omega)
                omega
              · have := hdis.1 p hp q hq'
                omega
            · intro j hij hjn hj y
              obtain ⟨x, hx⟩ := hget j hjn
              simp only [appS]
              refine putS_comm fun t ht => ?_
              rw [hdst' hx]
              rw [hdst' ho] at ht
              exact (Oper.apart_spec (hi' hx hij hj).1).2.1 t ht
        have hdn : ∀ t, o.dst = some t → t < n := fun t ht => by
          have hm : o ∈ ops.toList := List.mem_of_getElem? (by simpa using ho : ops.toList[i]? = some o)
          have := List.all_eq_true.1 hfit o hm
          rw [ht] at this
          simpa using this
        have hS := hstp ho
        -- is it wanted?
        have hwant : Region.wanted o (yielded ops a.tmps) = run i := by
          have hg := hS.guard
          cases hog : o.guard with
          | none => rw [hog] at hg; simp only at hg; rw [hg]; simp [Region.wanted, hog]
          | some jw =>
            obtain ⟨j, want⟩ := jw
            rw [hog] at hg
            simp only at hg
            obtain ⟨t, ht, hg⟩ := hg
            have htl : t ∈ o.looksAt ops := by
              unfold Oper.looksAt
              rw [hog]
              simp [ht]
            rw [← slot t htl] at hg
            obtain ⟨F, β, hst'⟩ := id hst
            have hv := hst'.slots t
            have hlt' : t < a.tmps.size := by
              rw [hst'.len]
              cases hj : ops[j]? with
              | none => rw [hj] at ht; cases ht
              | some oj =>
                rw [hj] at ht
                have hm : oj ∈ ops.toList := List.mem_of_getElem? (by simpa using hj : ops.toList[j]? = some oj)
                have := List.all_eq_true.1 hfit oj hm
                have ht' : oj.dst = some t := ht
                rw [ht'] at this
                simpa using this
            have hgt : a.tmps[t]? = some (a.tmps.getD t Go.undef) := by simp [Array.getD, hlt']
            have hy : ∀ x, a.tmps.getD t Go.undef = x → yielded ops a.tmps j = (match x with | .bool b => some b | _ => none) := by
              intro x e
              unfold yielded
              rw [ht]
              simp only [Option.bind_some, hgt, e]
              cases x <;> rfl
            rcases hg with ⟨b, hb, hr⟩ | ⟨hb, hr⟩
            · have he : a.tmps.getD t Go.undef = .bool b := by
                generalize a.tmps.getD t Go.undef = x at hv
                rcases hb with hb | hb
                · rw [hb] at hv; cases hv; rfl
                · rw [hb] at hv; cases hv with | p hp => cases hp; rfl
              rw [hr]
              simp only [Region.wanted, hog, hy _ he]
              cases b <;> cases want <;> rfl
            · rw [hb] at hv
              have he : a.tmps.getD t Go.undef = .tuple #[] := by generalize a.tmps.getD t Go.undef = x at hv; cases hv; rfl
              rw [hr]
              simp only [Region.wanted, hog, hy _ he]
              rfl
        unfold wpOp
        rw [ho]
        simp only
        rw [hwant]
        cases hr : run i with
        | false =>
          rw [if_neg (by simp)]
          refine next _ w ?_
          obtain ⟨hv, hu⟩ := hS.not hr
          rw [hv, hu]
          cases hd : o.dst with
          | none => exact hst
          | some t =>
            obtain ⟨F, β, h⟩ := hst
            exact ⟨F, β, h.put (hdn t hd) .undef fun k hk => by simp only [AV.men] at hk⟩
        | true =>
          rw [if_pos rfl]
          refine .inl ?_
          obtain ⟨⟨LKi, hLKi, hsem⟩, _⟩ := hS.ran hr
          have hfreeL : ∀ z ∈ ups i, base i ≤ z.1.key → FreeAt (foldD (appU ups) D (look H) ops.size) z.1.key := by
            intro z hz hh1
            have hh2 := hupslt hlt z hz
            have all : ∀ h : Hd, h.key = z.1.key → foldD (appU ups) D (look H) ops.size h = .free := by
              intro h hzh
              rw [← hzh] at hh1 hh2
              have : ∀ m, m ≤ ops.size → foldD (appU ups) D (look H) m h = .free := by
                intro m
                induction m with
                | zero =>
                  intro _
                  exact look_ge (by rw [← hb0]; exact Nat.le_trans (hmono i (by omega) 0 (Nat.zero_le _)) hh1)
                | succ m ihm =>
                  intro hm
                  have ihm := ihm (by omega)
                  simp only [foldD]
                  cases hdm : D m with
                  | false => exact ihm
                  | true =>
                    simp only [cond_true, appU]
                    have hne : m ≠ i := fun e => by rw [e, hDi] at hdm; cases hdm
                    rw [applyUps_other fun x hx e => ?_]
                    · exact ihm
                    · obtain ⟨y, hy⟩ := hget m (by omega)
                      rcases Nat.lt_or_gt_of_ne hne with hmi | hmi
                      · have h1 := hupslt (by omega) x hx
                        have h2 := hmono i (by omega) (m + 1) (by omega)
                        omega
                      · rcases (hi' hy hmi hdm).2 with ⟨_, hqy⟩ | ⟨_, _, hdis⟩
                        · have h1 := hupsge hy hqy x hx
                          have h2 := hmono m (by omega) (i + 1) (by omega)
                          omega
                        · have := hdis.1 z hz x hx
                          omega
              exact this _ (Nat.le_refl _)
            exact ⟨all (.t z.1.key) rfl, fun k => all (.r z.1.key k) rfl⟩
          obtain ⟨LK', hLK', hsem'⟩ : ∃ LK' : Hd → (Blk → Prop) → Prop, (∀ h K, LK' h K → K (foldD (appU ups) D (look H) ops.size h)) ∧ opSem Γ P (fun _ => false) (W0 (foldD (appS dst v) D (getS s) ops.size)) LK' (foldD (appU ups) D (look H) ops.size) (base i) o.op (fun v' ups' => v' = v i ∧ ups' = ups i) := by
            cases hq : quiet0 o.op with
            | false => rw [loud hq, loud hq]; exact ⟨LKi, hLKi, hsem⟩
            | true =>
              refine ⟨LK0 _, fun h K hk => hk, ?_⟩
              have hslot : ∀ x ∈ o.op.operands.toList, rho (foldD (appS dst v) allD (getS s) i) x = rho (foldD (appS dst v) D (getS s) ops.size) x := fun x hx => by
                cases x with
                | tmp t =>
                  exact (slot t (by
                    unfold Oper.looksAt
                    refine List.mem_append_left _ ?_
                    rw [List.mem_filterMap]
                    exact ⟨_, hx, rfl⟩)).symm
                | _ => rfl
              have core : ∀ h, MenOf o (foldD (appS dst v) allD (getS s) i) (foldD (appU ups) allD (look H) i) h → foldD (appU ups) D (look H) ops.size h ≠ .free → foldD (appU ups) allD (look H) i h ≠ .free → foldD (appU ups) D (look H) ops.size h = foldD (appU ups) allD (look H) i h := by
                intro h hRD hne' hne
                have hlth : h.key < base i := by
                  rcases Nat.lt_or_ge h.key (base i) with h' | h'
                  · exact h'
                  · exact (hne (hS.free h h')).elim
                have high : ∀ m, m ≤ ops.size → i ≤ m → foldD (appU ups) D (look H) m h = foldD (appU ups) D (look H) i h := by
                  intro m
                  induction m with
                  | zero => intro _ hm; rw [Nat.le_zero.1 hm]
                  | succ m ihm =>
                    intro hmn hm
                    by_cases e : i = m + 1
                    · rw [e]
                    · have ihm := ihm (by omega) (by omega)
                      simp only [foldD]
                      cases hdm : D m with
                      | false => exact ihm
                      | true =>
                        simp only [cond_true, appU]
                        have hne : i ≠ m := fun e => by rw [e, hdm] at hDi; cases hDi
                        obtain ⟨y, hy⟩ := hget m (by omega)
                        rw [applyUps_other fun x hx e => ?_]
                        · exact ihm
                        · rcases (hi' hy (by omega) hdm).2 with ⟨_, hqy⟩ | ⟨_, _, hdis⟩
                          · have h1 := hupsge hy hqy x hx
                            have h2 := hmono m (by omega) i (by omega)
                            omega
                          · exact hdis.2.2 hr x hx h hRD e
                have low : ∀ m, m ≤ i → foldD (appU ups) D (look H) m h = foldD (appU ups) allD (look H) m h ∨ foldD (appU ups) D (look H) m h = .free := by
                  intro m
                  induction m with
                  | zero => intro _; exact .inl rfl
                  | succ m ihm =>
                    intro hm
                    have ihm := ihm (by omega)
                    obtain ⟨y, hy⟩ := hget m (by omega)
                    simp only [foldD, allD, cond_true, appU]
                    cases hdm : D m with
                    | true =>
                      simp only [cond_true]
                      rcases applyUps_or (ups m) h with e | e
                      · rw [e, e]; exact ihm
                      · exact .inl (e _ _)
                    | false =>
                      simp only [cond_false]
                      rcases lo hy (by omega) with ⟨_, hf⟩ | h'
                      · rcases hf with ⟨hqm, _⟩ | ⟨_, _, hdis⟩
                        · by_cases hex : ∃ x ∈ ups m, x.1.key = h.key
                          · obtain ⟨x, hx, e⟩ := hex
                            have := hupsge hy hqm x hx
                            have hfr := (hstp hy).free h (by omega)
                            rcases ihm with ihm | ihm
                            · exact .inr (ihm.trans hfr)
                            · exact .inr ihm
                          · have hex' : ∀ x ∈ ups m, x.1.key ≠ h.key := fun x hx e => hex ⟨x, hx, e⟩
                            rw [applyUps_other hex']
                            exact ihm
                        · have hex' : ∀ x ∈ ups m, x.1.key ≠ h.key := fun x hx e => hdis.2.1 hr x hx h hRD e
                          rw [applyUps_other hex']
                          exact ihm
                      · rw [hdm] at h'; cases h'
                rw [high ops.size (Nat.le_refl _) (by omega)] at hne' ⊢
                rcases low i (Nat.le_refl _) with h | h
                · exact h
                · exact (hne' h).elim
              obtain ⟨F, β, hst'⟩ := id hst
              refine opSem_congr hLKi hq hslot (fun hlk x hx h hm hne => ?_) hsem
              have zero : ∀ k, (rho (foldD (appS dst v) D (getS s) ops.size) x).men k → foldD (appU ups) allD (look H) i k ≠ .free → foldD (appU ups) D (look H) ops.size k = foldD (appU ups) allD (look H) i k := fun k hk hne => by
                refine core k ⟨hlk, x, hx, .inl (by rw [hslot x hx]; exact hk)⟩ ?_ hne
                cases x with
                | tmp t => exact hst'.ms t k hk
                | const c => exact (cval_men c k hk).elim
                | global g => simp only [rho, AV.men] at hk
                | func f => simp [rho, AV.men, AV.menL] at hk
              have nfr : ∀ k j, (foldD (appU ups) allD (look H) i k).men j → foldD (appU ups) allD (look H) i k ≠ .free := fun k j hj e => by rw [e] at hj; exact hj.elim
              have one : ∀ k j, (rho (foldD (appS dst v) D (getS s) ops.size) x).men k → (foldD (appU ups) allD (look H) i k).men j → foldD (appU ups) allD (look H) i j ≠ .free → foldD (appU ups) D (look H) ops.size j = foldD (appU ups) allD (look H) i j := fun k j hk hj hne => by
                refine core j ⟨hlk, x, hx, .inr (.inl ⟨k, by rw [hslot x hx]; exact hk, hj⟩)⟩ ?_ hne
                exact hst'.mb k j (by rw [zero k hk (nfr k j hj)]; exact hj)
              rcases hm with hm | ⟨k, h1, h2⟩ | ⟨k, k', h1, h2, h3⟩
              · exact zero h hm hne
              · exact one k h h1 h2 hne
              · refine core h ⟨hlk, x, hx, .inr (.inr ⟨k, k', by rw [hslot x hx]; exact h1, h2, h3⟩)⟩ ?_ hne
                exact hst'.mb k' h (by rw [one k k' h1 h2 (nfr k' h h3)]; exact h3)
          refine Oper.wp_mono ?_ (op_ok (E := E) (n := n) (wr := fun _ => false) (W := W0 _) (LK := LK') (base := base i) hΓ (fun x K h => h) hLK' hst (fun v' u' hvu x hx hge => ?_) o hdn Q hsem')
          · intro a' w' hafter
            obtain ⟨v', u', ⟨rfl, rfl⟩, hst'⟩ := hafter
            exact next a' w' hst'
          · obtain ⟨_, rfl⟩ := hvu
            exact hfreeL x hx hge
  refine key ops.size _ a w (by simp) (fun j o hj => ?_) ?_ ?_
  · simp [Array.getD_eq_getD_getElem?, Array.getElem?_replicate] at hj
    split at hj <;> simp at hj
  · exact Nat.le_trans (List.length_filter_le _ _) (by simp)
  · have e : (fun j => (Array.replicate ops.size false).getD j false) = fun _ => false := by
      funext j
      simp [Array.getD_eq_getD_getElem?, Array.getElem?_replicate]
      split <;> rfl
    have z : ∀ {σ : Type} (app : σ → Nat → σ) (x : σ) (m : Nat), foldD app (fun _ => false) x m = x := by
      intro σ app x m
      induction m with
      | zero => rfl
      | succ m ih => exact ih
    rw [e, z, z]
    exact hst

theorem draw_ok (hΓ : GOK P Γ) (ops : Array Oper) (hfit : opsFit n ops.toList = true) (hok : drawOK ops = true) (Q : Exit → Act → World → Prop) (K : Sl → Hp → Prop) (hQ : ∀ s H a w, K s H → St E n (getS s) (look H) a w → Q .normal a w)
    (s : Sl) (H : Hp) (a : Act) (w : World) (hk : vcDraw Γ P ops ops.toList K s H) (hst : St E n (getS s) (look H) a w) : wpAny P .any ops Q ops.size (Array.replicate ops.size false) a w := by
  obtain ⟨v, ups, base, run, hstp, s', H', hK, e1, e2, hb0⟩ := vcDraw_trace ops ops.toList K s H hk
  refine draw_core hΓ ops hfit (fun ho => drawOK_dep hok ho) Q s H a w v ups base run hstp s' H' (fun a w h => hQ s' H' a w hK h) e1 e2 hb0 (fun {i j x y} hx hy hij => ?_) hst
  rcases drawOK_pair hok hx hy hij with ⟨h1, h2⟩ | h
  · exact .inl ⟨h1, .inl h2⟩
  · exact .inr h
theorem drawX_ok (hΓ : GOK P Γ) (ops : Array Oper) (hfit : opsFit n ops.toList = true) (hok : drawOKX ops = true) (Q : Exit → Act → World → Prop) (K : Sl → Hp → Prop) (hQ : ∀ s H a w, K s H → St E n (getS s) (look H) a w → Q .normal a w)
    (s : Sl) (H : Hp) (a : Act) (w : World) (hk : vcDrawX Γ P ops ops.toList (fun acc s H => SFin (dynOK ops acc) (K s H)) [] s H) (hst : St E n (getS s) (look H) a w) : wpAny P .any ops Q ops.size (Array.replicate ops.size false) a w := by
  obtain ⟨v, ups, base, run, hstp, s', H', ⟨acc, hlen, ⟨hdy, hK⟩, hacc⟩, e1, e2, hb0⟩ := vcDrawX_trace ops ops.toList (fun acc s H => SFin (dynOK ops acc) (K s H)) [] s H hk
  refine draw_core hΓ ops hfit (fun ho => drawOKX_dep hok ho) Q s H a w v ups base run hstp s' H' (fun a w h => hQ s' H' a w hK h) e1 e2 hb0 (fun {i j x y} hx hy hij => ?_) hst
  rw [List.nil_append] at hdy
  rcases drawOKX_pair hok hdy hx hy hij with ⟨h1, h2⟩ | h
  · refine .inl ⟨h1, ?_⟩
    rcases h2 with h2 | ⟨q1, q2, hd⟩
    · exact .inl h2
    · obtain ⟨rx, ax, mx⟩ := hacc i x (by simpa using hx)
      obtain ⟨ry, ay, my⟩ := hacc j y (by simpa using hy)
      have ex : acc.getD i ([], []) = (rx, (ups i).map fun x => x.1.key) := by simp [List.getD, ax]
      have ey : acc.getD j ([], []) = (ry, (ups j).map fun x => x.1.key) := by simp [List.getD, ay]
      rw [ex, ey] at hd
      simp only [disjB, Bool.and_eq_true, List.all_eq_true] at hd
      obtain ⟨d1, d2, d3⟩ := hd
      have ne : ∀ {g h : Nat}, (!(Nat.beq g h)) = true → g ≠ h := fun {g h} hb e => by subst e; simp at hb
      have mem : ∀ {u : Ups} {p : Hd × Blk}, p ∈ u → p.1.key ∈ u.map fun x => x.1.key := fun {u p} hp => List.mem_map.2 ⟨p, hp, rfl⟩
      refine .inr ⟨q1, q2, fun p hp q hq => ne (d1 _ (mem hp) _ (mem hq)), fun hr p hp h hm => ?_, fun hr q hq h hm => ?_⟩
      · exact ne (d2 _ (mem hp) _ (my hr _ hm))
      · exact ne (d3 _ (mem hq) _ (mx hr _ hm))
  · exact .inr h
end
end Go.Proofs.Ytkaooejeljdbnaa
