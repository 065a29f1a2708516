/- Each operation does to the machine what 'opSem' says (tenth part): calls. -/
import Derived.Test.YtkaooejeljdbnaaAb11
namespace Go.Proofs.Ytkaooejeljdbnaa
open Go
set_option linter.unusedVariables false
set_option linter.unusedSimpArgs false

theorem AV.renL_eq (ρ : Hd → Hd) (cs : List AV) : AV.renL ρ cs = cs.map (AV.ren ρ) := by
  induction cs with
  | nil => rfl
  | cons c cs ih => simp only [AV.renL, ih, List.map_cons]

theorem AV.one_ren (ρ : Hd → Hd) (c : AV) : (c.ren ρ).one = c.one := by cases c <;> rfl

theorem AV.menL_iff {cs : List AV} {k : Hd} : AV.menL cs k ↔ ∃ c ∈ cs, c.men k := by
  induction cs with
  | nil => simp [AV.menL]
  | cons c cs ih => simp [AV.menL, ih]

theorem VR.ren {w FB} {β β' : Hd → Option Nat × Nat} {ρ : Hd → Hd} {c : AV} {v : Value} (h : VR w FB β c v) : (∀ k, c.men k → β' (ρ k) = β k) → VR w FB β' (c.ren ρ) v := by
  induction h with
  | any v => exact fun _ => .any v
  | undef => exact fun _ => .undef
  | tf b => exact fun _ => .tf b
  | empn => exact fun _ => .empn
  | emp b off => exact fun _ => .emp b off
  | p h => exact fun _ => .p h
  | bptr hb => exact fun H => .bptr (by rw [H _ rfl]; exact hb)
  | eptr hb => exact fun H => .eptr (by rw [H _ rfl]; exact hb)
  | @vec h W off len b o c hb hc hm ho => intro H; have := H h rfl; rw [← this] at hb hm; exact .vec hb hc hm ho
  | vecn a ha hb => exact fun H => .vecn a ha (by rw [H _ rfl]; exact hb)
  | map hb => exact fun H => .map (by rw [H _ rfl]; exact hb)
  | agg cs vs hone hl _ ih =>
    intro H
    simp only [AV.ren, AV.renL_eq]
    refine .agg _ vs (fun c hc => by obtain ⟨d, hd, rfl⟩ := List.mem_map.1 hc; rw [AV.one_ren]; exact hone d hd) (by simpa using hl) fun i c v e1 e2 => ?_
    rw [List.getElem?_map] at e1
    cases e : cs[i]? with
    | none => rw [e] at e1; cases e1
    | some d => rw [e] at e1; cases e1; exact ih i d v e e2 fun k hk => H k (by simp only [AV.men]; exact AV.menL_mem (List.mem_of_getElem? e) hk)
  | tup cs vs hl _ ih =>
    intro H
    simp only [AV.ren, AV.renL_eq]
    refine .tup _ vs (by simpa using hl) fun i c v e1 e2 => ?_
    rw [List.getElem?_map] at e1
    cases e : cs[i]? with
    | none => rw [e] at e1; cases e1
    | some d => rw [e] at e1; cases e1; exact ih i d v e e2 fun k hk => H k (by simp only [AV.men]; exact AV.menL_mem (List.mem_of_getElem? e) hk)
  | fn f first caps fs vs hfl _ hl _ ih1 ih2 =>
    intro H
    simp only [AV.ren, AV.renL_eq]
    refine .fn f _ _ fs vs (by simpa using hfl) (fun i c v e1 e2 => ?_) (by simpa using hl) (fun i c v e1 e2 => ?_)
    · rw [List.getElem?_map] at e1
      cases e : first[i]? with
      | none => rw [e] at e1; cases e1
      | some d => rw [e] at e1; cases e1; exact ih1 i d v e e2 fun k hk => H k (by simp only [AV.men]; exact .inl (AV.menL_mem (List.mem_of_getElem? e) hk))
    · rw [List.getElem?_map] at e1
      cases e : caps[i]? with
      | none => rw [e] at e1; cases e1
      | some d => rw [e] at e1; cases e1; exact ih2 i d v e e2 fun k hk => H k (by simp only [AV.men]; exact .inr (AV.menL_mem (List.mem_of_getElem? e) hk))

theorem VR.unren {w FB} {β : Hd → Option Nat × Nat} {ρ : Hd → Hd} {c d : AV} {v : Value} (h : VR w FB β d v) : d = c.ren ρ → VR w FB (fun k => β (ρ k)) c v := by
  have sub : ∀ {cs ds : List AV}, ds = AV.renL ρ cs → ∀ {i : Nat} {x : AV}, cs[i]? = some x → ds[i]? = some (x.ren ρ) := by
    intro cs ds e i x hx
    rw [e, AV.renL_eq, List.getElem?_map, hx]; rfl
  induction h generalizing c with
  | any v => intro e; cases c <;> simp [AV.ren] at e; exact .any v
  | undef => intro e; cases c <;> simp [AV.ren] at e; exact .undef
  | tf b => intro e; cases c <;> simp [AV.ren] at e; subst e; exact .tf _
  | empn => intro e; cases c <;> simp [AV.ren] at e; exact .empn
  | emp b off => intro e; cases c <;> simp [AV.ren] at e; exact .emp b off
  | p h => intro e; cases c <;> simp [AV.ren] at e; subst e; exact .p h
  | bptr hb => intro e; cases c <;> simp [AV.ren] at e; obtain ⟨rfl, rfl⟩ := e; exact .bptr hb
  | eptr hb => intro e; cases c <;> simp [AV.ren] at e; obtain ⟨rfl, rfl, rfl, rfl⟩ := e; exact .eptr hb
  | vec hb hc hm ho => intro e; cases c <;> simp [AV.ren] at e; obtain ⟨rfl, rfl, rfl, rfl⟩ := e; exact VR.vec (β := fun k => β (ρ k)) hb hc hm ho
  | vecn a ha hb => intro e; cases c <;> simp [AV.ren] at e; obtain ⟨rfl, rfl, rfl, rfl⟩ := e; exact .vecn a ha hb
  | map hb => intro e; cases c <;> simp [AV.ren] at e; subst e; exact .map hb
  | agg ds vs hone hl _ ih =>
    intro e
    cases c <;> simp [AV.ren] at e
    rename_i cs
    refine .agg cs vs (fun x hx => ?_) (by rw [hl, e, AV.renL_eq, List.length_map]) fun i x v h1 h2 => ih i _ v (sub e h1) h2 rfl
    rw [← AV.one_ren ρ]; exact hone _ (by rw [e, AV.renL_eq]; exact List.mem_map_of_mem hx)
  | tup ds vs hl _ ih =>
    intro e
    cases c <;> simp [AV.ren] at e
    rename_i cs
    exact .tup cs vs (by rw [hl, e, AV.renL_eq, List.length_map]) fun i x v h1 h2 => ih i _ v (sub e h1) h2 rfl
  | fn f first caps fs vs hfl _ hl _ ih1 ih2 =>
    intro e
    cases c <;> simp [AV.ren] at e
    rename_i f' first' caps'
    obtain ⟨rfl, e1, e2⟩ := e
    exact .fn _ first' caps' fs vs (by rw [hfl, e1, AV.renL_eq, List.length_map]) (fun i x v h1 h2 => ih1 i _ v (sub e1 h1) h2 rfl) (by rw [hl, e2, AV.renL_eq, List.length_map]) (fun i x v h1 h2 => ih2 i _ v (sub e2 h1) h2 rfl)

theorem AV.men_ren {ρ : Hd → Hd} : ∀ {c : AV} {k : Hd}, (c.ren ρ).men k → ∃ j, c.men j ∧ k = ρ j := by
  have key : ∀ (m : Nat) (c : AV), SizeOf.sizeOf c ≤ m → ∀ k, (c.ren ρ).men k → ∃ j, c.men j ∧ k = ρ j := by
    intro m
    induction m with
    | zero => intro c hc; cases c <;> simp at hc
    | succ m ih =>
      intro c hc k hk
      have list : ∀ cs : List AV, SizeOf.sizeOf cs ≤ m → AV.menL (AV.renL ρ cs) k → ∃ j, AV.menL cs j ∧ k = ρ j := by
        intro cs hcs hk
        rw [AV.renL_eq, AV.menL_iff] at hk
        obtain ⟨d, hd, hk⟩ := hk
        obtain ⟨c, hc, rfl⟩ := List.mem_map.1 hd
        have := List.sizeOf_lt_of_mem hc
        obtain ⟨j, h1, h2⟩ := ih c (by omega) k hk
        exact ⟨j, AV.menL_mem hc h1, h2⟩
      cases c <;> simp only [AV.ren, AV.men] at hk
      case bptr h o => exact ⟨h, rfl, hk.symm⟩
      case eptr h _ _ _ => exact ⟨h, rfl, hk.symm⟩
      case vec h _ _ _ => exact ⟨h, rfl, hk.symm⟩
      case map h => exact ⟨h, rfl, hk.symm⟩
      case agg cs => obtain ⟨j, h1, h2⟩ := list cs (by simp at hc; omega) hk; exact ⟨j, by simpa only [AV.men] using h1, h2⟩
      case tup cs => obtain ⟨j, h1, h2⟩ := list cs (by simp at hc; omega) hk; exact ⟨j, by simpa only [AV.men] using h1, h2⟩
      case fn f fs cs =>
        rcases hk with hk | hk
        · obtain ⟨j, h1, h2⟩ := list fs (by simp at hc; omega) hk; exact ⟨j, by simp only [AV.men]; exact .inl h1, h2⟩
        · obtain ⟨j, h1, h2⟩ := list cs (by simp at hc; omega) hk; exact ⟨j, by simp only [AV.men]; exact .inr h1, h2⟩
  exact fun {c k} hk => key _ c (Nat.le_refl _) k hk

theorem AV.ren_men {ρ : Hd → Hd} : ∀ {c : AV} {k : Hd}, c.men k → (c.ren ρ).men (ρ k) := by
  have key : ∀ (m : Nat) (c : AV), SizeOf.sizeOf c ≤ m → ∀ k, c.men k → (c.ren ρ).men (ρ k) := by
    intro m
    induction m with
    | zero => intro c hc; cases c <;> simp at hc
    | succ m ih =>
      intro c hc k hk
      have list : ∀ cs : List AV, SizeOf.sizeOf cs ≤ m → AV.menL cs k → AV.menL (AV.renL ρ cs) (ρ k) := by
        intro cs hcs hk
        rw [AV.menL_iff] at hk
        obtain ⟨d, hd, hk⟩ := hk
        have := List.sizeOf_lt_of_mem hd
        rw [AV.renL_eq, AV.menL_iff]
        exact ⟨_, List.mem_map_of_mem hd, ih d (by omega) k hk⟩
      cases c <;> simp only [AV.men] at hk <;> simp only [AV.ren, AV.men]
      case bptr h o => rw [hk]
      case eptr h _ _ _ => rw [hk]
      case vec h _ _ _ => rw [hk]
      case map h => rw [hk]
      case agg cs => exact list cs (by simp at hc; omega) hk
      case tup cs => exact list cs (by simp at hc; omega) hk
      case fn f fs cs =>
        rcases hk with hk | hk
        · exact .inl (list fs (by simp at hc; omega) hk)
        · exact .inr (list cs (by simp at hc; omega) hk)
  exact fun {c k} hk => key _ c (Nat.le_refl _) k hk

theorem Own.ren {w FB} {β β' : Hd → Option Nat × Nat} {ρ : Hd → Hd} {h : Hd} {B : Blk} (ho : Own w FB β h B) (hβ : B.live → β' (ρ h) = β h) (hm : ∀ k, B.men k → β' (ρ k) = β k) : Own w FB β' (ρ h) (B.ren ρ) := by
  cases B with
  | free => trivial
  | dead => trivial
  | pool T W rows => trivial
  | iter m es seen =>
    obtain ⟨b, mb, en, clock, sb, h1, h2⟩ := ho
    exact ⟨b, mb, en, clock, sb, by rw [hβ trivial]; exact h1, h2⟩
  | box T cs =>
    obtain ⟨h0, b, arr, h1, h2, h3, h4⟩ := ho
    refine ⟨fun c hc => ?_, b, arr, by rw [hβ trivial]; exact h1, h2, by rw [h3, AV.renL_eq, List.length_map], fun i c v e1 e2 => ?_⟩
    · rw [AV.renL_eq] at hc
      obtain ⟨d, hd, rfl⟩ := List.mem_map.1 hc
      rw [AV.one_ren]; exact h0 d hd
    · rw [AV.renL_eq, List.getElem?_map] at e1
      cases e : cs[i]? with
      | none => rw [e] at e1; cases e1
      | some d => rw [e] at e1; cases e1; exact (h4 i d v e e2).ren fun k hk => hm k (AV.menL_mem (List.mem_of_getElem? e) hk)
  | vec T W es =>
    obtain ⟨h1, h2, h3⟩ := ho
    have e := hβ trivial
    refine ⟨h1, by rw [e]; exact h2, ?_⟩
    rcases h3 with h3 | ⟨b, arr, g1, g2, g3, g4⟩
    · exact .inl (by rw [e]; exact h3)
    · exact .inr ⟨b, arr, by rw [e]; exact g1, g2, by rw [e]; exact g3, g4⟩
  | map es =>
    obtain ⟨b, en, clock, h1, h2⟩ := ho
    exact ⟨b, en, clock, by rw [hβ trivial]; exact h1, h2⟩
  | rows T cs =>
    obtain ⟨h1, h2, h3⟩ := ho
    have e := hβ trivial
    refine ⟨fun c hc => ?_, by rw [e, AV.renL_eq, List.length_map]; exact h2, ?_⟩
    · rw [AV.renL_eq] at hc
      obtain ⟨d, hd, rfl⟩ := List.mem_map.1 hc
      rw [AV.one_ren]; exact h1 d hd
    rcases h3 with h3 | ⟨b, arr, g1, g2, g3, g4⟩
    · exact .inl (by rw [e]; exact h3)
    · refine .inr ⟨b, arr, by rw [e]; exact g1, g2, by rw [e]; exact g3, fun i c v e1 e2 => ?_⟩
      rw [AV.renL_eq, List.getElem?_map] at e1
      cases e' : cs[i]? with
      | none => rw [e'] at e1; cases e1
      | some d => rw [e'] at e1; cases e1; exact (g4 i d v e' e2).ren fun k hk => hm k (AV.menL_mem (List.mem_of_getElem? e') hk)

theorem Own.unren {w FB} {β : Hd → Option Nat × Nat} {ρ : Hd → Hd} {h : Hd} {B : Blk} (ho : Own w FB β (ρ h) (B.ren ρ)) : Own w FB (fun k => β (ρ k)) h B := by
  cases B with
  | free => trivial
  | dead => trivial
  | pool T W rows => trivial
  | iter m es seen => exact ho
  | box T cs =>
    obtain ⟨h0, b, arr, h1, h2, h3, h4⟩ := ho
    have e := AV.renL_eq ρ cs
    refine ⟨fun c hc => ?_, b, arr, h1, h2, by rw [h3, e, List.length_map], fun i c v e1 e2 => ?_⟩
    · rw [← AV.one_ren ρ]; exact h0 _ (by rw [e]; exact List.mem_map_of_mem hc)
    · exact (h4 i (c.ren ρ) v (by rw [e, List.getElem?_map, e1]; rfl) e2).unren rfl
  | vec T W es => exact ho
  | map es => exact ho
  | rows T cs =>
    obtain ⟨h1, h2, h3⟩ := ho
    have e := AV.renL_eq ρ cs
    refine ⟨fun c hc => ?_, by rw [e, List.length_map] at h2; exact h2, ?_⟩
    · rw [← AV.one_ren ρ]; exact h1 _ (by rw [e]; exact List.mem_map_of_mem hc)
    · rcases h3 with h3 | ⟨b, arr, g1, g2, g3, g4⟩
      · exact .inl h3
      · exact .inr ⟨b, arr, g1, g2, g3, fun i c v e1 e2 => (g4 i (c.ren ρ) v (by rw [e, List.getElem?_map, e1]; rfl) e2).unren rfl⟩


theorem Blk.live_ren (ρ : Hd → Hd) (B : Blk) : (B.ren ρ).live ↔ B.live := by cases B <;> exact Iff.rfl
theorem Blk.men_ren {ρ : Hd → Hd} {B : Blk} {k : Hd} (h : (B.ren ρ).men k) : ∃ j, B.men j ∧ k = ρ j := by
  cases B with
  | box T cs =>
    have h : AV.menL (AV.renL ρ cs) k := h
    rw [AV.renL_eq, AV.menL_iff] at h
    obtain ⟨d, hd, hk⟩ := h
    obtain ⟨c, hc, rfl⟩ := List.mem_map.1 hd
    obtain ⟨j, h1, h2⟩ := AV.men_ren hk
    exact ⟨j, AV.menL_mem hc h1, h2⟩
  | rows T cs =>
    have h : AV.menL (AV.renL ρ cs) k := h
    rw [AV.renL_eq, AV.menL_iff] at h
    obtain ⟨d, hd, hk⟩ := h
    obtain ⟨c, hc, rfl⟩ := List.mem_map.1 hd
    obtain ⟨j, h1, h2⟩ := AV.men_ren hk
    exact ⟨j, AV.menL_mem hc h1, h2⟩
  | _ => exact h.elim

theorem Blk.ren_men {ρ : Hd → Hd} {B : Blk} {k : Hd} (h : B.men k) : (B.ren ρ).men (ρ k) := by
  cases B with
  | box T cs => exact AV.ren_men (c := .agg cs) h
  | rows T cs => exact AV.ren_men (c := .agg cs) h
  | _ => exact h.elim

theorem FBof_mono {B B' F F' : Nat → Prop} (h1 : ∀ b, B b → B' b) (h2 : ∀ b, F b → F' b) : ∀ m b, FBof B F m b → FBof B' F' m b := by
  intro m b; cases m
  · exact h2 b
  · exact h1 b

theorem renN_inj {hs : List Nat} {base i j : Nat} (hn : hs.Nodup) (hb : ∀ h ∈ hs, h < base) (h : renN hs base i = renN hs base j) : i = j := by
  have get : ∀ i, i < hs.length → hs.getD i 0 ∈ hs ∧ hs[i]? = some (hs.getD i 0) := fun i hi => by
    have e : hs[i]? = some hs[i] := List.getElem?_eq_getElem hi
    have : hs.getD i 0 = hs[i] := by simp [List.getD, e]
    rw [this]; exact ⟨List.getElem_mem hi, e⟩
  unfold renN at h
  split at h <;> split at h
  · rename_i h1 h2
    have e1 := (get i h1).2
    have e2 := (get j h2).2
    rw [h] at e1
    exact (List.getElem?_inj h1 hn).1 (e1.trans e2.symm)
  · rename_i h1 h2
    have := hb _ (get i h1).1; omega
  · rename_i h1 h2
    have := hb _ (get j h2).1; omega
  · omega
theorem renOf_inj {hs : List Nat} {base : Nat} {i j : Hd} (hn : hs.Nodup) (hb : ∀ h ∈ hs, h < base) (h : renOf hs base i = renOf hs base j) : i = j := by
  cases i <;> cases j <;> simp only [renOf, Hd.t.injEq, Hd.r.injEq, reduceCtorEq] at h
  · rw [renN_inj hn hb h]
  · rw [renN_inj hn hb h.1, h.2]
theorem renOf_key {hs : List Nat} {base : Nat} {i : Hd} : (renOf hs base i).key = renN hs base i.key := by cases i <;> rfl

def Blk.isPool : Blk → Bool
  | .pool _ _ _ => true
  | _ => false
theorem updB_t {L : Hd → Blk} {n : Nat} {B : Blk} : updB L (.t n) B (.t n) = B.top := by
  cases B <;> first | exact upd_same _ _ _ | simp [updB, updPool, Blk.top]
theorem updB_row {L : Hd → Blk} {n k : Nat} {B : Blk} (h : B.isPool = false → L (.r n k) = .free) : updB L (.t n) B (.r n k) = B.row k := by
  cases B <;> first
    | (simp only [updB]; rw [upd_other _ _ (fun e => by cases e), h rfl]; rfl)
    | (simp only [updB, updPool, if_true])
theorem updB_other {L : Hd → Blk} {n : Nat} {B : Blk} {g : Hd} (h : g.key ≠ n) : updB L (.t n) B g = L g := by
  have ne : g ≠ .t n := fun e => h (by rw [e]; rfl)
  cases B <;> first
    | (simp only [updB]; exact upd_other _ _ ne)
    | (cases g <;> simp only [updB, updPool] <;> exact if_neg h)
theorem Blk.free_ren {ρ : Hd → Hd} {B : Blk} : B.ren ρ = .free ↔ B = .free := by cases B <;> simp [Blk.ren]
theorem Blk.isPool_ren (ρ : Hd → Hd) (B : Blk) : (B.ren ρ).isPool = B.isPool := by cases B <;> rfl
theorem Blk.row_ren (ρ : Hd → Hd) (B : Blk) (k : Nat) : (B.ren ρ).row k = B.row k := by cases B <;> rfl
theorem Blk.top_ren (ρ : Hd → Hd) (B : Blk) : (B.ren ρ).top = B.top.ren ρ := by cases B <;> rfl
theorem Blk.row_flat (ρ : Hd → Hd) (B : Blk) (k : Nat) : (B.row k).ren ρ = B.row k := by
  cases B <;> first | rfl | (simp only [Blk.row]; split <;> rfl)
theorem Blk.row_nomen (B : Blk) (k : Nat) (j : Hd) : ¬ (B.row k).men j := by
  cases B <;> first | exact fun h => h | (simp only [Blk.row]; split <;> exact fun h => h)
theorem look_ren (ρ : Hd → Hd) (H : List Blk) : ∀ h, look (H.map (Blk.ren ρ)) h = (look H h).ren ρ := by
  intro h
  have e : ∀ n, (H.map (Blk.ren ρ)).getD n .free = (H.getD n .free).ren ρ := fun n => by
    simp only [List.getD, List.getElem?_map]
    cases H[n]? <;> rfl
  cases h with
  | t n => simp only [look, e, Blk.top_ren]
  | r n k => simp only [look, e, Blk.row_ren, Blk.row_flat]

theorem applyUps_out (hs : List Nat) (base : Nat) (hn : hs.Nodup) (hb : ∀ h ∈ hs, h < base) (g : Blk → Blk) : ∀ (l : List Blk) (o : Nat) (L : Hd → Blk),
    (∀ i B k, l[i]? = some B → (g B).isPool = false → L (.r (renN hs base (o + i)) k) = .free) →
    (∀ i, i < l.length → applyUps L ((l.zipIdx o).map fun x => (.t (renN hs base x.2), g x.1)) (.t (renN hs base (o + i))) = (g (l.getD i .free)).top ∧
      ∀ k, applyUps L ((l.zipIdx o).map fun x => (.t (renN hs base x.2), g x.1)) (.r (renN hs base (o + i)) k) = (g (l.getD i .free)).row k) ∧
    (∀ k : Hd, (∀ i, i < l.length → k.key ≠ renN hs base (o + i)) → applyUps L ((l.zipIdx o).map fun x => (.t (renN hs base x.2), g x.1)) k = L k) := by
  intro l
  induction l with
  | nil => intro o L _; exact ⟨fun i hi => absurd hi (by simp), fun k _ => rfl⟩
  | cons B l ih =>
    intro o L hfr
    obtain ⟨h1, h2⟩ := ih (o + 1) (updB L (.t (renN hs base o)) (g B)) (fun i B' k hi hp => by
      rw [updB_other (by show renN hs base (o + 1 + i) ≠ _; intro e; have := renN_inj hn hb e; omega)]
      have := hfr (i + 1) B' k (by simpa using hi) hp
      rw [show o + 1 + i = o + (i + 1) by omega]; exact this)
    refine ⟨fun i hi => ?_, fun k hk => ?_⟩
    · cases i with
      | zero =>
        refine ⟨?_, fun k => ?_⟩
        · show applyUps (updB L (.t (renN hs base o)) (g B)) ((l.zipIdx (o + 1)).map fun x => (.t (renN hs base x.2), g x.1)) (.t (renN hs base o)) = (g B).top
          rw [h2 _ fun j hj e => by have := renN_inj hn hb e; omega, updB_t]
        · show applyUps (updB L (.t (renN hs base o)) (g B)) ((l.zipIdx (o + 1)).map fun x => (.t (renN hs base x.2), g x.1)) (.r (renN hs base o) k) = (g B).row k
          rw [h2 _ fun j hj e => by have := renN_inj hn hb e; omega]
          exact updB_row (L := L) (n := renN hs base o) (k := k) (B := g B) (hfr 0 B k rfl)
      | succ i =>
        have := h1 i (by simpa using hi)
        rw [show o + 1 + i = o + (i + 1) by omega] at this
        exact this
    · have := h2 k fun i hi => by have := hk (i + 1) (by simpa using hi); rw [show o + 1 + i = o + (i + 1) by omega]; exact this
      show applyUps (updB L (.t (renN hs base o)) (g B)) ((l.zipIdx (o + 1)).map fun x => (.t (renN hs base x.2), g x.1)) k = L k
      rw [this, updB_other (by have := hk 0 (by simp); simpa using this)]
end Go.Proofs.Ytkaooejeljdbnaa
