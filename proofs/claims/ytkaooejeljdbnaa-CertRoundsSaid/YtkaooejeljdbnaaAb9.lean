/- Each operation does to the machine what 'opSem' says (seventh part). -/
import Derived.Test.YtkaooejeljdbnaaAb8
namespace Go.Proofs.Ytkaooejeljdbnaa
open Go
set_option linter.unusedVariables false
set_option linter.unusedSimpArgs false

section
variable {P : Program} {Γ : Tab} {E : Env} {n : Nat} {s : Nat → AV} {L : Hd → Blk} {a : Act} {w : World} {F : Nat → Prop} {β : Hd → Option Nat × Nat} {K : AV → List (Hd × Blk) → Prop}
  {W : Operand → (AV → Prop) → Prop} {LK : Hd → (Blk → Prop) → Prop} {wr : FuncId → Bool} {base : Nat}

theorem out_p (h : StI E n s L a w F β) {v : PV} {x : Value} (hk : K (.p v) []) (hv : PR w (FBof E.Bor F) v x) : Out P E n s L a K (.ok x w) := .same h hk (.p hv) fun k hk => by simp only [AV.men] at hk

theorem run_sliceAt {t e : TypeId} (hu : P.underlying t = some (.slice e)) {sz : Nat} (hs : (sizeOf e).run P w = .ok sz w) (b : Option Addr) (len cap l h m : Nat) (lo hi mx : Option Value)
    (hb : (Instr.sliceBounds true len cap lo hi mx).run P w = .ok (l, h, m) w) :
    (Instr.sliceAt t (.slice b len cap) lo hi mx).run P w = .ok (.slice (if m = l then b else b.map (·.add (l * sz))) (h - l) (m - l)) w := by
  simp [Instr.sliceAt, run_underlying hu, Instr.slice, hb, hs]

theorem out_slice (hΓ : GOK P Γ) (hW : ∀ x K, W x K → K (rho s x)) (h : StI E n s L a w F β) {t : TypeId} {x : Operand} {lo hi mx : Option Operand} (hk : opSem Γ P wr W LK L base (.slice t x lo hi mx) K) :
    Out P E n s L a K ((Instr.sliceAt t (a.eval x) (lo.map a.eval) (hi.map a.eval) (mx.map a.eval)).run P w) := by
  simp only [opSem] at hk
  have hx := h.ev x
  have hxm := h.evm x
  have hk := hW x _ hk
  generalize rho s x = vx at hk hx hxm
  generalize a.eval x = ax at hx
  unfold sliceK at hk
  split at hk
  · rename_i m Wd es
    have hmh : (mx.isNone || hi.isSome) = true ∧ elemK Γ t fun _ i => cond (Nat.beq i.size Wd) (optK W lo 0 fun l => optK W hi es.length fun h => optK W mx h fun mm => SZ mm fun mm' => SLt (mm' - h).natAbs 1 (SCut l h es.length fun l h =>
      SEs ((es.take h).drop l) fun es' => K (.p (.sl m Wd es')) [])) False := by
      cases e : (mx.isNone || hi.isSome) with
      | false => rw [e] at hk; exact hk.elim
      | true => rw [e] at hk; exact ⟨rfl, hk⟩
    obtain ⟨hmh, hk⟩ := hmh
    obtain ⟨e, i, hu, hie, hk⟩ := elemK_ok hΓ hk
    obtain ⟨hWd, hk⟩ := cond_beq hk
    subst hWd
    have hsz := size_run hΓ hie w
    -- the bounds
    have key : ∃ l hh : Nat, (lo.map a.eval = none ∧ l = 0 ∨ ∃ k, lo.map a.eval = some (.int k (l : Int))) ∧ (hi.map a.eval = none ∧ hh = es.length ∨ ∃ k, hi.map a.eval = some (.int k (hh : Int))) ∧
        (mx.map a.eval = none ∨ (∃ k, mx.map a.eval = some (.int k (hh : Int)))) ∧ l ≤ hh ∧ hh ≤ es.length ∧ K (.p (.sl m i.size ((es.take hh).drop l))) [] := by
      have fin : ∀ (zl zh zm : Int), (SZ zm fun mm' => SLt (mm' - zh).natAbs 1 (SCut zl zh es.length fun l h => SEs ((es.take h).drop l) fun es' => K (.p (.sl m i.size es')) [])) →
          ∃ l hh : Nat, zl = l ∧ zh = hh ∧ zm = hh ∧ l ≤ hh ∧ hh ≤ es.length ∧ K (.p (.sl m i.size ((es.take hh).drop l))) [] := by
        intro zl zh zm hk
        obtain ⟨mm', hmm, hlt, l, hh, hl, hhh, h1, h2, es', hes, hk⟩ := hk
        subst hes
        exact ⟨l, hh, hl, hhh, by omega, h1, h2, hk⟩
      rcases optK_ok hW h hk with ⟨elo, hk⟩ | ⟨y, k, z, elo, eva, hk⟩
      · rcases optK_ok hW h hk with ⟨ehi, hk⟩ | ⟨y', k', z', ehi, eva', hk⟩
        · rcases optK_ok hW h hk with ⟨emx, hk⟩ | ⟨y'', k'', z'', emx, eva'', hk⟩
          · obtain ⟨l, hh, q1, q2, q3, q4, q5, hk⟩ := fin _ _ _ hk
            exact ⟨l, hh, .inl ⟨by rw [elo]; rfl, by omega⟩, .inl ⟨by rw [ehi]; rfl, by omega⟩, .inl (by rw [emx]; rfl), q4, q5, hk⟩
          · obtain ⟨l, hh, q1, q2, q3, q4, q5, hk⟩ := fin _ _ _ hk
            exact ⟨l, hh, .inl ⟨by rw [elo]; rfl, by omega⟩, .inl ⟨by rw [ehi]; rfl, by omega⟩, .inr ⟨k'', by rw [emx, ← q3, ← eva'']; rfl⟩, q4, q5, hk⟩
        · rcases optK_ok hW h hk with ⟨emx, hk⟩ | ⟨y'', k'', z'', emx, eva'', hk⟩
          · obtain ⟨l, hh, q1, q2, q3, q4, q5, hk⟩ := fin _ _ _ hk
            exact ⟨l, hh, .inl ⟨by rw [elo]; rfl, by omega⟩, .inr ⟨k', by rw [ehi, ← q2, ← eva']; rfl⟩, .inl (by rw [emx]; rfl), q4, q5, hk⟩
          · obtain ⟨l, hh, q1, q2, q3, q4, q5, hk⟩ := fin _ _ _ hk
            exact ⟨l, hh, .inl ⟨by rw [elo]; rfl, by omega⟩, .inr ⟨k', by rw [ehi, ← q2, ← eva']; rfl⟩, .inr ⟨k'', by rw [emx, ← q3, ← eva'']; rfl⟩, q4, q5, hk⟩
      · rcases optK_ok hW h hk with ⟨ehi, hk⟩ | ⟨y', k', z', ehi, eva', hk⟩
        · rcases optK_ok hW h hk with ⟨emx, hk⟩ | ⟨y'', k'', z'', emx, eva'', hk⟩
          · obtain ⟨l, hh, q1, q2, q3, q4, q5, hk⟩ := fin _ _ _ hk
            exact ⟨l, hh, .inr ⟨k, by rw [elo, ← q1, ← eva]; rfl⟩, .inl ⟨by rw [ehi]; rfl, by omega⟩, .inl (by rw [emx]; rfl), q4, q5, hk⟩
          · obtain ⟨l, hh, q1, q2, q3, q4, q5, hk⟩ := fin _ _ _ hk
            exact ⟨l, hh, .inr ⟨k, by rw [elo, ← q1, ← eva]; rfl⟩, .inl ⟨by rw [ehi]; rfl, by omega⟩, .inr ⟨k'', by rw [emx, ← q3, ← eva'']; rfl⟩, q4, q5, hk⟩
        · rcases optK_ok hW h hk with ⟨emx, hk⟩ | ⟨y'', k'', z'', emx, eva'', hk⟩
          · obtain ⟨l, hh, q1, q2, q3, q4, q5, hk⟩ := fin _ _ _ hk
            exact ⟨l, hh, .inr ⟨k, by rw [elo, ← q1, ← eva]; rfl⟩, .inr ⟨k', by rw [ehi, ← q2, ← eva']; rfl⟩, .inl (by rw [emx]; rfl), q4, q5, hk⟩
          · obtain ⟨l, hh, q1, q2, q3, q4, q5, hk⟩ := fin _ _ _ hk
            exact ⟨l, hh, .inr ⟨k, by rw [elo, ← q1, ← eva]; rfl⟩, .inr ⟨k', by rw [ehi, ← q2, ← eva']; rfl⟩, .inr ⟨k'', by rw [emx, ← q3, ← eva'']; rfl⟩, q4, q5, hk⟩
    obtain ⟨l, hh, b1, b2, b3, b4, b5, hk⟩ := key
    have hmx : mx.map a.eval = none ∨ (∃ k, mx.map a.eval = some (.int k (hh : Int))) ∧ (hi.map a.eval).isSome := by
      rcases b3 with b3 | b3
      · exact .inl b3
      · rcases b2 with ⟨b2, _⟩ | ⟨k, b2⟩
        · obtain ⟨k, b3⟩ := b3
          cases mx with
          | none => exact .inl rfl
          | some q => cases hi with
            | none => simp at hmh
            | some q' => simp at b2
        · exact .inr ⟨b3, by rw [b2]; rfl⟩
    cases hx with | p hx =>
    cases hx with
    | nil =>
      simp only [List.length_nil] at b5 b2
      have h0 : hh = 0 := by omega
      have l0 : l = 0 := by omega
      subst h0; subst l0
      have hb := run_bounds (P := P) (w := w) _ _ _ 0 0 0 0 b1 b2 hmx (Nat.le_refl _) (Nat.le_refl _) (Nat.le_refl _)
      rw [run_sliceAt hu hsz _ _ _ _ _ _ _ _ _ hb]
      have e : (if (mx.map a.eval).isSome = true then 0 else 0) = 0 := by split <;> rfl
      rw [e]
      simp only [if_true, Nat.sub_self]
      exact out_p h hk (.nil _ _ _)
    | sl _ _ _ b off cap vals hc hb hW' hone hv hr =>
      have hbs := run_bounds (P := P) (w := w) _ _ _ es.length cap l hh b1 b2 hmx b4 b5 hc
      rw [run_sliceAt hu hsz _ _ _ _ _ _ _ _ _ hbs]
      generalize hM : (if (mx.map a.eval).isSome = true then hh else cap) = M
      have hM' : hh ≤ M := by rw [← hM]; split <;> omega
      have hp := PR.sl m i.size es b off cap vals hc hb hW' hone hv hr
      by_cases e : M = l
      · rw [if_pos e]
        exact out_p h hk (hp.take b4 b5 off (M - l) (fun h => by omega) (by omega))
      · rw [if_neg e]
        simp only [Option.map_some, Addr.add_lit]
        exact out_p h hk (hp.take b4 b5 (off + l * i.size) (M - l) (fun _ => rfl) (by omega))
  · rename_i hd Wd off len
    split at hk
    · obtain ⟨e, i, hu, hie, hk⟩ := elemK_ok hΓ hk
      obtain ⟨hWd, hk⟩ := cond_beq hk
      subst hWd
      have hsz := size_run hΓ hie w
      have key : ∃ l hh : Nat, (lo.map a.eval = none ∧ l = 0 ∨ ∃ k, lo.map a.eval = some (.int k (l : Int))) ∧ (hi.map a.eval = none ∧ hh = len ∨ ∃ k, hi.map a.eval = some (.int k (hh : Int))) ∧
          l ≤ hh ∧ hh ≤ len ∧ K (.vec hd i.size (off + l) (hh - l)) [] := by
        have fin : ∀ (zl zh : Int), (SCut zl zh len fun l h => K (.vec hd i.size (off + l) (h - l)) []) → ∃ l hh : Nat, zl = l ∧ zh = hh ∧ l ≤ hh ∧ hh ≤ len ∧ K (.vec hd i.size (off + l) (hh - l)) [] := by
          intro zl zh hk
          obtain ⟨l, hh, hl, hhh, h1, h2, hk⟩ := hk
          exact ⟨l, hh, hl, hhh, h1, h2, hk⟩
        rcases optK_ok hW h hk with ⟨elo, hk⟩ | ⟨y, k, z, elo, eva, hk⟩
        · rcases optK_ok hW h hk with ⟨ehi, hk⟩ | ⟨y', k', z', ehi, eva', hk⟩
          · obtain ⟨l, hh, q1, q2, q4, q5, hk⟩ := fin _ _ hk
            exact ⟨l, hh, .inl ⟨by rw [elo]; rfl, by omega⟩, .inl ⟨by rw [ehi]; rfl, by omega⟩, q4, q5, hk⟩
          · obtain ⟨l, hh, q1, q2, q4, q5, hk⟩ := fin _ _ hk
            exact ⟨l, hh, .inl ⟨by rw [elo]; rfl, by omega⟩, .inr ⟨k', by rw [ehi, ← q2, ← eva']; rfl⟩, q4, q5, hk⟩
        · rcases optK_ok hW h hk with ⟨ehi, hk⟩ | ⟨y', k', z', ehi, eva', hk⟩
          · obtain ⟨l, hh, q1, q2, q4, q5, hk⟩ := fin _ _ hk
            exact ⟨l, hh, .inr ⟨k, by rw [elo, ← q1, ← eva]; rfl⟩, .inl ⟨by rw [ehi]; rfl, by omega⟩, q4, q5, hk⟩
          · obtain ⟨l, hh, q1, q2, q4, q5, hk⟩ := fin _ _ hk
            exact ⟨l, hh, .inr ⟨k, by rw [elo, ← q1, ← eva]; rfl⟩, .inr ⟨k', by rw [ehi, ← q2, ← eva']; rfl⟩, q4, q5, hk⟩
      obtain ⟨l, hh, b1, b2, b4, b5, hk⟩ := key
      cases hx with
      | @vec _ _ _ _ b o cc hb hc hm ho =>
        have hbs := run_bounds (P := P) (w := w) (lo.map a.eval) (hi.map a.eval) none len cc l hh b1 b2 (.inl rfl) b4 b5 (by omega)
        show Out P E n s L a K ((Instr.sliceAt t _ (lo.map a.eval) (hi.map a.eval) none).run P w)
        rw [run_sliceAt hu hsz _ _ _ _ _ _ _ _ _ hbs]
        have : (if (none : Option Value).isSome = true then hh else cc) = cc := rfl
        rw [this]
        by_cases e : cc = l
        · rw [if_pos e]
          exact .same h hk (.vec hb (by omega) (by omega) (fun h => by omega)) fun k hk => hxm k hk
        · rw [if_neg e]
          simp only [Option.map_some, Addr.add_lit]
          exact .same h hk (.vec hb (by omega) (by omega) (fun _ => by rw [ho (by omega), Nat.add_mul])) fun k hk => hxm k hk
      | vecn ad ha hb =>
        have h0 : hh = 0 := by omega
        have l0 : l = 0 := by omega
        subst h0; subst l0
        have hbs := run_bounds (P := P) (w := w) (lo.map a.eval) (hi.map a.eval) none 0 0 0 0 b1 b2 (.inl rfl) b4 b5 (Nat.le_refl _)
        show Out P E n s L a K ((Instr.sliceAt t _ (lo.map a.eval) (hi.map a.eval) none).run P w)
        rw [run_sliceAt hu hsz _ _ _ _ _ _ _ _ _ hbs]
        simp
        exact .same h hk (.vecn ad ha hb) fun k hk => hxm k hk
    · rename_i mo _
      have hmh : hi.isSome = true ∧ elemK Γ t fun _ i => cond (Nat.beq i.size Wd) (optK W lo 0 fun l => optK W hi len fun h => optK W (some mo) h fun mm => SZ mm fun mm' => SLt (mm' - h).natAbs 1 (SCut l h len fun l h => K (.vec hd Wd (off + l) (h - l)) [])) False := by
        cases e : hi.isSome with
        | false => rw [e] at hk; exact hk.elim
        | true => rw [e] at hk; exact ⟨rfl, hk⟩
      obtain ⟨hmh, hk⟩ := hmh
      obtain ⟨e, i, hu, hie, hk⟩ := elemK_ok hΓ hk
      obtain ⟨hWd, hk⟩ := cond_beq hk
      subst hWd
      have hsz := size_run hΓ hie w
      have key : ∃ l hh : Nat, (lo.map a.eval = none ∧ l = 0 ∨ ∃ k, lo.map a.eval = some (.int k (l : Int))) ∧ (hi.map a.eval = none ∧ hh = len ∨ ∃ k, hi.map a.eval = some (.int k (hh : Int))) ∧
          ((some mo).map a.eval = none ∨ (∃ k, (some mo).map a.eval = some (.int k (hh : Int)))) ∧ l ≤ hh ∧ hh ≤ len ∧ K (.vec hd i.size (off + l) (hh - l)) [] := by
        have fin : ∀ (zl zh zm : Int), (SZ zm fun mm' => SLt (mm' - zh).natAbs 1 (SCut zl zh len fun l h => K (.vec hd i.size (off + l) (h - l)) [])) →
            ∃ l hh : Nat, zl = l ∧ zh = hh ∧ zm = hh ∧ l ≤ hh ∧ hh ≤ len ∧ K (.vec hd i.size (off + l) (hh - l)) [] := by
          intro zl zh zm hk
          obtain ⟨mm', hmm, hlt, l, hh, hl, hhh, h1, h2, hk⟩ := hk
          exact ⟨l, hh, hl, hhh, by omega, h1, h2, hk⟩
        rcases optK_ok hW h hk with ⟨elo, hk⟩ | ⟨y, k, z, elo, eva, hk⟩
        · rcases optK_ok hW h hk with ⟨ehi, hk⟩ | ⟨y', k', z', ehi, eva', hk⟩
          · rcases optK_ok hW h hk with ⟨emx, hk⟩ | ⟨y'', k'', z'', emx, eva'', hk⟩
            · obtain ⟨l, hh, q1, q2, q3, q4, q5, hk⟩ := fin _ _ _ hk
              exact ⟨l, hh, .inl ⟨by rw [elo]; rfl, by omega⟩, .inl ⟨by rw [ehi]; rfl, by omega⟩, .inl (by rw [emx]; rfl), q4, q5, hk⟩
            · obtain ⟨l, hh, q1, q2, q3, q4, q5, hk⟩ := fin _ _ _ hk
              exact ⟨l, hh, .inl ⟨by rw [elo]; rfl, by omega⟩, .inl ⟨by rw [ehi]; rfl, by omega⟩, .inr ⟨k'', by rw [emx, ← q3, ← eva'']; rfl⟩, q4, q5, hk⟩
          · rcases optK_ok hW h hk with ⟨emx, hk⟩ | ⟨y'', k'', z'', emx, eva'', hk⟩
            · obtain ⟨l, hh, q1, q2, q3, q4, q5, hk⟩ := fin _ _ _ hk
              exact ⟨l, hh, .inl ⟨by rw [elo]; rfl, by omega⟩, .inr ⟨k', by rw [ehi, ← q2, ← eva']; rfl⟩, .inl (by rw [emx]; rfl), q4, q5, hk⟩
            · obtain ⟨l, hh, q1, q2, q3, q4, q5, hk⟩ := fin _ _ _ hk
              exact ⟨l, hh, .inl ⟨by rw [elo]; rfl, by omega⟩, .inr ⟨k', by rw [ehi, ← q2, ← eva']; rfl⟩, .inr ⟨k'', by rw [emx, ← q3, ← eva'']; rfl⟩, q4, q5, hk⟩
        · rcases optK_ok hW h hk with ⟨ehi, hk⟩ | ⟨y', k', z', ehi, eva', hk⟩
          · rcases optK_ok hW h hk with ⟨emx, hk⟩ | ⟨y'', k'', z'', emx, eva'', hk⟩
            · obtain ⟨l, hh, q1, q2, q3, q4, q5, hk⟩ := fin _ _ _ hk
              exact ⟨l, hh, .inr ⟨k, by rw [elo, ← q1, ← eva]; rfl⟩, .inl ⟨by rw [ehi]; rfl, by omega⟩, .inl (by rw [emx]; rfl), q4, q5, hk⟩
            · obtain ⟨l, hh, q1, q2, q3, q4, q5, hk⟩ := fin _ _ _ hk
              exact ⟨l, hh, .inr ⟨k, by rw [elo, ← q1, ← eva]; rfl⟩, .inl ⟨by rw [ehi]; rfl, by omega⟩, .inr ⟨k'', by rw [emx, ← q3, ← eva'']; rfl⟩, q4, q5, hk⟩
          · rcases optK_ok hW h hk with ⟨emx, hk⟩ | ⟨y'', k'', z'', emx, eva'', hk⟩
            · obtain ⟨l, hh, q1, q2, q3, q4, q5, hk⟩ := fin _ _ _ hk
              exact ⟨l, hh, .inr ⟨k, by rw [elo, ← q1, ← eva]; rfl⟩, .inr ⟨k', by rw [ehi, ← q2, ← eva']; rfl⟩, .inl (by rw [emx]; rfl), q4, q5, hk⟩
            · obtain ⟨l, hh, q1, q2, q3, q4, q5, hk⟩ := fin _ _ _ hk
              exact ⟨l, hh, .inr ⟨k, by rw [elo, ← q1, ← eva]; rfl⟩, .inr ⟨k', by rw [ehi, ← q2, ← eva']; rfl⟩, .inr ⟨k'', by rw [emx, ← q3, ← eva'']; rfl⟩, q4, q5, hk⟩
      obtain ⟨l, hh, b1, b2, b3, b4, b5, hk⟩ := key
      have b3 : ∃ k, (some mo).map a.eval = some (.int k (hh : Int)) := by
        rcases b3 with b3 | b3
        · simp at b3
        · exact b3
      have b2s : (hi.map a.eval).isSome := by cases hi with
        | none => simp at hmh
        | some q => rfl
      show Out P E n s L a K ((Instr.sliceAt t _ (lo.map a.eval) (hi.map a.eval) ((some mo).map a.eval)).run P w)
      cases hx with
      | @vec _ _ _ _ b o cc hb hc hm ho =>
        have hbs := run_bounds (P := P) (w := w) (lo.map a.eval) (hi.map a.eval) ((some mo).map a.eval) len cc l hh b1 b2 (.inr ⟨b3, b2s⟩) b4 b5 (by omega)
        rw [run_sliceAt hu hsz _ _ _ _ _ _ _ _ _ hbs]
        have : (if ((some mo).map a.eval).isSome = true then hh else cc) = hh := rfl
        rw [this]
        by_cases e : hh = l
        · rw [if_pos e]
          exact .same h hk (.vec hb (by omega) (by omega) (fun h => by omega)) fun k hk => hxm k hk
        · rw [if_neg e]
          simp only [Option.map_some, Addr.add_lit]
          exact .same h hk (.vec hb (by omega) (by omega) (fun _ => by rw [ho (by omega), Nat.add_mul])) fun k hk => hxm k hk
      | vecn ad ha hb =>
        have h0 : hh = 0 := by omega
        have l0 : l = 0 := by omega
        subst h0; subst l0
        have hbs := run_bounds (P := P) (w := w) (lo.map a.eval) (hi.map a.eval) ((some mo).map a.eval) 0 0 0 0 b1 b2 (.inr ⟨b3, b2s⟩) b4 b5 (Nat.le_refl _)
        rw [run_sliceAt hu hsz _ _ _ _ _ _ _ _ _ hbs]
        simp
        exact .same h hk (.vecn ad ha hb) fun k hk => hxm k hk
  · exact hk.elim

theorem cond_ble {a : Nat} {A : Prop} (h : cond (Nat.ble 1 a) A False) : a ≠ 0 ∧ A := by
  cases e : Nat.ble 1 a with
  | false => rw [e] at h; exact h.elim
  | true => rw [e] at h; exact ⟨by have := Nat.le_of_ble_eq_true e; omega, h⟩

theorem run_fieldAt {t : TypeId} {fields : Array Field} {f : Nat} {fl : Field} (hu : P.underlying t = some (.struct fields)) (hf : fields[f]? = some fl) {sz : Nat} (hs : ∀ w, (sizeOf fl.type).run P w = .ok sz w) (h0 : sz ≠ 0) (b off : Nat) (w : World) :
    (Instr.fieldAt t (.pointer (some ⟨b, off, none⟩)) f).run P w = .ok (.pointer (some ⟨b, off + fl.offset, none⟩)) w := by
  simp [Instr.fieldAt, run_underlying hu, hf, Instr.sureAddr, fieldPlace, Addr.add_lit, hs, h0]

theorem out_fieldAddr (hΓ : GOK P Γ) (hW : ∀ x K, W x K → K (rho s x)) (h : StI E n s L a w F β) {t : TypeId} {x : Operand} {f : Nat} (hk : opSem Γ P wr W LK L base (.fieldAddr t x f) K) :
    Out P E n s L a K ((Instr.fieldAt t (a.eval x) f).run P w) := by
  simp only [opSem] at hk
  have hx := h.ev x
  have hxm := h.evm x
  have hk := hW x _ hk
  generalize rho s x = vx at hk hx hxm
  generalize a.eval x = ax at hx
  obtain ⟨fields, fl, j, hu, hfl, hj, hk⟩ := fieldOf_ok hΓ hk
  obtain ⟨h0, hk⟩ := cond_ble hk
  have hrf := fun b off => run_fieldAt hu hfl (size_run hΓ hj) h0 b off w
  split at hk
  · cases hx with | bptr hb =>
    rw [hrf]
    exact .same h hk (.bptr hb) fun k hk => hxm k hk
  · cases hx with | eptr hb =>
    rw [hrf]
    exact .same h hk (by rw [Nat.add_assoc]; exact .eptr hb) fun k hk => hxm k hk
  · cases hx with | p hx => cases hx with | pel _ _ b off vals hb hone hv hr =>
    rw [hrf]
    split at hk
    · obtain ⟨hle, hk⟩ := rangeP_ok hk
      refine out_p h hk (.pel _ _ b (off + fl.offset) (fun j => vals (fl.offset + j)) hb (fun c hc => hone c (List.mem_of_mem_drop (List.mem_of_mem_take hc))) (fun q c hc => ?_) fun q c hc => ?_)
      · have hq : q < j.size := by have := (List.getElem?_eq_some_iff.1 hc).1; simp [PV.cells] at this; omega
        simp only [PV.cells] at hc
        rw [List.getElem?_take_of_lt hq, List.getElem?_drop] at hc
        rw [Nat.add_assoc]; exact hv _ c hc
      · have hq : q < j.size := by have := (List.getElem?_eq_some_iff.1 hc).1; simp [PV.cells] at this; omega
        simp only [PV.cells] at hc
        rw [List.getElem?_take_of_lt hq, List.getElem?_drop] at hc
        exact hr _ c hc
    · obtain ⟨c, hc, hk⟩ := getPV_ok hk
      cases ho : c.one with
      | false => rw [ho] at hk; exact hk.elim
      | true =>
        rw [ho] at hk
        refine out_p h hk (.pel _ c b (off + fl.offset) (fun j => vals (fl.offset + j)) hb (fun c' hc' => ?_) (fun q c' hc' => ?_) fun q c' hc' => ?_)
        · rw [PV.cells_one ho] at hc'; rw [List.mem_singleton.1 hc']; exact ho
        · rw [PV.cells_one ho] at hc'
          cases q with
          | zero => simp at hc'; subst hc'; exact hv _ c hc
          | succ q => simp at hc'
        · rw [PV.cells_one ho] at hc'
          cases q with
          | zero => simp at hc'; subst hc'; exact hr _ c hc
          | succ q => simp at hc'
  · exact hk.elim

theorem run_part {t : TypeId} (hΓ : GOK P Γ) {i : TI} (hi : Γ t = some i) (cs : Array Value) (off : Nat) (w : World) (hl : off + (if i.d.agg then i.size else 1) ≤ cs.size) :
    (part t cs off).run P w = .ok (if i.d.agg then .agg (cs.extract off (off + i.size)) else cs.getD off Go.undef) w := by
  have ha := agg_iff hΓ hi w
  have hs := size_run hΓ hi w
  cases e : i.d.agg with
  | true => rw [e] at ha; simp [part, ha, hs]
  | false =>
    rw [e] at ha hl
    have : off < cs.size := by simp at hl; omega
    simp [part, ha, this, Array.getD]

theorem out_field (hΓ : GOK P Γ) (hW : ∀ x K, W x K → K (rho s x)) (h : StI E n s L a w F β) {t : TypeId} {x : Operand} {f : Nat} (hk : opSem Γ P wr W LK L base (.field t x f) K) :
    Out P E n s L a K ((Instr.field t (a.eval x) f).run P w) := by
  simp only [opSem] at hk
  have hx := h.ev x
  have hxm := h.evm x
  have hk := hW x _ hk
  generalize rho s x = vx at hk hx hxm
  generalize a.eval x = ax at hx
  obtain ⟨fields, fl, j, hu, hfl, hj, hk⟩ := fieldOf_ok hΓ hk
  have ex : ∀ (vs : Array Value) (o sz q : Nat), o + sz ≤ vs.size → q < sz → (vs.extract o (o + sz))[q]? = vs[o + q]? := by
    intro vs o sz q h1 h2
    rw [Array.getElem?_extract, if_pos (by omega)]
  split at hk
  · rename_i cs
    cases hx with | p hx => cases hx with | agg _ vs hone hl hr =>
    split at hk
    · rename_i ha
      obtain ⟨hle, hk⟩ := rangeP_ok hk
      have hp := run_part hΓ hj vs fl.offset w (by rw [ha]; simp; omega)
      have hrun : (Instr.field t (.agg vs) f).run P w = .ok (.agg (vs.extract fl.offset (fl.offset + j.size))) w := by
        simp [Instr.field, run_underlying hu, hfl, asAgg, hp, ha]
      rw [hrun]
      refine out_p h hk (.agg _ _ (fun c hc => hone c (List.mem_of_mem_drop (List.mem_of_mem_take hc))) (by simp; omega) fun q c v e1 e2 => ?_)
      have hq : q < j.size := by have := (List.getElem?_eq_some_iff.1 e1).1; simp at this; omega
      rw [List.getElem?_take_of_lt hq, List.getElem?_drop] at e1
      rw [ex vs _ _ _ (by omega) hq] at e2
      exact hr _ c v e1 e2
    · rename_i ha
      obtain ⟨c, hc, hk⟩ := getPV_ok hk
      have hlt : fl.offset < vs.size := by rw [hl]; exact (List.getElem?_eq_some_iff.1 hc).1
      have hp := run_part hΓ hj vs fl.offset w (by rw [ha]; simp; omega)
      have hrun : (Instr.field t (.agg vs) f).run P w = .ok (vs.getD fl.offset Go.undef) w := by
        simp [Instr.field, run_underlying hu, hfl, asAgg, hp, ha]
      rw [hrun]
      exact out_p h hk (hr _ c _ hc (by simp [Array.getD, hlt]))
  · rename_i cs
    cases hx with | agg _ vs hone hl hr =>
    split at hk
    · rename_i ha
      have hle := rangeK_len hk
      have hk := rangeK_ok hk (.inl hle)
      obtain ⟨r, hk, hrr, hrm⟩ := mkAgg_ok hk
      have hp := run_part hΓ hj vs fl.offset w (by rw [ha]; simp; omega)
      have hrun : (Instr.field t (.agg vs) f).run P w = .ok (.agg (vs.extract fl.offset (fl.offset + j.size))) w := by
        simp [Instr.field, run_underlying hu, hfl, asAgg, hp, ha]
      rw [hrun]
      refine .same h hk (hrr _ _ _ _ (fun c hc => hone c (List.mem_of_mem_drop (List.mem_of_mem_take hc))) (by simp; omega) fun q c v e1 e2 => ?_) fun k hk => hxm k (by simp only [AV.men]; exact menL_sub (fun c hc => List.mem_of_mem_drop (List.mem_of_mem_take hc)) (hrm k hk))
      have hq : q < j.size := by have := (List.getElem?_eq_some_iff.1 e1).1; simp at this; omega
      rw [List.getElem?_take_of_lt hq, List.getElem?_drop] at e1
      rw [ex vs _ _ _ (by omega) hq] at e2
      exact hr _ c v e1 e2
    · rename_i ha
      obtain ⟨c, hc, hk⟩ := getC_ok hk
      have hlt : fl.offset < vs.size := by rw [hl]; exact (List.getElem?_eq_some_iff.1 hc).1
      have hp := run_part hΓ hj vs fl.offset w (by rw [ha]; simp; omega)
      have hrun : (Instr.field t (.agg vs) f).run P w = .ok (vs.getD fl.offset Go.undef) w := by
        simp [Instr.field, run_underlying hu, hfl, asAgg, hp, ha]
      rw [hrun]
      exact .same h hk (hr _ c _ hc (by simp [Array.getD, hlt])) fun k hk => hxm k (by simp only [AV.men]; exact AV.menL_mem (List.mem_of_getElem? hc) hk)
  · exact hk.elim

theorem run_indexAt {t e : TypeId} (hu : P.underlying t = some (.slice e)) {sz : Nat} {w : World} (hs : (sizeOf e).run P w = .ok sz w) (b off len cap : Nat) (k : IntKind) (i : Nat) (hi : i < len) :
    (Instr.indexAt t (.slice (some ⟨b, off, none⟩) len cap) (.int k i)).run P w = .ok (.pointer (some ⟨b, off + i * sz, none⟩)) w := by
  simp [Instr.indexAt, run_underlying hu, hs, asIntOf, hi, Addr.add_lit]

theorem run_indexAtA {t e : TypeId} {len : Nat} (hu : P.underlying t = some (.array len e)) {sz : Nat} {w : World} (hs : (sizeOf e).run P w = .ok sz w) (b off : Nat) (k : IntKind) (i : Nat) (hi : i < len) :
    (Instr.indexAt t (.pointer (some ⟨b, off, none⟩)) (.int k i)).run P w = .ok (.pointer (some ⟨b, off + i * sz, none⟩)) w := by
  simp [Instr.indexAt, run_underlying hu, hs, asIntOf, hi, Addr.add_lit, Instr.sureAddr]
theorem arrK_ok (hΓ : GOK P Γ) {t : TypeId} {K : Nat → TI → Prop} (h : arrK Γ t K) : ∃ len e i, P.underlying t = some (.array len e) ∧ Γ e = some i ∧ K len i := by
  unfold arrK at h
  split at h
  · rename_i i hi
    split at h
    · rename_i len e he
      split at h
      · rename_i j hj
        have hd := (hΓ t i hi).desc
        rw [he] at hd
        exact ⟨len, e, j, hd, hj, h⟩
      · exact h.elim
    · exact h.elim
  · exact h.elim

theorem out_indexAddr (hΓ : GOK P Γ) (hW : ∀ x K, W x K → K (rho s x)) (h : StI E n s L a w F β) {t : TypeId} {x y : Operand} (hk : opSem Γ P wr W LK L base (.indexAddr t x y) K) :
    Out P E n s L a K ((Instr.indexAt t (a.eval x) (a.eval y)).run P w) := by
  simp only [opSem] at hk
  have hx := h.ev x
  have hxm := h.evm x
  have hy := h.ev y
  have hk := hW y _ (hW x _ hk)
  generalize rho s x = vx at hk hx hxm
  generalize rho s y = vy at hk hy
  generalize a.eval x = ax at hx
  generalize a.eval y = ay at hy
  unfold indexAddrK at hk
  split at hk
  · obtain rfl := hy.intOf
    split at hk
    · rename_i m Wd es
      obtain ⟨e, i, hu, hie, hk⟩ := elemK_ok hΓ hk
      obtain ⟨hWd, hK⟩ := cond_beq hk
      subst hWd
      obtain ⟨j, e', hj, he, hK⟩ := hK
      subst hj
      have hlt := (List.getElem?_eq_some_iff.1 he).1
      cases hx with | p hx =>
      cases hx with
      | nil => simp at hlt
      | sl _ _ _ b off cap vals hc hb hW' hone hv hr =>
        rw [run_indexAt hu (size_run hΓ hie w) _ _ _ _ _ _ hlt]
        exact out_p h hK (.pel m e' b _ (fun q => vals j q) (hb (by intro e; rw [e] at hlt; simp at hlt)) (hone e' (List.mem_of_getElem? he)) (fun q c hc => hv j e' q c he hc) fun q c hc => hr j e' q c he hc)
    · obtain ⟨e, i, hu, hie, hk⟩ := elemK_ok hΓ hk
      obtain ⟨hWd, hK⟩ := cond_beq hk
      subst hWd
      obtain ⟨j, hj, hlt, hK⟩ := hK
      subst hj
      cases hx with
      | vec hb hc hm ho =>
        rw [run_indexAt hu (size_run hΓ hie w) _ _ _ _ _ _ hlt]
        exact .same h hK (by rw [ho (by omega), ← Nat.add_mul, Nat.add_comm]; exact .eptr (off := 0) hb) fun k hk => hxm k hk
      | vecn => omega
    · obtain ⟨len, e, i, hu, hie, hk⟩ := arrK_ok hΓ hk
      obtain ⟨h0, hk⟩ := cond_ble hk
      obtain ⟨j, hj, hlt, hK⟩ := hk
      subst hj
      cases hx with
      | bptr hb =>
        rw [run_indexAtA hu (size_run hΓ hie w) _ _ _ _ hlt]
        exact .same h hK (.bptr hb) fun k hk => hxm k hk
    · obtain ⟨len, e, i, hu, hie, hk⟩ := arrK_ok hΓ hk
      obtain ⟨h0, hk⟩ := cond_ble hk
      obtain ⟨j, hj, hlt, hK⟩ := hk
      subst hj
      cases hx with
      | eptr hb =>
        rw [run_indexAtA hu (size_run hΓ hie w) _ _ _ _ hlt, Nat.add_assoc]
        exact .same h hK (.eptr hb) fun k hk => hxm k hk
    · exact hk.elim
  · exact hk.elim

theorem out_index (hΓ : GOK P Γ) (hW : ∀ x K, W x K → K (rho s x)) (h : StI E n s L a w F β) {t : TypeId} {x y : Operand} (hk : opSem Γ P wr W LK L base (.index t x y) K) :
    Out P E n s L a K ((Instr.index t (a.eval x) (a.eval y)).run P w) := by
  simp only [opSem] at hk
  have hx := h.ev x
  have hy := h.ev y
  have hk := hW y _ (hW x _ hk)
  generalize rho s x = vx at hk hx
  generalize rho s y = vy at hk hy
  generalize a.eval x = ax at hx
  generalize a.eval y = ay at hy
  unfold indexK at hk
  split at hk
  · obtain rfl := hy.intOf
    split at hk
    · rename_i cs
      split at hk
      · rename_i i hi
        split at hk
        · rename_i len e hd
          have hu : P.underlying t = some (.array len e) := by have := (hΓ t _ hi).desc; rw [hd] at this; exact this
          split at hk
          · rename_i j hj
            cases hb : (Nat.beq j.size 1 && (Nat.beq len cs.length && !j.d.agg)) with
            | false => rw [hb] at hk; exact hk.elim
            | true =>
              rw [hb] at hk
              simp only [Bool.and_eq_true, Bool.not_eq_true'] at hb
              have h1 := Nat.eq_of_beq_eq_true hb.1
              have h2 := Nat.eq_of_beq_eq_true hb.2.1
              have h3 := hb.2.2
              obtain ⟨q, c, hq, hc, hk⟩ := hk
              subst hq
              have hlt := (List.getElem?_eq_some_iff.1 hc).1
              cases hx with | p hx => cases hx with | agg _ vs hone hl hr =>
              have hp := run_part hΓ hj vs (q * j.size) w (by rw [h3, h1]; simp; omega)
              have hrun : ∀ k, (Instr.index t (.agg vs) (.int k (q : Int))).run P w = .ok (vs.getD q Go.undef) w := by
                intro k
                have hqv : q < len := by omega
                have hsz := size_run hΓ hj w
                rw [h3, h1, Nat.mul_one] at hp
                simp [Instr.index, run_underlying hu, asIntOf, hqv, hsz, h1, hp]
              rw [hrun]
              exact out_p h hk (hr _ c _ hc (by simp [Array.getD, hl, hlt]))
          · exact hk.elim
        · exact hk.elim
      · exact hk.elim
    · rename_i b
      split at hk
      · rename_i i hi
        split at hk
        · rename_i hd
          have hu : P.underlying t = some .string := by have := (hΓ t _ hi).desc; rw [hd] at this; exact this
          obtain ⟨q, hq, hlt, z, hz, hk⟩ := hk
          subst hq
          cases hx with | p hx => cases hx with | raw _ _ =>
          have hrun : ∀ k, (Instr.index t (.string b) (.int k (q : Int))).run P w = .ok (.int .u8 z) w := by
            intro k
            have hg : b[q]? = some (b.data.getD q 0) := by
              rw [getElem?_pos b q hlt]
              have : q < b.data.size := hlt
              rw [show b.data.getD q 0 = b.data[q] by simp only [Array.getD, this, dite_true]; rfl]
              rfl
            simp [Instr.index, run_underlying hu, asIntOf, hg, ← hz]
          rw [hrun]
          exact out_p h hk (.int _ _)
        · exact hk.elim
      · exact hk.elim
    · exact hk.elim
  · exact hk.elim
end
end Go.Proofs.Ytkaooejeljdbnaa
