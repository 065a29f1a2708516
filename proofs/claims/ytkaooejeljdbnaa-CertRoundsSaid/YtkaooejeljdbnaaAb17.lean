/- What VC asks is enough. -/
import Derived.Test.YtkaooejeljdbnaaAbE
namespace Go.Proofs.Ytkaooejeljdbnaa
open Go
set_option linter.unusedVariables false
set_option linter.unusedSimpArgs false

section
variable {P : Program} {Γ : Tab} {E : Env} {n : Nat} {wr : FuncId → Bool}

/-- One operation over an abstract state. -/
theorem op_step (hΓ : GOK P Γ) {s : Sl} {H : Hp} {a : Act} {w : World} (h : St E n (getS s) (look H) a w) (o : Oper) (hd : ∀ t, o.dst = some t → t < n) (K : Sl → Hp → Prop) (Q : Exit → Act → World → Prop)
    (hk : lenK' H 0 fun base => opSem Γ P wr (WK s) (lookK H) (look H) base o.op fun v ups => upsK ups H fun H' => K (putL o.dst v s) H') :
    o.wp P a w (fun a' w' => ∃ s' H', K s' H' ∧ St E n (getS s') (look H') a' w') Q := by
  have hk := lenK'_ok hk
  rw [Nat.zero_add] at hk
  have h1 := op_ok hΓ (fun x K => WK_ok s x K) (fun h K => lookK_ok H h K) h (fun v ups _ x _ hx => ⟨look_ge hx, fun k => look_ge hx⟩) o hd Q hk
  unfold Oper.wp at h1 ⊢
  -- the same with another continuation
  have mono : ∀ r : Result Next, o.upon P a (After E n (getS s) (look H) o.dst fun v ups => upsK ups H fun H' => K (putL o.dst v s) H') Q r → o.upon P a (fun a' w' => ∃ s' H', K s' H' ∧ St E n (getS s') (look H') a' w') Q r := by
    have go : ∀ a' w', After E n (getS s) (look H) o.dst (fun v ups => upsK ups H fun H' => K (putL o.dst v s) H') a' w' → ∃ s' H', K s' H' ∧ St E n (getS s') (look H') a' w' := by
      rintro a' w' ⟨v, ups, hk, hst⟩
      obtain ⟨H', hk, e⟩ := upsK_ok hk
      exact ⟨_, H', hk, by rw [getS_putL, e]; exact hst⟩
    intro r hr
    cases r with
    | halt x w' => cases x <;> first | exact hr | exact hr.elim
    | ok nx w' =>
      cases nx <;> first | exact go _ _ hr | exact hr.elim | skip
      case enter f args =>
        exact Calls.mono hr fun e w'' he => by
          cases e with
          | returned v => exact go _ _ he
          | panicked c => exact he
          | outgrown => exact he
      case row r args => exact Rows.mono hr fun v w'' he => go _ _ he
  exact mono _ h1

theorem put_undef {s : Sl} {H : Hp} {a : Act} {w : World} (h : St E n (getS s) (look H) a w) (d : Option Tmp) (hd : ∀ t, d = some t → t < n) : St E n (getS (putL d .undef s)) (look H) (a.put d Go.undef) w := by
  rw [getS_putL]
  cases d with
  | none => exact h
  | some t =>
    obtain ⟨F, β, h⟩ := h
    exact ⟨F, β, h.put (hd t rfl) .undef fun k hk => by simp only [AV.men] at hk⟩

theorem St.learn {s : Sl} {H : Hp} {a : Act} {w : World} (h : St E n (getS s) (look H) a w) {t : Nat} (b : Bool) (he : a.tmps.getD t Go.undef = .bool b) : St E n (getS ((t, .tf b) :: s)) (look H) a w := by
  obtain ⟨F, β, h⟩ := h
  refine ⟨F, β, { h with slots := fun k => ?_, ms := fun k j hj => ?_ }⟩
  · simp only [getS]
    cases e : Nat.beq t k with
    | false => exact h.slots k
    | true => have := Nat.eq_of_beq_eq_true e; subst this; rw [he]; exact .tf b
  · simp only [getS] at hj
    cases e : Nat.beq t k <;> rw [e] at hj
    · exact h.ms k j hj
    · simp only [cond_true, AV.men] at hj

theorem vcOps_ok (hΓ : GOK P Γ) (ops : Array Oper) (hfit : opsFit n ops.toList = true) (Q : Exit → Act → World → Prop) (K : Sl → Hp → Prop) (hQ : ∀ s H a w, K s H → St E n (getS s) (look H) a w → Q .normal a w) :
    ∀ (rest : List Oper) (i : Nat), ops.toList.drop i = rest → ∀ (s : Sl) (H : Hp) (a : Act) (w : World), vcOps Γ P wr ops rest K s H → St E n (getS s) (look H) a w → wpOps P ops Q (List.range' i rest.length) a w := by
  intro rest
  induction rest with
  | nil => intro i _ s H a w hk hst; exact hQ s H a w hk hst
  | cons o rest ih =>
    intro i hi s H a w hk hst
    have ho : ops[i]? = some o := by
      have := congrArg (fun l => l[0]?) hi
      simpa [List.getElem?_drop] using this
    have hrest : ops.toList.drop (i + 1) = rest := by
      have := congrArg (List.drop 1) hi
      rw [List.drop_drop] at this
      simpa using this
    have hmem : o ∈ ops.toList := by
      have : o ∈ ops.toList.drop i := by rw [hi]; simp
      exact List.mem_of_mem_drop this
    have hd : ∀ t, o.dst = some t → t < n := fun t ht => by
      have := List.all_eq_true.1 hfit o hmem
      rw [ht] at this
      simpa using this
    rw [List.length_cons, List.range'_succ]
    simp only [wpOps, ho]
    have run : ∀ s, St E n (getS s) (look H) a w → Region.wanted o (yielded ops a.tmps) = true → (lenK' H 0 fun base => opSem Γ P wr (WK s) (lookK H) (look H) base o.op fun v ups => upsK ups H fun H' => vcOps Γ P wr ops rest K (putL o.dst v s) H') →
        (if Region.wanted o (yielded ops a.tmps) = true then o.wp P a w (wpOps P ops Q (List.range' (i + 1) rest.length)) Q ∨ (o.asks P a w ∧ LetsOut Q) else wpOps P ops Q (List.range' (i + 1) rest.length) (a.put o.dst undef) w) := by
      intro s hst hw hk
      rw [if_pos hw]
      have h1 := op_step hΓ hst o hd _ Q hk
      refine .inl ?_
      unfold Oper.wp at h1 ⊢
      have go : ∀ a' w', (∃ s' H', vcOps Γ P wr ops rest K s' H' ∧ St E n (getS s') (look H') a' w') → wpOps P ops Q (List.range' (i + 1) rest.length) a' w' := fun a' w' ⟨s', H', h1, h2⟩ => ih (i + 1) hrest s' H' a' w' h1 h2
      generalize (execOp a.eval o).run P w = r at h1
      cases r with
      | halt x w' => cases x <;> first | exact h1 | exact h1.elim
      | ok nx w' =>
        cases nx <;> first | exact go _ _ h1 | exact h1.elim | skip
        case enter f args =>
          exact Calls.mono h1 fun e w'' he => by
            cases e with
            | returned v => exact go _ _ he
            | panicked c => exact he
            | outgrown => exact he
        case row r args => exact Rows.mono h1 fun v w'' he => go _ _ he
    have skip : ∀ s, St E n (getS s) (look H) a w → Region.wanted o (yielded ops a.tmps) = false → vcOps Γ P wr ops rest K (putL o.dst .undef s) H →
        (if Region.wanted o (yielded ops a.tmps) = true then o.wp P a w (wpOps P ops Q (List.range' (i + 1) rest.length)) Q ∨ (o.asks P a w ∧ LetsOut Q) else wpOps P ops Q (List.range' (i + 1) rest.length) (a.put o.dst undef) w) := by
      intro s hst hw hk
      rw [if_neg (by rw [hw]; exact Bool.false_ne_true)]
      exact ih (i + 1) hrest _ H _ w hk (put_undef hst o.dst hd)
    have hk : vcOpsStep Γ P wr ops o (vcOps Γ P wr ops rest) K s H := hk
    simp only [vcOpsStep] at hk
    split at hk
    · rename_i hg
      exact run s hst (by simp [Region.wanted, hg]) hk
    · rename_i j want hg
      split at hk
      · exact hk.elim
      · rename_i t ht
        have hk := getSK_ok hk
        obtain ⟨F, β, hst'⟩ := id hst
        have hv := hst'.slots t
        have hlt : t < a.tmps.size := by
          rw [hst'.len]
          cases hj : ops[j]? with
          | none => rw [hj] at ht; cases ht
          | some oj =>
            rw [hj] at ht
            have hm : oj ∈ ops.toList := by
              have := List.mem_of_getElem? (by simpa using hj : ops.toList[j]? = some oj); exact this
            have := List.all_eq_true.1 hfit oj hm
            have ht' : oj.dst = some t := ht
            rw [ht'] at this
            simpa using this
        have hget : a.tmps[t]? = some (a.tmps.getD t Go.undef) := by simp [Array.getD, hlt]
        have hy : ∀ x, a.tmps.getD t Go.undef = x → yielded ops a.tmps j = (match x with | .bool b => some b | _ => none) := by
          intro x e
          unfold yielded
          rw [ht]
          simp only [Option.bind_some, hget, e]
          cases x <;> rfl
        have hwant : ∀ b, a.tmps.getD t Go.undef = .bool b → Region.wanted o (yielded ops a.tmps) = (b == want) := fun b e => by
          simp only [Region.wanted, hg, hy _ e]
          cases b <;> cases want <;> rfl
        have both : ∀ (b : Bool) (s : Sl), St E n (getS s) (look H) a w → a.tmps.getD t Go.undef = .bool b → (bif b == want then (lenK' H 0 fun base => opSem Γ P wr (WK s) (lookK H) (look H) base o.op fun v ups => upsK ups H fun H' => vcOps Γ P wr ops rest K (putL o.dst v s) H') else vcOps Γ P wr ops rest K (putL o.dst .undef s) H) →
            (if Region.wanted o (yielded ops a.tmps) = true then o.wp P a w (wpOps P ops Q (List.range' (i + 1) rest.length)) Q ∨ (o.asks P a w ∧ LetsOut Q) else wpOps P ops Q (List.range' (i + 1) rest.length) (a.put o.dst undef) w) := by
          intro b s hst e hk
          cases hb : (b == want) with
          | true => rw [hb] at hk; exact run s hst (by rw [hwant b e, hb]) hk
          | false => rw [hb] at hk; exact skip s hst (by rw [hwant b e, hb]) hk
        split at hk
        · rename_i b e
          rw [e] at hv
          have he : a.tmps.getD t Go.undef = .bool b := by generalize a.tmps.getD t Go.undef = x at hv; cases hv; rfl
          exact both b s hst he hk
        · rename_i e
          rw [e] at hv
          have he : a.tmps.getD t Go.undef = .tuple #[] := by generalize a.tmps.getD t Go.undef = x at hv; cases hv; rfl
          refine skip s hst ?_ hk
          simp only [Region.wanted, hg, hy _ he]
          rfl
        · rename_i b e
          rw [e] at hv
          have he : a.tmps.getD t Go.undef = .bool b := by generalize a.tmps.getD t Go.undef = x at hv; cases hv with | p hv => cases hv; rfl
          obtain ⟨g1, g2⟩ := hk
          cases b with
          | true => exact both true _ (hst.learn true he) he (g1 rfl)
          | false => exact both false _ (hst.learn false he) he (g2 rfl)
        · exact hk.elim

theorem wp_loop_x {Q : Exit → Act → World → Prop} {a : Act} {w : World} {c : Code} {X : Type} (I : X → Act → World → Prop) (μ : X → Nat) (x0 : X) (h₀ : I x0 a w)
    (round : ∀ x a w, I x a w → c.wp P (Exit.then (fun a' w' => ∃ x', I x' a' w' ∧ μ x' < μ x) Q) a w) : (Code.loop c).wp P Q a w := by
  intro b k cs
  have key : ∀ n x a w, μ x = n → I x a w →
      ∃ e a' w', Q e a' w' ∧ Arrives P (lone (b.at a (.code c :: .inLoop c :: k)) cs w) b k cs e a' w' := by
    intro n
    induction n using Nat.strongRecOn with
    | _ n ih =>
      intro x a w hn hI
      obtain ⟨e, a₁, w₁, hq, harr⟩ := round x a w hI b (.inLoop c :: k) cs
      cases e with
      | normal =>
        obtain ⟨x', hI₁, hlt⟩ := hq
        obtain ⟨e₂, a₂, w₂, hq₂, harr₂⟩ := ih (μ x') (hn ▸ hlt) x' a₁ w₁ rfl hI₁
        exact ⟨e₂, a₂, w₂, hq₂, .of_steps (Steps.trans harr (.one step_inLoop)) harr₂⟩
      | exit id => exact ⟨_, a₁, w₁, hq, .pass (x := .inLoop c) rfl (fun _ _ => .inl (by simp)) harr⟩
      | goto l => exact ⟨_, a₁, w₁, hq, .pass (x := .inLoop c) rfl (fun _ _ => .inl (by simp)) harr⟩
      | ret => exact ⟨_, a₁, w₁, hq, .pass (x := .inLoop c) rfl (fun _ _ => .inl (by simp)) harr⟩
      | panic ch => exact ⟨_, a₁, w₁, hq, .pass (x := .inLoop c) rfl (fun _ _ => .inl (by simp)) harr⟩
      | outgrown => exact ⟨_, a₁, w₁, hq, .pass (x := .inLoop c) rfl (fun _ _ => .inl (by simp)) harr⟩
  obtain ⟨e, a', w', hq, harr⟩ := key _ x0 a w rfl h₀
  exact ⟨e, a', w', hq, .of_steps (.one step_loop) harr⟩

def ExR : Ex → Exit → Prop
  | .normal, .normal => True
  | .exit i, .exit j => i = j
  | .ret, .ret => True
  | _, _ => False

/-- What the code's ends must satisfy. -/
def Ends (E : Env) (n : Nat) (K : Ex → Sl → Hp → Prop) (e : Exit) (a : Act) (w : World) : Prop := ∃ e' s H, ExR e' e ∧ K e' s H ∧ St E n (getS s) (look H) a w

theorem vc_sound (hΓ : GOK P Γ) (hm : P.follows .mixedOrders = true) {nin : List (Option Nat)} (hIn : ∀ h, E.In h → InN nin h) : ∀ (c : Code) (K : Ex → Sl → Hp → Prop) (s : Sl) (H : Hp) (a : Act) (w : World), VC Γ P wr nin c K s H → fits n c = true → St E n (getS s) (look H) a w → c.wp P (Ends E n K) a w := by
  intro c
  induction c with
  | skip => intro K s H a w hk hf hst; exact wp_skip ⟨.normal, s, H, trivial, hk, hst⟩
  | region id ops draw =>
    intro K s H a w hk hf hst
    simp only [fits] at hf
    simp only [VC] at hk
    cases draw with
    | true =>
      refine wp_region_any hm ?_
      rcases hk with ⟨hok, hk⟩ | ⟨hok, hk⟩
      · exact draw_ok hΓ ops hf hok (Ends E n K) (fun s H => K .normal s H) (fun s H a w hk hst => ⟨.normal, s, H, trivial, hk, hst⟩) s H a _ hk hst.drawn
      · exact drawX_ok hΓ ops hf hok (Ends E n K) (fun s H => K .normal s H) (fun s H a w hk hst => ⟨.normal, s, H, trivial, hk, hst⟩) s H a _ hk hst.drawn
    | false =>
      refine wp_region ?_
      have := vcOps_ok hΓ ops hf (Ends E n K) (fun s H => K .normal s H) (fun s H a w hk hst => ⟨.normal, s, H, trivial, hk, hst⟩) ops.toList 0 (by simp) s H a w hk hst
      rw [List.range_eq_range']
      simpa using this
  | seq x y ihx ihy =>
    intro K s H a w hk hf hst
    simp only [fits, Bool.and_eq_true] at hf
    refine wp_seq (wp_mono (ihx _ s H a w hk hf.1 hst) fun e a w he => ?_)
    obtain ⟨e', s', H', h1, h2, h3⟩ := he
    cases e' with
    | normal => cases e <;> first | exact h1.elim | exact ihy K s' H' a w h2 hf.2 h3
    | exit i => cases e <;> first | exact h1.elim | exact ⟨.exit i, s', H', h1, h2, h3⟩
    | ret => cases e <;> first | exact h1.elim | exact ⟨.ret, s', H', h1, h2, h3⟩
  | cond c x y ihx ihy =>
    intro K s H a w hk hf hst
    simp only [fits, Bool.and_eq_true] at hf
    have hk := WK_ok s c _ hk
    obtain ⟨F, β, hst'⟩ := id hst
    have hv := hst'.ev c
    have learn : ∀ b, a.eval c = .bool b → St E n (getS (setTF c b s)) (look H) a w := by
      intro b e
      cases c with
      | tmp t => exact hst.learn b e
      | _ => exact hst
    split at hk
    · rename_i e
      rw [e] at hv
      have he : a.eval c = .bool true := by generalize a.eval c = x at hv; cases hv; rfl
      exact wp_cond_true he (ihx K s H a w hk hf.1 hst)
    · rename_i e
      rw [e] at hv
      have he : a.eval c = .bool false := by generalize a.eval c = x at hv; cases hv; rfl
      exact wp_cond_false he (ihy K s H a w hk hf.2 hst)
    · rename_i b e
      rw [e] at hv
      have he : a.eval c = .bool b := by generalize a.eval c = x at hv; cases hv with | p hv => cases hv; rfl
      obtain ⟨g1, g2⟩ := hk
      cases b with
      | true => exact wp_cond_true he (ihx K _ H a w (g1 rfl) hf.1 (learn true he))
      | false => exact wp_cond_false he (ihy K _ H a w (g2 rfl) hf.2 (learn false he))
    · exact hk.elim
  | block id x ih =>
    intro K s H a w hk hf hst
    simp only [fits] at hf
    refine wp_block (wp_mono (ih _ s H a w hk hf hst) fun e a w he => ?_)
    obtain ⟨e', s', H', h1, h2, h3⟩ := he
    cases e' with
    | normal => cases e <;> first | exact h1.elim | exact ⟨.normal, s', H', h1, h2, h3⟩
    | exit i =>
      cases e <;> first | exact h1.elim | skip
      rename_i j
      have : i = j := h1
      subst this
      simp only [Exit.inBlock]
      simp only [] at h2
      cases hb : Nat.beq i id with
      | true => rw [hb] at h2; rw [if_pos (Nat.eq_of_beq_eq_true hb)]; exact ⟨.normal, s', H', trivial, h2, h3⟩
      | false =>
        rw [hb] at h2
        rw [if_neg (by intro e; rw [e] at hb; simp at hb)]
        exact ⟨.exit i, s', H', rfl, h2, h3⟩
    | ret => cases e <;> first | exact h1.elim | exact ⟨.ret, s', H', h1, h2, h3⟩
  | loop x ih =>
    intro K s H a w hk hf hst
    simp only [fits] at hf
    obtain ⟨X, st, φ, μ, x0, hs0, s1, H1, th, h0, w0, hr⟩ := (show SLoop nin _ K s H from hk)
    have hst := hst.thaw th
    refine wp_loop_x (fun x a w => φ x ∧ St E n (getS (st x).1) (look (st x).2) a w) μ x0 ⟨h0, hst.weak hIn w0⟩ fun x a w hI => ?_
    refine wp_mono (ih _ _ _ a w (hr x hI.1) hf hI.2) fun e a w he => ?_
    obtain ⟨e', s', H', h1, h2, h3⟩ := he
    cases e' with
    | normal =>
      cases e <;> first | exact h1.elim | skip
      obtain ⟨x', hs', g1, g2, g3⟩ := h2
      exact ⟨x', ⟨g1, h3.weak hIn g3⟩, g2⟩
    | exit i => cases e <;> first | exact h1.elim | exact ⟨.exit i, s', H', h1, h2, h3⟩
    | ret => cases e <;> first | exact h1.elim | exact ⟨.ret, s', H', h1, h2, h3⟩
  | exit id => intro K s H a w hk hf hst; exact wp_exit ⟨.exit id, s, H, rfl, hk, hst⟩
  | ret => intro K s H a w hk hf hst; exact wp_ret ⟨.ret, s, H, trivial, hk, hst⟩
  | _ => intros; rename_i h _ _; exact h.elim
end
end Go.Proofs.Ytkaooejeljdbnaa
