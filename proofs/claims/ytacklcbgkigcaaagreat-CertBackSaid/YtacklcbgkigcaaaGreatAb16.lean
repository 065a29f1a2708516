/- A function's code over abstract states: what is to be shown (VC), and that it is enough. -/
import Derived.Test.YtacklcbgkigcaaaGreatAb15
import Derived.Orders
namespace Go.Proofs.YtacklcbgkigcaaaGreat
open Go
set_option linter.unusedVariables false
set_option linter.unusedSimpArgs false

abbrev Sl := List (Nat × AV)
abbrev Hp := List Blk

def getS : Sl → Nat → AV
  | [], _ => .any
  | (i, v) :: s, t => cond (Nat.beq i t) v (getS s t)
def getSK : Sl → Nat → (AV → Prop) → Prop
  | [], _, K => K .any
  | (i, v) :: s, t, K => cond (Nat.beq i t) (K v) (getSK s t K)
def look (H : Hp) (h : Nat) : Blk := H.getD h .free
def lookK : Hp → Nat → (Blk → Prop) → Prop
  | [], _, K => K .free
  | B :: _, 0, K => K B
  | _ :: H, h + 1, K => lookK H h K
def putB : Hp → Nat → Blk → (Hp → Prop) → Prop
  | [], 0, B, K => K [B]
  | [], h + 1, B, K => putB [] h B fun l => K (.free :: l)
  | _ :: H, 0, B, K => K (B :: H)
  | C :: H, h + 1, B, K => putB H h B fun l => K (C :: l)
def upsK : List (Nat × Blk) → Hp → (Hp → Prop) → Prop
  | [], H, K => K H
  | (h, B) :: ups, H, K => putB H h B fun H' => upsK ups H' K
def lenK' : Hp → Nat → (Nat → Prop) → Prop
  | [], n, K => K n
  | _ :: H, n, K => lenK' H (n + 1) K
def putL (d : Option Tmp) (v : AV) (s : Sl) : Sl :=
  match d with
  | some d => (d, v) :: s
  | none => s
def WK (s : Sl) (x : Operand) (K : AV → Prop) : Prop :=
  match x with
  | .tmp t => getSK s t K
  | x => K (rho (fun _ => .any) x)

theorem getSK_ok {s : Sl} {t : Nat} {K : AV → Prop} (h : getSK s t K) : K (getS s t) := by
  induction s with
  | nil => exact h
  | cons x s ih =>
    obtain ⟨i, v⟩ := x
    simp only [getSK, getS] at h ⊢
    cases e : Nat.beq i t <;> rw [e] at h
    · exact ih h
    · exact h
theorem WK_ok (s : Sl) (x : Operand) (K : AV → Prop) (h : WK s x K) : K (rho (getS s) x) := by
  cases x with
  | tmp t => exact getSK_ok h
  | _ => exact h
theorem lookK_ok (H : Hp) (h : Nat) (K : Blk → Prop) (hk : lookK H h K) : K (look H h) := by
  induction H generalizing h with
  | nil => exact hk
  | cons B H ih =>
    cases h with
    | zero => exact hk
    | succ h => exact ih h hk
theorem putB_ok {H : Hp} {h : Nat} {B : Blk} {K : Hp → Prop} (hk : putB H h B K) : ∃ H', K H' ∧ look H' = upd (look H) h B := by
  induction H generalizing h K with
  | nil =>
    induction h generalizing K with
    | zero => exact ⟨_, hk, by funext k; cases k <;> simp [look, upd]⟩
    | succ h ih =>
      obtain ⟨H', h1, h2⟩ := ih (K := fun l => K (.free :: l)) hk
      refine ⟨_, h1, ?_⟩
      funext k
      cases k with
      | zero => simp [look, upd]
      | succ k => have := congrFun h2 k; simp [look, upd] at this ⊢; exact this
  | cons C H ih =>
    cases h with
    | zero => exact ⟨_, hk, by funext k; cases k <;> simp [look, upd]⟩
    | succ h =>
      obtain ⟨H', h1, h2⟩ := ih (K := fun l => K (C :: l)) hk
      refine ⟨_, h1, ?_⟩
      funext k
      cases k with
      | zero => simp [look, upd]
      | succ k => have := congrFun h2 k; simp [look, upd] at this ⊢; exact this
theorem upsK_ok {ups : List (Nat × Blk)} {H : Hp} {K : Hp → Prop} (hk : upsK ups H K) : ∃ H', K H' ∧ look H' = applyUps (look H) ups := by
  induction ups generalizing H with
  | nil => exact ⟨H, hk, rfl⟩
  | cons x ups ih =>
    obtain ⟨h, B⟩ := x
    obtain ⟨H1, hk, e1⟩ := putB_ok hk
    obtain ⟨H2, hk, e2⟩ := ih hk
    exact ⟨H2, hk, by rw [e2, e1]; rfl⟩
theorem lenK'_ok {H : Hp} {n : Nat} {K : Nat → Prop} (h : lenK' H n K) : K (n + H.length) := by
  induction H generalizing n with
  | nil => exact h
  | cons B H ih => have := ih h; simp only [List.length_cons]; rw [show n + (H.length + 1) = n + 1 + H.length by omega]; exact this
theorem look_ge {H : Hp} {h : Nat} (hh : H.length ≤ h) : look H h = .free := getD_ge H _ hh
theorem getS_putL (d : Option Tmp) (v : AV) (s : Sl) : getS (putL d v s) = putS (getS s) d v := by
  cases d with
  | none => rfl
  | some d =>
    funext t
    simp only [putL, getS, putS, upd]
    by_cases e : t = d
    · subst e; simp
    · have : Nat.beq d t = false := by
        cases hb : Nat.beq d t with
        | false => rfl
        | true => exact (e (Nat.eq_of_beq_eq_true hb).symm).elim
      rw [this]; simp [e]

/-- A known truth value in a slot. -/
def setTF (x : Operand) (b : Bool) (s : Sl) : Sl :=
  match x with
  | .tmp t => (t, .tf b) :: s
  | _ => s

section
variable (Γ : Tab) (P : Program) (wr : FuncId → Bool)

/-- One operation of a region, in the text's order; ih: those behind it. -/
def vcOpsStep (all : Array Oper) (o : Oper) (ih : (Sl → Hp → Prop) → Sl → Hp → Prop) (K : Sl → Hp → Prop) (s : Sl) (H : Hp) : Prop :=
    let run := fun (s : Sl) => lenK' H 0 fun base => opSem Γ P wr (WK s) (lookK H) (look H) base o.op fun v ups => upsK ups H fun H' => ih K (putL o.dst v s) H'
    let skip := fun (s : Sl) => ih K (putL o.dst .undef s) H
    match o.guard with
    | none => run s
    | some (j, want) => match (all[j]?).bind (·.dst) with
      | none => False
      | some t => getSK s t fun v => match v with
        | .tf b => cond (b == want) (run s) (skip s)
        | .undef => skip s
        | .p (.bool b) => SCond b (cond (true == want) (run ((t, .tf true) :: s)) (skip ((t, .tf true) :: s))) (cond (false == want) (run ((t, .tf false) :: s)) (skip ((t, .tf false) :: s)))
        | _ => False
/-- The operations of a region, in the text's order. -/
noncomputable def vcOps (all : Array Oper) (l : List Oper) : (Sl → Hp → Prop) → Sl → Hp → Prop :=
  List.rec (motive := fun _ => (Sl → Hp → Prop) → Sl → Hp → Prop) (fun K s H => K s H) (fun o _ ih => vcOpsStep Γ P wr all o ih) l

/-- An operation that changes no block that was there. -/
def quiet0 : Op → Bool
  | .move _ | .assign _ | .pick .. | .alloc _ | .box .. | .build .. | .buildSlice .. | .load .. | .nilCheck _ | .binOp .. | .unOp .. | .convert .. | .makeFunc .. | .makeSlice .. | .slice .. | .fieldAddr .. | .field .. | .indexAddr .. | .index .. | .extract .. => true
  | .call ⟨.builtin .len, _, _⟩ | .call ⟨.builtin .max, _, _⟩ | .call ⟨.builtin .min, _, _⟩ => true
  | .call ⟨.builtin .append, _, _⟩ => true
  | .call ⟨.value _, _, _⟩ => true
  | .store .. => true
  | _ => false
/-- An append onto what was made, empty, in the same region. -/
def freshApp (all : Array Oper) : Op → Bool
  | .call ⟨.builtin .append, xs, _⟩ => match xs.toList with
    | .tmp t :: _ => all.toList.any fun o => match o.dst, o.op with
      | some d, .buildSlice _ 0 _ => Nat.beq d t
      | _, _ => false
    | _ => false
  | .store .. => false
  | _ => true
def quiet (all : Array Oper) (op : Op) : Bool := quiet0 op && freshApp all op
/-- An operation's outcome, named. -/
inductive SOp (F : (AV → List (Nat × Blk) → Prop) → Prop) (q : Bool) (base : Nat) (K : AV → List (Nat × Blk) → Prop) : Prop
  | mk (v : AV) (ups : List (Nat × Blk)) (h : F fun v' ups' => v' = v ∧ ups' = ups) (hb : (!q || ups.all fun x => Nat.ble base x.1) = true) (hk : K v ups)
inductive SDraw (b : Bool) (K : Prop) (b2 : Bool) (K2 : Prop) : Prop
  | mk (h : b = true) (hk : K)
  | mkX (h : b2 = true) (hk : K2)
/-- What was read and written is apart, where the order is free. -/
inductive SFin (b : Bool) (K : Prop) : Prop
  | mk (h : b = true) (hk : K)

def maskOf (acc : List Nat) : List Edge → Nat
  | [] => 0
  | e :: es => bif Region.binds .any e then Nat.lor (Nat.lor (2 ^ e.on) (acc.getD e.on 0)) (maskOf acc es) else maskOf acc es
def masksGo : List Oper → List Nat → List Nat
  | [], acc => acc
  | o :: os, acc => masksGo os (acc ++ [maskOf acc o.after.toList])
/-- Whatever clashes is ordered. -/
def drawOK (ops : Array Oper) : Bool :=
  let ms := masksGo ops.toList []
  (ops.toList.zipIdx.all fun y => (y.1.after.toList.all fun e => !(Region.binds .any e) || Nat.blt e.on y.2) &&
    ops.toList.zipIdx.all fun x => !(Nat.blt x.2 y.2) || ((x.1.apart ops y.1 && (quiet ops x.1.op && quiet ops y.1.op)) || (ms.getD y.2 0).testBit x.2))

def vcDrawStep (all : Array Oper) (o : Oper) (ih : (Sl → Hp → Prop) → Sl → Hp → Prop) (K : Sl → Hp → Prop) (s : Sl) (H : Hp) : Prop :=
    let run := lenK' H 0 fun base => SOp (fun K' => opSem Γ P (fun _ => false) (WK s) (lookK H) (look H) base o.op K') (quiet all o.op) base fun v ups => upsK ups H fun H' => ih K (putL o.dst v s) H'
    let skip := ih K (putL o.dst .undef s) H
    match o.guard with
    | none => run
    | some (j, want) => match (all[j]?).bind (·.dst) with
      | none => False
      | some t => getSK s t fun v => match v with
        | .tf b => cond (b == want) run skip
        | .undef => skip
        | .p (.bool b) => cond (b == want) run skip
        | _ => False
/-- The operations of a region that draws its order: in the text's order, each outcome named. -/
noncomputable def vcDraw (all : Array Oper) (l : List Oper) : (Sl → Hp → Prop) → Sl → Hp → Prop :=
  List.rec (motive := fun _ => (Sl → Hp → Prop) → Sl → Hp → Prop) (fun K s H => K s H) (fun o _ ih => vcDrawStep Γ P all o ih) l

mutual
/-- The handles that a value names, as a list. -/
def AV.hands : AV → List Nat
  | .bptr h _ | .eptr h _ _ _ | .vec h _ _ _ | .map h => [h]
  | .agg cs | .tup cs => AV.handsL cs
  | .fn _ fs cs => AV.handsL fs ++ AV.handsL cs
  | .any | .undef | .tf _ | .emp | .p _ => []
def AV.handsL : List AV → List Nat
  | [] => []
  | c :: cs => c.hands ++ AV.handsL cs
end
def disjB (a b : List Nat × List Nat) : Bool :=
  (a.2.all fun h => b.2.all fun g => !(Nat.beq h g)) && ((a.2.all fun h => b.1.all fun g => !(Nat.beq h g)) && (b.2.all fun h => a.1.all fun g => !(Nat.beq h g)))
/-- Whatever clashes is ordered; appends onto rows are looked at later. -/
def drawOKX (ops : Array Oper) : Bool :=
  let ms := masksGo ops.toList []
  (ops.toList.zipIdx.all fun y => (y.1.after.toList.all fun e => !(Region.binds .any e) || Nat.blt e.on y.2) &&
    ops.toList.zipIdx.all fun x => !(Nat.blt x.2 y.2) || ((x.1.apart ops y.1 && (quiet0 x.1.op && quiet0 y.1.op)) || (ms.getD y.2 0).testBit x.2))
def dynOK (ops : Array Oper) (acc : List (List Nat × List Nat)) : Bool :=
  let ms := masksGo ops.toList []
  ops.toList.zipIdx.all fun y => ops.toList.zipIdx.all fun x => !(Nat.blt x.2 y.2) || ((quiet ops x.1.op && quiet ops y.1.op) || ((ms.getD y.2 0).testBit x.2 || disjB (acc.getD x.2 ([], [])) (acc.getD y.2 ([], []))))
abbrev Acc := List (List Nat × List Nat)
def Blk.rhands : Blk → List Nat
  | .rows _ cs => AV.handsL cs
  | _ => []
/-- What an operation looks at: what it names, and what the rows of rows name that it names. -/
def handsH (H : Hp) (l : List Nat) : List Nat := l ++ l.flatMap fun k => (look H k).rhands
def vcDrawXStep (all : Array Oper) (o : Oper) (ih : (Acc → Sl → Hp → Prop) → Acc → Sl → Hp → Prop) (K : Acc → Sl → Hp → Prop) (acc : Acc) (s : Sl) (H : Hp) : Prop :=
    let run := evalL (WK s) o.op.operands.toList fun vs => lenK' H 0 fun base => SOp (fun K' => opSem Γ P (fun _ => false) (WK s) (lookK H) (look H) base o.op K') (quiet all o.op) base fun v ups => upsK ups H fun H' => ih K (acc ++ [(handsH H (AV.handsL vs), ups.map (·.1))]) (putL o.dst v s) H'
    let skip := ih K (acc ++ [([], [])]) (putL o.dst .undef s) H
    match o.guard with
    | none => run
    | some (j, want) => match (all[j]?).bind (·.dst) with
      | none => False
      | some t => getSK s t fun v => match v with
        | .tf b => cond (b == want) run skip
        | .undef => skip
        | .p (.bool b) => cond (b == want) run skip
        | _ => False
noncomputable def vcDrawX (all : Array Oper) (l : List Oper) : (Acc → Sl → Hp → Prop) → Acc → Sl → Hp → Prop :=
  List.rec (motive := fun _ => (Acc → Sl → Hp → Prop) → Acc → Sl → Hp → Prop) (fun K acc s H => K acc s H) (fun o _ ih => vcDrawXStep Γ P all o ih) l

inductive Ex where
  | normal
  | exit (id : Nat)
  | ret

/-- The slots of a pattern are those of a state, the pattern's block i being the state's block hs[i]. -/
def WeakS (hs : List Nat) (s : Sl) : Sl → Prop
  | [] => True
  | (t, v) :: p => (getSK s t fun u => v.ren (fun i => hs.getD i 0) = u) ∧ WeakS hs s p
def WeakH (hs : List Nat) (H : Hp) : Hp → Nat → Prop
  | [], _ => True
  | B :: p, i => (lookK H (hs.getD i 0) fun C => B.ren (fun i => hs.getD i 0) = C) ∧ WeakH hs H p (i + 1)

end

mutual
/-- Are all handles below k? -/
def AV.under (k : Nat) : AV → Bool
  | .bptr h _ | .eptr h _ _ _ | .vec h _ _ _ | .map h => Nat.blt h k
  | .agg cs | .tup cs => AV.underL k cs
  | .fn _ fs cs => AV.underL k fs && AV.underL k cs
  | .any | .undef | .tf _ | .emp | .p _ => true
def AV.underL (k : Nat) : List AV → Bool
  | [] => true
  | c :: cs => c.under k && AV.underL k cs
end

theorem AV.under_ok {k : Nat} : ∀ {c : AV}, c.under k = true → ∀ j, c.men j → j < k := by
  have key : ∀ (m : Nat) (c : AV), SizeOf.sizeOf c ≤ m → c.under k = true → ∀ j, c.men j → j < k := by
    intro m
    induction m with
    | zero => intro c hc; cases c <;> simp at hc
    | succ m ih =>
      intro c hc hb j hj
      have list : ∀ cs : List AV, SizeOf.sizeOf cs ≤ m → AV.underL k cs = true → AV.menL cs j → j < k := by
        intro cs
        induction cs with
        | nil => intro _ _ h; simp only [AV.menL] at h
        | cons d cs ih2 =>
          intro hs hb hj
          simp only [AV.underL, Bool.and_eq_true] at hb
          simp only [AV.menL] at hj
          simp at hs
          rcases hj with hj | hj
          · exact ih d (by omega) hb.1 j hj
          · exact ih2 (by omega) hb.2 hj
      cases c <;> simp only [AV.men] at hj <;> simp only [AV.under] at hb
      case bptr h o => subst hj; simpa using hb
      case eptr h _ _ _ => subst hj; simpa using hb
      case vec h _ _ _ => subst hj; simpa using hb
      case map h => subst hj; simpa using hb
      case agg cs => exact list cs (by simp at hc; omega) hb hj
      case tup cs => exact list cs (by simp at hc; omega) hb hj
      case fn f fs cs =>
        simp only [Bool.and_eq_true] at hb
        rcases hj with hj | hj
        · exact list fs (by simp at hc; omega) hb.1 hj
        · exact list cs (by simp at hc; omega) hb.2 hj
  exact fun {c} => key _ c (Nat.le_refl _)

def Blk.under (k : Nat) : Blk → Bool
  | .free => false
  | .box _ cs => AV.underL k cs
  | .rows _ cs => AV.underL k cs
  | _ => true

def belowS (k : Nat) : Sl → Bool
  | [] => true
  | (_, v) :: s => v.under k && belowS k s
def belowH (k : Nat) : Hp → Bool
  | [] => true
  | B :: H => B.under k && belowH k H

/-- The pattern p is what is still known of the state x: the pattern's block i is the state's block hs[i]. -/
structure Weak (nin : Nat) (hs : List Nat) (p : Sl × Hp) (s : Sl) (H : Hp) : Prop where
  pre : hs.take nin = List.range nin
  nd : hs.Nodup
  len : hs.length = p.2.length
  bs : belowS p.2.length p.1 = true
  bh : belowH p.2.length p.2 = true
  ss : WeakS hs s p.1
  sh : WeakH hs H p.2 0

theorem WeakS.get {hs : List Nat} {s p : Sl} (h : WeakS hs s p) (t : Nat) : getS p t = .any ∨ (getS p t).ren (fun i => hs.getD i 0) = getS s t := by
  induction p with
  | nil => exact .inl rfl
  | cons x p ih =>
    obtain ⟨i, v⟩ := x
    simp only [WeakS] at h
    simp only [getS]
    cases e : Nat.beq i t with
    | false => exact ih h.2
    | true =>
      have := Nat.eq_of_beq_eq_true e
      subst this
      exact .inr (getSK_ok h.1)
theorem WeakH.get {hs : List Nat} {H p : Hp} {i : Nat} (h : WeakH hs H p i) (k : Nat) (hk : k < p.length) : (look p k).ren (fun i => hs.getD i 0) = look H (hs.getD (i + k) 0) := by
  induction p generalizing i k with
  | nil => simp at hk
  | cons B p ih =>
    simp only [WeakH] at h
    cases k with
    | zero => exact lookK_ok _ _ _ h.1
    | succ k =>
      have := ih h.2 k (by simpa using hk)
      rw [show i + 1 + k = i + (k + 1) by omega] at this
      exact this
theorem belowS_get {k : Nat} {p : Sl} (h : belowS k p = true) (t j : Nat) (hj : (getS p t).men j) : j < k := by
  induction p with
  | nil => simp only [getS, AV.men] at hj
  | cons x p ih =>
    obtain ⟨i, v⟩ := x
    simp only [belowS, Bool.and_eq_true] at h
    simp only [getS] at hj
    cases e : Nat.beq i t <;> rw [e] at hj
    · exact ih h.2 hj
    · exact AV.under_ok h.1 j hj
theorem belowH_get {k : Nat} {p : Hp} (h : belowH k p = true) (i : Nat) (hi : i < p.length) : (look p i).under k = true := by
  induction p generalizing i with
  | nil => simp at hi
  | cons B p ih =>
    simp only [belowH, Bool.and_eq_true] at h
    cases i with
    | zero => exact h.1
    | succ i => exact ih h.2 i (by simpa using hi)
theorem Blk.under_ok {k : Nat} {B : Blk} (h : B.under k = true) : B ≠ .free ∧ ∀ j, B.men j → j < k := by
  cases B with
  | free => cases h
  | box T cs =>
    refine ⟨(fun e => by cases e), fun j hj => ?_⟩
    have this : (AV.agg cs).under k = true := h
    exact AV.under_ok this j (show (AV.agg cs).men j from hj)
  | rows T cs =>
    refine ⟨(fun e => by cases e), fun j hj => ?_⟩
    have this : (AV.agg cs).under k = true := h
    exact AV.under_ok this j (show (AV.agg cs).men j from hj)
  | _ => exact ⟨(fun e => by cases e), fun j hj => hj.elim⟩

theorem Own.unren {w FB} {β : Nat → Option Nat × Nat} {ρ : Nat → Nat} {h : Nat} {B : Blk} (ho : Own w FB β (ρ h) (B.ren ρ)) : Own w FB (fun k => β (ρ k)) h B := by
  cases B with
  | free => trivial
  | dead => trivial
  | box T cs =>
    obtain ⟨h0, b, arr, h1, h2, h3, h4⟩ := ho
    have e := AV.renL_eq ρ cs
    refine ⟨fun c hc => ?_, b, arr, h1, h2, by rw [h3, e, List.length_map], fun i c v e1 e2 => ?_⟩
    · rw [← AV.one_ren ρ]; exact h0 _ (by rw [e]; exact List.mem_map_of_mem hc)
    · exact (h4 i (c.ren ρ) v (by rw [e, List.getElem?_map, e1]; rfl) e2).unren rfl
  | vec T W es => exact ho
  | map es => exact ho
  | rows T cs =>
    obtain ⟨h1, h2, h3⟩ := ho
    have e := AV.renL_eq ρ cs
    refine ⟨fun c hc => ?_, by rw [e, List.length_map] at h2; exact h2, ?_⟩
    · rw [← AV.one_ren ρ]; exact h1 _ (by rw [e]; exact List.mem_map_of_mem hc)
    · rcases h3 with h3 | ⟨b, arr, g1, g2, g3, g4⟩
      · exact .inl h3
      · exact .inr ⟨b, arr, g1, g2, g3, fun i c v e1 e2 => (g4 i (c.ren ρ) v (by rw [e, List.getElem?_map, e1]; rfl) e2).unren rfl⟩

section
variable {E : Env} {n : Nat} {a : Act} {w : World}

theorem St.weak {hs : List Nat} {p : Sl × Hp} {s : Sl} {H : Hp} (h : St E n (getS s) (look H) a w) (hw : Weak E.nin hs p s H) : St E n (getS p.1) (look p.2) a w := by
  obtain ⟨F, β, h⟩ := h
  refine ⟨F, fun k => β (hs.getD k 0), ?_⟩
  have hH : ∀ k, k < p.2.length → (look p.2 k).ren (fun i => hs.getD i 0) = look H (hs.getD k 0) := fun k hk => by have := hw.sh.get k hk; rw [Nat.zero_add] at this; exact this
  have lv : ∀ k, (look p.2 k).live → k < p.2.length ∧ (look H (hs.getD k 0)).live := fun k hk => by
    rcases Nat.lt_or_ge k p.2.length with hlt | hge
    · exact ⟨hlt, by rw [← hH k hlt, Blk.live_ren]; exact hk⟩
    · rw [look_ge hge] at hk; exact hk.elim
  have hget : ∀ k, k < p.2.length → hs[k]? = some (hs.getD k 0) := fun k hk => by
    have : k < hs.length := by rw [hw.len]; exact hk
    simp [List.getD, List.getElem?_eq_getElem this]
  exact {
    os := h.os, tape := h.tape, output := h.output, size := h.size, keep := h.keep, keeplt := h.keeplt, bor := h.bor, flt := h.flt, fold := h.fold
    own := fun k b h1 h2 => h.own _ b (lv k h1).2 h2
    dis := fun k k' b h1 h2 h3 h4 => by
      have := h.dis _ _ b (lv k h1).2 (lv k' h2).2 h3 h4
      have e1 := hget k (lv k h1).1
      have e2 := hget k' (lv k' h2).1
      rw [this] at e1
      exact (List.getElem?_inj (by rw [hw.len]; exact (lv k h1).1) hw.nd).1 (e1.trans e2.symm)
    len := h.len
    slots := fun t => by
      rcases hw.ss.get t with e | e
      · rw [e]; exact .any _
      · have := h.slots t
        rw [← e] at this
        exact this.unren rfl
    blks := fun k => by
      rcases Nat.lt_or_ge k p.2.length with hlt | hge
      · have := h.blks (hs.getD k 0)
        rw [← hH k hlt] at this
        exact Own.unren (ρ := fun i => hs.getD i 0) this
      · rw [look_ge hge]; trivial
    ms := fun t k hk => (Blk.under_ok (belowH_get hw.bh k (belowS_get hw.bs t k hk))).1
    mb := fun i k hk => by
      rcases Nat.lt_or_ge i p.2.length with hlt | hge
      · exact (Blk.under_ok (belowH_get hw.bh k ((Blk.under_ok (belowH_get hw.bh i hlt)).2 k hk))).1
      · rw [look_ge hge] at hk; exact hk.elim
    defers := h.defers
    fs0 := h.fs0
    bin := fun i hi => by
      have hp : (hs.take E.nin)[i]? = some i := by rw [hw.pre, List.getElem?_range hi]
      rw [List.getElem?_take_of_lt hi] at hp
      have e : hs.getD i 0 = i := by simp [List.getD, hp]
      have hlt : i < p.2.length := by rw [← hw.len]; exact (List.getElem?_eq_some_iff.1 hp).1
      refine ⟨by show β (hs.getD i 0) = _; rw [e]; exact (h.bin i hi).1, (Blk.under_ok (belowH_get hw.bh i hlt)).1⟩ }
end

/-- An empty row becomes one of the call's own. -/
theorem StI.thaw {E : Env} {n : Nat} {s : Nat → AV} {L : Nat → Blk} {a : Act} {w : World} {F : Nat → Prop} {β : Nat → Option Nat × Nat} (h : StI E n s L a w F β) {t base W : Nat} (T : TypeId) (ht : s t = .emp) (hfree : L base = .free) :
    StI E n (upd s t (.vec base W 0 0)) (upd L base (.vec T W [])) a w F (upd β base (none, 0)) := by
  have ne : ∀ k, L k ≠ .free → k ≠ base := fun k hk e => hk (e ▸ hfree)
  have h1 : StI E n s (upd L base (.vec T W [])) a w F (upd β base (none, 0)) := by
    refine h.step rfl rfl rfl (Nat.le_refl _) (fun _ => id) h.flt h.fold (fun _ _ => rfl) (fun _ _ => rfl) (fun k hk => upd_other _ _ (ne k hk)) (fun k hk => by rw [upd_other _ _ (ne k hk)]; exact hk) (fun k => ?_) (fun k b g1 g2 => ?_) (fun k k' b g1 g2 g3 g4 => ?_)
    · by_cases e : k = base
      · subst e; rw [upd_same]
        exact .inr ⟨⟨fun e he => by simp at he, by simp, .inl (by rw [upd_same]; exact ⟨rfl, rfl⟩)⟩, fun j hj => hj.elim⟩
      · rw [upd_other _ _ e]; exact .inl ⟨rfl, fun _ _ _ => rfl⟩
    · by_cases e : k = base
      · subst e; rw [upd_same] at g2; cases g2
      · rw [upd_other _ _ e] at g1 g2; exact h.own k b g1 g2
    · by_cases e : k = base
      · subst e; rw [upd_same] at g3; cases g3
      · by_cases e' : k' = base
        · subst e'; rw [upd_same] at g4; cases g4
        · rw [upd_other _ _ e] at g1 g3; rw [upd_other _ _ e'] at g2 g4; exact h.dis k k' b g1 g2 g3 g4
  refine { h1 with slots := fun t' => ?_, ms := St.men_upd h1.ms fun k hk => ?_, defers := h1.defers }
  · unfold upd
    by_cases e : t' = t
    · subst e
      rw [if_pos rfl]
      have hs := h.slots t'
      rw [ht] at hs
      generalize a.tmps.getD t' Go.undef = v at hs
      cases hs with
      | empn => exact .vecn none (fun x hx => by cases hx) (by simp)
      | emp b off => exact .vecn (some ⟨b, off, none⟩) (fun x hx => by cases hx; rfl) (by simp)
    · rw [if_neg e]; exact h1.slots t'
  · obtain rfl : base = k := hk
    rw [upd_same]; exact fun e => by cases e

/-- Empty rows become the call's own, one behind the other. -/
inductive Thaw : Sl → Hp → Sl → Hp → Prop
  | done (s : Sl) (H : Hp) : Thaw s H s H
  | step {s : Sl} {H : Hp} {s' : Sl} {H' : Hp} (t : Tmp) (T : TypeId) (W : Nat) (h : getS s t = .emp) (hr : Thaw ((t, .vec H.length W 0 0) :: s) (H ++ [.vec T W []]) s' H') : Thaw s H s' H'
theorem look_append (H : Hp) (B : Blk) : look (H ++ [B]) = upd (look H) H.length B := by
  funext k
  unfold look upd
  by_cases e : k = H.length
  · subst e; simp
  · rw [if_neg e]
    rcases Nat.lt_or_ge k H.length with h | h
    · simp [List.getD, List.getElem?_append_left h]
    · show (H ++ [B]).getD k .free = H.getD k .free
      rw [getD_ge H _ h, getD_ge (H ++ [B]) _ (by simp; omega)]
theorem St.thaw {E : Env} {n : Nat} {a : Act} {w : World} {s : Sl} {H : Hp} {s' : Sl} {H' : Hp} (t : Thaw s H s' H') (h : St E n (getS s) (look H) a w) : St E n (getS s') (look H') a w := by
  induction t with
  | done s H => exact h
  | @step s H _ _ t T W ht _ ih =>
    refine ih ?_
    obtain ⟨F, β, h⟩ := h
    have := h.thaw (W := W) T ht (look_ge (Nat.le_refl _))
    rw [← look_append] at this
    refine ⟨F, upd β H.length (none, 0), ?_⟩
    have e := getS_putL (some t) (.vec H.length W 0 0) s
    simp only [putL] at e
    rw [e]
    exact this

/-- A loop: what holds at each round's begin (a pattern for each x with φ x), and what each round lowers. -/
inductive SLoop (nin : Nat) (body : (Ex → Sl → Hp → Prop) → Sl → Hp → Prop) (K : Ex → Sl → Hp → Prop) (s : Sl) (H : Hp) : Prop
  | mkT (X : Type) (st : X → Sl × Hp) (φ : X → Prop) (μ : X → Nat) (x0 : X) (hs0 : List Nat) (s1 : Sl) (H1 : Hp) (th : Thaw s H s1 H1) (h0 : φ x0) (w0 : Weak nin hs0 (st x0) s1 H1)
      (hr : ∀ x, φ x → body (fun e s' H' => match e with
        | .normal => ∃ x' hs', φ x' ∧ μ x' < μ x ∧ Weak nin hs' (st x') s' H'
        | e => K e s' H') (st x).1 (st x).2) : SLoop nin body K s H
theorem SLoop.mk {nin : Nat} {body : (Ex → Sl → Hp → Prop) → Sl → Hp → Prop} {K : Ex → Sl → Hp → Prop} {s : Sl} {H : Hp} (X : Type) (st : X → Sl × Hp) (φ : X → Prop) (μ : X → Nat) (x0 : X) (hs0 : List Nat) (h0 : φ x0) (w0 : Weak nin hs0 (st x0) s H)
    (hr : ∀ x, φ x → body (fun e s' H' => match e with
      | .normal => ∃ x' hs', φ x' ∧ μ x' < μ x ∧ Weak nin hs' (st x') s' H'
      | e => K e s' H') (st x).1 (st x).2) : SLoop nin body K s H := .mkT X st φ μ x0 hs0 s H (.done s H) h0 w0 hr

section
variable (Γ : Tab) (P : Program) (wr : FuncId → Bool) (nin : Nat)

noncomputable def VC (c : Code) : (Ex → Sl → Hp → Prop) → Sl → Hp → Prop :=
  Code.rec (motive := fun _ => (Ex → Sl → Hp → Prop) → Sl → Hp → Prop)
    (fun K s H => K .normal s H)
    (fun _ ops draw K s H => match draw with
      | false => vcOps Γ P wr ops ops.toList (fun s H => K .normal s H) s H
      | true => SDraw (drawOK ops) (vcDraw Γ P ops ops.toList (fun s H => K .normal s H) s H) (drawOKX ops) (vcDrawX Γ P ops ops.toList (fun acc s H => SFin (dynOK ops acc) (K .normal s H)) [] s H))
    (fun _ _ ihx ihy K s H => ihx (fun e s H => match e with
      | .normal => ihy K s H
      | e => K e s H) s H)
    (fun c _ _ ihx ihy K s H => WK s c fun v => match v with
      | .tf true => ihx K s H
      | .tf false => ihy K s H
      | .p (.bool b) => SCond b (ihx K (setTF c true s) H) (ihy K (setTF c false s) H)
      | _ => False)
    (fun id _ ih K s H => ih (fun e s H => match e with
      | .exit id' => cond (Nat.beq id' id) (K .normal s H) (K (.exit id') s H)
      | e => K e s H) s H)
    (fun _ ih K s H => SLoop nin ih K s H)
    (fun _ _ _ _ _ _ _ _ _ => False)
    (fun id K s H => K (.exit id) s H)
    (fun _ _ _ _ _ => False)
    (fun _ _ _ _ => False)
    (fun _ _ _ _ => False)
    (fun K s H => K .ret s H)
    (fun _ _ _ _ => False) c

/-- All slots that are written lie in the frame. -/
def opsFit (n : Nat) (ops : List Oper) : Bool := ops.all fun o => match o.dst with
  | some d => Nat.blt d n
  | none => true
def fits (n : Nat) : Code → Bool
  | .skip | .exit _ | .ret => true
  | .region _ ops _ => opsFit n ops.toList
  | .seq x y => fits n x && fits n y
  | .cond _ x y => fits n x && fits n y
  | .block _ x | .loop x => fits n x
  | _ => false
end
end Go.Proofs.YtacklcbgkigcaaaGreat
