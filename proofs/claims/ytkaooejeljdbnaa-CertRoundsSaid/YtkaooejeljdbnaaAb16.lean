/- A function's code over abstract states: what is to be shown (VC), and that it is enough. -/
import Derived.Test.YtkaooejeljdbnaaAb15
import Derived.Orders
namespace Go.Proofs.Ytkaooejeljdbnaa
open Go
set_option linter.unusedVariables false
set_option linter.unusedSimpArgs false

abbrev Sl := List (Nat × AV)
abbrev Hp := List Blk

def getS : Sl → Nat → AV
  | [], _ => .any
  | (i, v) :: s, t => cond (Nat.beq i t) v (getS s t)
def getSK : Sl → Nat → (AV → Prop) → Prop
  | [], _, K => K .any
  | (i, v) :: s, t, K => cond (Nat.beq i t) (K v) (getSK s t K)
def lookN : Hp → Nat → (Blk → Prop) → Prop
  | [], _, K => K .free
  | B :: _, 0, K => K B
  | _ :: H, h + 1, K => lookN H h K
/-- A pool's row. -/
inductive SRow (rows : List (Option (List PV))) (k : Nat) (K : List PV → Prop) : Prop
  | mk (es : List PV) (h : rows[k]? = some (some es)) (hk : K es)
inductive SPool (rows : List (Option (List PV))) (k : Nat) (x : Option (List PV)) (K : List (Option (List PV)) → Prop) : Prop
  | mk (rows' : List (Option (List PV))) (hk : k < rows.length) (h : rows.set k x = rows') (hK : K rows')
def lookK (H : Hp) (h : Hd) (K : Blk → Prop) : Prop :=
  match h with
  | .t n => lookN H n fun B => match B with
    | .pool _ _ _ => K .dead
    | B => K B
  | .r n k => lookN H n fun B => match B with
    | .pool T W rows => SRow rows k fun es => K (.vec T W es)
    | _ => False
def modN : Hp → Nat → (Blk → (Blk → Prop) → Prop) → (Hp → Prop) → Prop
  | [], 0, f, K => f .free fun B => K [B]
  | [], h + 1, f, K => modN [] h f fun l => K (.free :: l)
  | B :: H, 0, f, K => f B fun B' => K (B' :: H)
  | C :: H, h + 1, f, K => modN H h f fun l => K (C :: l)
def putB (H : Hp) (h : Hd) (B : Blk) (K : Hp → Prop) : Prop :=
  match h with
  | .t n => modN H n (fun C J => match C with
    | .pool _ _ _ => match B with
      | .pool T W rows => J (.pool T W rows)
      | _ => False
    | _ => J B) K
  | .r n k => modN H n (fun C J => match C with
    | .pool T W rows => match B with
      | .vec T' W' es => cond (Nat.beq T T' && Nat.beq W W') (SPool rows k (some es) fun rows' => J (.pool T W rows')) False
      | .dead => SPool rows k none fun rows' => J (.pool T W rows')
      | _ => False
    | _ => False) K
def upsK : List (Hd × Blk) → Hp → (Hp → Prop) → Prop
  | [], H, K => K H
  | (h, B) :: ups, H, K => putB H h B fun H' => upsK ups H' K
def lenK' : Hp → Nat → (Nat → Prop) → Prop
  | [], n, K => K n
  | _ :: H, n, K => lenK' H (n + 1) K
def putL (d : Option Tmp) (v : AV) (s : Sl) : Sl :=
  match d with
  | some d => (d, v) :: s
  | none => s
def WK (s : Sl) (x : Operand) (K : AV → Prop) : Prop :=
  match x with
  | .tmp t => getSK s t K
  | x => K (rho (fun _ => .any) x)

theorem getSK_ok {s : Sl} {t : Nat} {K : AV → Prop} (h : getSK s t K) : K (getS s t) := by
  induction s with
  | nil => exact h
  | cons x s ih =>
    obtain ⟨i, v⟩ := x
    simp only [getSK, getS] at h ⊢
    cases e : Nat.beq i t <;> rw [e] at h
    · exact ih h
    · exact h
theorem WK_ok (s : Sl) (x : Operand) (K : AV → Prop) (h : WK s x K) : K (rho (getS s) x) := by
  cases x with
  | tmp t => exact getSK_ok h
  | _ => exact h
theorem lookN_ok (H : Hp) (h : Nat) (K : Blk → Prop) (hk : lookN H h K) : K (H.getD h .free) := by
  induction H generalizing h with
  | nil => exact hk
  | cons B H ih =>
    cases h with
    | zero => exact hk
    | succ h => exact ih h hk
theorem lookK_ok (H : Hp) (h : Hd) (K : Blk → Prop) (hk : lookK H h K) : K (look H h) := by
  cases h with
  | t n =>
    have := lookN_ok _ _ _ hk
    show K (H.getD n .free).top
    generalize H.getD n .free = B at this
    cases B <;> exact this
  | r n k =>
    have := lookN_ok _ _ _ hk
    show K ((H.getD n .free).row k)
    generalize H.getD n .free = B at this
    cases B <;> first | exact this.elim | skip
    obtain ⟨es, h, hk⟩ := this
    simp only [Blk.row, h]
    exact hk
theorem modN_ok {R : Blk → Blk → Prop} {f : Blk → (Blk → Prop) → Prop} (hf : ∀ C J, f C J → ∃ B, J B ∧ R C B) {H : Hp} {n : Nat} {K : Hp → Prop} (hk : modN H n f K) :
    ∃ H' B, K H' ∧ R (H.getD n .free) B ∧ H.length ≤ H'.length ∧ n < H'.length ∧ ∀ m, H'.getD m .free = if m = n then B else H.getD m .free := by
  induction H generalizing n K with
  | nil =>
    induction n generalizing K with
    | zero =>
      obtain ⟨B, h1, h2⟩ := hf _ _ hk
      exact ⟨_, B, h1, h2, by simp, by simp, fun m => by cases m <;> simp⟩
    | succ n ih =>
      obtain ⟨H', B, h1, h2, h3, h4, h5⟩ := ih (K := fun l => K (.free :: l)) hk
      refine ⟨_, B, h1, h2, by simp, by simp; omega, fun m => ?_⟩
      cases m with
      | zero => simp
      | succ m => have := h5 m; simp at this ⊢; exact this
  | cons C H ih =>
    cases n with
    | zero =>
      obtain ⟨B, h1, h2⟩ := hf _ _ hk
      exact ⟨_, B, h1, h2, by simp, by simp, fun m => by cases m <;> simp⟩
    | succ n =>
      obtain ⟨H', B, h1, h2, h3, h4, h5⟩ := ih (K := fun l => K (C :: l)) hk
      refine ⟨_, B, h1, h2, by simp; omega, by simp; omega, fun m => ?_⟩
      cases m with
      | zero => simp
      | succ m => have := h5 m; simp at this ⊢; exact this
theorem putB_ok {H : Hp} {h : Hd} {B : Blk} {K : Hp → Prop} (hk : putB H h B K) : ∃ H', K H' ∧ look H' = updB (look H) h B ∧ H.length ≤ H'.length ∧ h.key < H'.length := by
  cases h with
  | t n =>
    obtain ⟨H', B', h1, h2, h3, h4, h5⟩ := modN_ok (R := fun C B' => B' = B ∧ (C.isPool = true → B.isPool = true)) (fun C J hJ => by
      cases C with
      | pool T W rows => cases B <;> first | exact hJ.elim | exact ⟨_, hJ, rfl, fun _ => rfl⟩
      | _ => exact ⟨_, hJ, rfl, fun h => by cases h⟩) hk
    obtain ⟨rfl, h2⟩ := h2
    refine ⟨H', h1, ?_, h3, h4⟩
    funext g
    by_cases e : g.key = n
    · cases g with
      | t m => have e : m = n := e; subst e; rw [updB_t]; simp only [look, h5, Hd.key, if_true]
      | r m k =>
        have e : m = n := e
        subst e
        rw [updB_row]
        · simp only [look, h5, Hd.key, if_true]
        · intro hp
          simp only [look, Hd.key] at h2 ⊢
          generalize H.getD m .free = C at h2
          cases C <;> first | rfl | (rw [h2 rfl] at hp; cases hp)
    · rw [updB_other e]
      cases g <;> simp only [Hd.key] at e <;> simp only [look, h5, if_neg e]
  | r n k =>
    obtain ⟨H', B', h1, h2, h3, h4, h5⟩ := modN_ok (R := fun C B' => ∃ T W rows x, C = .pool T W rows ∧ k < rows.length ∧ B' = .pool T W (rows.set k x) ∧ B.isPool = false ∧ B = (match x with | some es => .vec T W es | none => .dead)) (fun C J hJ => by
      cases C with
      | pool T W rows =>
        cases B <;> first | exact hJ.elim | skip
        · obtain ⟨rows', hlt, rfl, hJ⟩ := hJ
          exact ⟨_, hJ, T, W, rows, none, rfl, hlt, rfl, rfl, rfl⟩
        · rename_i T' W' es
          cases hc : (Nat.beq T T' && Nat.beq W W') with
          | false => simp only [hc] at hJ; exact hJ.elim
          | true =>
            simp only [hc] at hJ
            simp only [Bool.and_eq_true] at hc
            have e1 := Nat.eq_of_beq_eq_true hc.1
            have e2 := Nat.eq_of_beq_eq_true hc.2
            subst e1; subst e2
            obtain ⟨rows', hlt, rfl, hJ⟩ := hJ
            exact ⟨_, hJ, T, W, rows, some es, rfl, hlt, rfl, rfl, rfl⟩
      | _ => exact hJ.elim) hk
    obtain ⟨T, W, rows, x, h6, hlt, rfl, hnp, hB⟩ := h2
    refine ⟨H', h1, ?_, h3, h4⟩
    have hu : updB (look H) (.r n k) B = upd (look H) (.r n k) B := by cases B <;> first | rfl | cases hnp
    rw [hu]
    funext g
    unfold upd
    cases g with
    | t m =>
      rw [if_neg (fun e => by cases e)]
      simp only [look, h5]
      split
      · rename_i e; subst e; rw [h6]; rfl
      · rfl
    | r m j =>
      simp only [look, h5]
      by_cases e : m = n
      · subst e
        rw [if_pos rfl, h6]
        simp only [Blk.row]
        by_cases e : j = k
        · subst e
          rw [if_pos rfl, List.getElem?_set_self hlt, hB]
          cases x <;> rfl
        · rw [if_neg (fun h => by cases h; exact e rfl), List.getElem?_set_ne (fun h => e h.symm)]
      · rw [if_neg e, if_neg (fun h => by cases h; exact e rfl)]
theorem upsK_ok {ups : List (Hd × Blk)} {H : Hp} {K : Hp → Prop} (hk : upsK ups H K) : ∃ H', K H' ∧ look H' = applyUps (look H) ups := by
  induction ups generalizing H with
  | nil => exact ⟨H, hk, rfl⟩
  | cons x ups ih =>
    obtain ⟨h, B⟩ := x
    obtain ⟨H1, hk, e1, _, _⟩ := putB_ok hk
    obtain ⟨H2, hk, e2⟩ := ih hk
    exact ⟨H2, hk, by rw [e2, e1]; rfl⟩
theorem lenK'_ok {H : Hp} {n : Nat} {K : Nat → Prop} (h : lenK' H n K) : K (n + H.length) := by
  induction H generalizing n with
  | nil => exact h
  | cons B H ih => have := ih h; simp only [List.length_cons]; rw [show n + (H.length + 1) = n + 1 + H.length by omega]; exact this
theorem getS_putL (d : Option Tmp) (v : AV) (s : Sl) : getS (putL d v s) = putS (getS s) d v := by
  cases d with
  | none => rfl
  | some d =>
    funext t
    simp only [putL, getS, putS, upd]
    by_cases e : t = d
    · subst e; simp
    · have : Nat.beq d t = false := by
        cases hb : Nat.beq d t with
        | false => rfl
        | true => exact (e (Nat.eq_of_beq_eq_true hb).symm).elim
      rw [this]; simp [e]

/-- A known truth value in a slot. -/
def setTF (x : Operand) (b : Bool) (s : Sl) : Sl :=
  match x with
  | .tmp t => (t, .tf b) :: s
  | _ => s

section
variable (Γ : Tab) (P : Program) (wr : FuncId → Bool)

/-- One operation of a region, in the text's order; ih: those behind it. -/
def vcOpsStep (all : Array Oper) (o : Oper) (ih : (Sl → Hp → Prop) → Sl → Hp → Prop) (K : Sl → Hp → Prop) (s : Sl) (H : Hp) : Prop :=
    let run := fun (s : Sl) => lenK' H 0 fun base => opSem Γ P wr (WK s) (lookK H) (look H) base o.op fun v ups => upsK ups H fun H' => ih K (putL o.dst v s) H'
    let skip := fun (s : Sl) => ih K (putL o.dst .undef s) H
    match o.guard with
    | none => run s
    | some (j, want) => match (all[j]?).bind (·.dst) with
      | none => False
      | some t => getSK s t fun v => match v with
        | .tf b => cond (b == want) (run s) (skip s)
        | .undef => skip s
        | .p (.bool b) => SCond b (cond (true == want) (run ((t, .tf true) :: s)) (skip ((t, .tf true) :: s))) (cond (false == want) (run ((t, .tf false) :: s)) (skip ((t, .tf false) :: s)))
        | _ => False
/-- The operations of a region, in the text's order. -/
noncomputable def vcOps (all : Array Oper) (l : List Oper) : (Sl → Hp → Prop) → Sl → Hp → Prop :=
  List.rec (motive := fun _ => (Sl → Hp → Prop) → Sl → Hp → Prop) (fun K s H => K s H) (fun o _ ih => vcOpsStep Γ P wr all o ih) l

/-- An operation that changes no block that was there. -/
def quiet0 : Op → Bool
  | .move _ | .assign _ | .pick .. | .alloc _ | .box .. | .build .. | .buildSlice .. | .load .. | .nilCheck _ | .binOp .. | .unOp .. | .convert .. | .makeFunc .. | .makeSlice .. | .slice .. | .fieldAddr .. | .field .. | .indexAddr .. | .index .. | .extract .. => true
  | .call ⟨.builtin .len, _, _⟩ | .call ⟨.builtin .max, _, _⟩ | .call ⟨.builtin .min, _, _⟩ => true
  | .call ⟨.builtin .append, _, _⟩ => true
  | .call ⟨.value _, _, _⟩ => true
  | .store .. => true
  | .lookup .. | .makeMap _ none | .mapUpdate .. | .insert .. => true
  | _ => false
/-- An append onto what was made, empty, in the same region. -/
def freshApp (all : Array Oper) : Op → Bool
  | .call ⟨.builtin .append, xs, _⟩ => match xs.toList with
    | .tmp t :: _ => all.toList.any fun o => match o.dst, o.op with
      | some d, .buildSlice _ 0 _ => Nat.beq d t
      | _, _ => false
    | _ => false
  | .store .. | .mapUpdate .. | .insert .. => false
  | _ => true
def quiet (all : Array Oper) (op : Op) : Bool := quiet0 op && freshApp all op
/-- Is this a block that is new? -/
def Hd.from (base : Nat) : Hd → Bool
  | .t n => Nat.ble base n
  | .r _ _ => false
/-- An operation's outcome, named. -/
inductive SOp (F : (AV → List (Hd × Blk) → Prop) → Prop) (q : Bool) (base : Nat) (K : AV → List (Hd × Blk) → Prop) : Prop
  | mk (v : AV) (ups : List (Hd × Blk)) (h : F fun v' ups' => v' = v ∧ ups' = ups) (hb : (!q || ups.all fun x => Hd.from base x.1) = true) (hk : K v ups)
inductive SDraw (b : Bool) (K : Prop) (b2 : Bool) (K2 : Prop) : Prop
  | mk (h : b = true) (hk : K)
  | mkX (h : b2 = true) (hk : K2)
/-- What was read and written is apart, where the order is free. -/
inductive SFin (b : Bool) (K : Prop) : Prop
  | mk (h : b = true) (hk : K)

def maskOf (acc : List Nat) : List Edge → Nat
  | [] => 0
  | e :: es => bif Region.binds .any e then Nat.lor (Nat.lor (2 ^ e.on) (acc.getD e.on 0)) (maskOf acc es) else maskOf acc es
def masksGo : List Oper → List Nat → List Nat
  | [], acc => acc
  | o :: os, acc => masksGo os (acc ++ [maskOf acc o.after.toList])
/-- Whatever clashes is ordered. -/
def drawOK (ops : Array Oper) : Bool :=
  let ms := masksGo ops.toList []
  (ops.toList.zipIdx.all fun y => (y.1.after.toList.all fun e => !(Region.binds .any e) || Nat.blt e.on y.2) &&
    ops.toList.zipIdx.all fun x => !(Nat.blt x.2 y.2) || ((x.1.apart ops y.1 && (quiet ops x.1.op && quiet ops y.1.op)) || (ms.getD y.2 0).testBit x.2))

def vcDrawStep (all : Array Oper) (o : Oper) (ih : (Sl → Hp → Prop) → Sl → Hp → Prop) (K : Sl → Hp → Prop) (s : Sl) (H : Hp) : Prop :=
    let run := lenK' H 0 fun base => SOp (fun K' => opSem Γ P (fun _ => false) (WK s) (lookK H) (look H) base o.op K') (quiet all o.op) base fun v ups => upsK ups H fun H' => ih K (putL o.dst v s) H'
    let skip := ih K (putL o.dst .undef s) H
    match o.guard with
    | none => run
    | some (j, want) => match (all[j]?).bind (·.dst) with
      | none => False
      | some t => getSK s t fun v => match v with
        | .tf b => cond (b == want) run skip
        | .undef => skip
        | .p (.bool b) => cond (b == want) run skip
        | _ => False
/-- The operations of a region that draws its order: in the text's order, each outcome named. -/
noncomputable def vcDraw (all : Array Oper) (l : List Oper) : (Sl → Hp → Prop) → Sl → Hp → Prop :=
  List.rec (motive := fun _ => (Sl → Hp → Prop) → Sl → Hp → Prop) (fun K s H => K s H) (fun o _ ih => vcDrawStep Γ P all o ih) l

mutual
/-- The handles that a value names, as a list. -/
def AV.hands : AV → List Nat
  | .bptr h _ | .eptr h _ _ _ | .vec h _ _ _ | .map h => [h.key]
  | .agg cs | .tup cs => AV.handsL cs
  | .fn _ fs cs => AV.handsL fs ++ AV.handsL cs
  | .any | .undef | .tf _ | .emp | .p _ => []
def AV.handsL : List AV → List Nat
  | [] => []
  | c :: cs => c.hands ++ AV.handsL cs
end
def disjB (a b : List Nat × List Nat) : Bool :=
  (a.2.all fun h => b.2.all fun g => !(Nat.beq h g)) && ((a.2.all fun h => b.1.all fun g => !(Nat.beq h g)) && (b.2.all fun h => a.1.all fun g => !(Nat.beq h g)))
/-- Whatever clashes is ordered; appends onto rows are looked at later. -/
def drawOKX (ops : Array Oper) : Bool :=
  let ms := masksGo ops.toList []
  (ops.toList.zipIdx.all fun y => (y.1.after.toList.all fun e => !(Region.binds .any e) || Nat.blt e.on y.2) &&
    ops.toList.zipIdx.all fun x => !(Nat.blt x.2 y.2) || ((x.1.apart ops y.1 && (quiet0 x.1.op && quiet0 y.1.op)) || (ms.getD y.2 0).testBit x.2))
def dynOK (ops : Array Oper) (acc : List (List Nat × List Nat)) : Bool :=
  let ms := masksGo ops.toList []
  ops.toList.zipIdx.all fun y => ops.toList.zipIdx.all fun x => !(Nat.blt x.2 y.2) || ((quiet ops x.1.op && quiet ops y.1.op) || ((ms.getD y.2 0).testBit x.2 || disjB (acc.getD x.2 ([], [])) (acc.getD y.2 ([], []))))
abbrev Acc := List (List Nat × List Nat)
def Blk.rhands : Blk → List Nat
  | .rows _ cs | .box _ cs => AV.handsL cs
  | _ => []
def handsStep (H : Hp) (l : List Nat) : List Nat := l ++ l.flatMap fun k => (H.getD k .free).rhands
/-- What an operation looks at: what it names, and what the boxes and the rows of rows name that it names. -/
def handsH (H : Hp) (l : List Nat) : List Nat := handsStep H (handsStep H l)
/-- Does an operation look into blocks? -/
def looks : Op → Bool
  | .load .. | .store .. | .lookup .. | .mapUpdate .. | .insert .. | .next .. | .entry .. | .range .. | .mapEntry .. | .entryStore .. => true
  | .call ⟨.builtin .len, _, _⟩ | .call ⟨.builtin .max, _, _⟩ | .call ⟨.builtin .min, _, _⟩ => false
  | .call _ | .go _ | .defer _ => true
  | _ => false
def vcDrawXStep (all : Array Oper) (o : Oper) (ih : (Acc → Sl → Hp → Prop) → Acc → Sl → Hp → Prop) (K : Acc → Sl → Hp → Prop) (acc : Acc) (s : Sl) (H : Hp) : Prop :=
    let run := evalL (WK s) o.op.operands.toList fun vs => lenK' H 0 fun base => SOp (fun K' => opSem Γ P (fun _ => false) (WK s) (lookK H) (look H) base o.op K') (quiet all o.op) base fun v ups => upsK ups H fun H' => ih K (acc ++ [(cond (looks o.op) (handsH H (AV.handsL vs)) [], ups.map fun x => x.1.key)]) (putL o.dst v s) H'
    let skip := ih K (acc ++ [([], [])]) (putL o.dst .undef s) H
    match o.guard with
    | none => run
    | some (j, want) => match (all[j]?).bind (·.dst) with
      | none => False
      | some t => getSK s t fun v => match v with
        | .tf b => cond (b == want) run skip
        | .undef => skip
        | .p (.bool b) => cond (b == want) run skip
        | _ => False
noncomputable def vcDrawX (all : Array Oper) (l : List Oper) : (Acc → Sl → Hp → Prop) → Acc → Sl → Hp → Prop :=
  List.rec (motive := fun _ => (Acc → Sl → Hp → Prop) → Acc → Sl → Hp → Prop) (fun K acc s H => K acc s H) (fun o _ ih => vcDrawXStep Γ P all o ih) l

inductive Ex where
  | normal
  | exit (id : Nat)
  | ret

theorem blt_iff {a b : Nat} : Nat.blt a b = true ↔ a < b := iff_of_eq Nat.blt_eq
/-- A place's number: of a pool that takes a row in, the row's number lies above. -/
def ptop (n : Nat) : Nat := n % 1000
@[simp] def pused (n : Nat) : List Nat := if n < 1000 then [n] else [n % 1000, n / 1000 - 1]
def Blk.plen : Blk → Option Nat
  | .pool _ _ rs => some rs.length
  | _ => none
def plenAt (H : Hp) (i : Nat) : Nat :=
  match H.getD i .free with
  | .pool _ _ rows => rows.length
  | _ => 0
/-- From the pattern's handles to the state's: the pattern's block i is the state's block hs[i]. -/
def renW (hs : List Nat) (p : Hp) : Hd → Hd
  | .t i => .t (ptop (hs.getD i 0))
  | .r i k => cond (Nat.blt (hs.getD i 0) 1000) (.r (hs.getD i 0) k) (cond (Nat.blt (k + 1) (plenAt p i)) (.r (hs.getD i 0 % 1000) k) (.t (hs.getD i 0 / 1000 - 1)))
/-- The slots of a pattern are those of a state. -/
def WeakS (ρ : Hd → Hd) (s : Sl) : Sl → Prop
  | [] => True
  | (t, v) :: p => (getSK s t fun u => v.ren ρ = u) ∧ WeakS ρ s p
def WeakH (Q : Prop) (hs : List Nat) (ρ : Hd → Hd) (H : Hp) : Hp → Nat → Prop
  | [], _ => Q
  | B :: p, i => (cond (Nat.blt (hs.getD i 0) 1000) (lookN H (hs.getD i 0) fun C => B.ren ρ = C)
      (lookN H (hs.getD i 0 % 1000) fun C => lookN H (hs.getD i 0 / 1000 - 1) fun D => ∃ T W rows es, C = .pool T W rows ∧ D = .vec T W es ∧ B = .pool T W (rows ++ [some es]))) ∧ WeakH Q hs ρ H p (i + 1)
/-- The pools that were handed over have all their rows still. -/
def poolsIn : List (Option Nat) → Hp → Prop → Prop
  | [], _, Q => Q
  | none :: ns, H, Q => poolsIn ns H.tail Q
  | some n :: ns, H, Q => match H with
    | .pool _ _ rows :: H => n ≤ rows.length ∧ poolsIn ns H Q
    | _ => False
/-- A pool's row that is named is there. -/
def rowIn (p : Hp) (h : Hd) (Q : Prop) : Prop :=
  match h with
  | .t _ => Q
  | .r i k => (lookN p i fun B => match B with
    | .pool _ _ rows => k < rows.length
    | _ => False) ∧ Q
def rowsInV (p : Hp) (v : AV) (Q : Prop) : Prop :=
  match v with
  | .bptr h _ | .eptr h _ _ _ | .vec h _ _ _ | .map h => rowIn p h Q
  | _ => Q
def rowsInS (p : Hp) : Sl → Prop → Prop
  | [], Q => Q
  | (_, v) :: s, Q => rowsInV p v (rowsInS p s Q)
def rowsInH (p : Hp) : Hp → Prop → Prop
  | [], Q => Q
  | .rows _ cs :: H, Q => (∀ c ∈ cs, ∀ h, c.men h → look p h ≠ .free) ∧ rowsInH p H Q
  | _ :: H, Q => rowsInH p H Q

end

mutual
/-- Are all handles below k? -/
def AV.under (k : Nat) : AV → Bool
  | .bptr (.t h) _ | .eptr (.t h) _ _ _ | .vec (.t h) _ _ _ | .map (.t h) => Nat.blt h k
  | .bptr _ _ | .eptr _ _ _ _ | .vec _ _ _ _ | .map _ => false
  | .agg cs | .tup cs => AV.underL k cs
  | .fn _ fs cs => AV.underL k fs && AV.underL k cs
  | .any | .undef | .tf _ | .emp | .p _ => true
def AV.underL (k : Nat) : List AV → Bool
  | [] => true
  | c :: cs => c.under k && AV.underL k cs
end

theorem AV.under_ok {k : Nat} : ∀ {c : AV}, c.under k = true → ∀ j, c.men j → ∃ i, j = .t i ∧ i < k := by
  have key : ∀ (m : Nat) (c : AV), SizeOf.sizeOf c ≤ m → c.under k = true → ∀ j, c.men j → ∃ i, j = .t i ∧ i < k := by
    intro m
    induction m with
    | zero => intro c hc; cases c <;> simp at hc
    | succ m ih =>
      intro c hc hb j hj
      have list : ∀ cs : List AV, SizeOf.sizeOf cs ≤ m → AV.underL k cs = true → AV.menL cs j → ∃ i, j = .t i ∧ i < k := by
        intro cs
        induction cs with
        | nil => intro _ _ h; simp only [AV.menL] at h
        | cons d cs ih2 =>
          intro hs hb hj
          simp only [AV.underL, Bool.and_eq_true] at hb
          simp only [AV.menL] at hj
          simp at hs
          rcases hj with hj | hj
          · exact ih d (by omega) hb.1 j hj
          · exact ih2 (by omega) hb.2 hj
      cases c <;> simp only [AV.men] at hj
      case bptr h o => subst hj; cases h <;> simp only [AV.under] at hb <;> first | exact ⟨_, rfl, by simpa using hb⟩ | cases hb
      case eptr h _ _ _ => subst hj; cases h <;> simp only [AV.under] at hb <;> first | exact ⟨_, rfl, by simpa using hb⟩ | cases hb
      case vec h _ _ _ => subst hj; cases h <;> simp only [AV.under] at hb <;> first | exact ⟨_, rfl, by simpa using hb⟩ | cases hb
      case map h => subst hj; cases h <;> simp only [AV.under] at hb <;> first | exact ⟨_, rfl, by simpa using hb⟩ | cases hb
      case agg cs => simp only [AV.under] at hb; exact list cs (by simp at hc; omega) hb hj
      case tup cs => simp only [AV.under] at hb; exact list cs (by simp at hc; omega) hb hj
      case fn f fs cs =>
        simp only [AV.under, Bool.and_eq_true] at hb
        rcases hj with hj | hj
        · exact list fs (by simp at hc; omega) hb.1 hj
        · exact list cs (by simp at hc; omega) hb.2 hj
  exact fun {c} => key _ c (Nat.le_refl _)

/-- A slot's value: a pool's row may be named. -/
def AV.under1 (k : Nat) (v : AV) : Bool :=
  match v with
  | .bptr (.r _ _) _ | .eptr (.r _ _) _ _ _ | .vec (.r _ _) _ _ _ | .map (.r _ _) => true
  | v => v.under k
def Blk.under (k : Nat) : Blk → Bool
  | .free => false
  | .box _ cs => AV.underL k cs
  | _ => true

def belowS (k : Nat) : Sl → Bool
  | [] => true
  | (_, v) :: s => v.under1 k && belowS k s
def belowH (k : Nat) : Hp → Bool
  | [] => true
  | B :: H => B.under k && belowH k H

/-- The pattern p is what is still known of the state x. -/
structure Weak (nin : List (Option Nat)) (hs : List Nat) (p : Sl × Hp) (s : Sl) (H : Hp) : Prop where
  pre : hs.take nin.length = List.range nin.length
  nd : (hs.flatMap pused).Nodup
  len : hs.length = p.2.length
  bs : belowS p.2.length p.1 = true
  bh : belowH p.2.length p.2 = true
  ss : WeakS (renW hs p.2) s p.1
  sh : WeakH (rowsInS p.2 p.1 (rowsInH p.2 p.2 (poolsIn nin p.2 True))) hs (renW hs p.2) H p.2 0

theorem WeakS.get {ρ : Hd → Hd} {s p : Sl} (h : WeakS ρ s p) (t : Nat) : getS p t = .any ∨ (getS p t).ren ρ = getS s t := by
  induction p with
  | nil => exact .inl rfl
  | cons x p ih =>
    obtain ⟨i, v⟩ := x
    simp only [WeakS] at h
    simp only [getS]
    cases e : Nat.beq i t with
    | false => exact ih h.2
    | true =>
      have := Nat.eq_of_beq_eq_true e
      subst this
      exact .inr (getSK_ok h.1)
theorem WeakH.base {Q : Prop} {hs : List Nat} {ρ : Hd → Hd} {H p : Hp} {i : Nat} (h : WeakH Q hs ρ H p i) : Q := by
  induction p generalizing i with
  | nil => exact h
  | cons B p ih => exact ih h.2
/-- How the pattern's block i lies in the state. -/
def LiesAt (ρ : Hd → Hd) (H : Hp) (B : Blk) (n : Nat) : Prop :=
  (n < 1000 ∧ B.ren ρ = H.getD n .free) ∨ (1000 ≤ n ∧ ∃ T W rows es, H.getD (n % 1000) .free = .pool T W rows ∧ H.getD (n / 1000 - 1) .free = .vec T W es ∧ B = .pool T W (rows ++ [some es]))
theorem WeakH.get {Q : Prop} {hs : List Nat} {ρ : Hd → Hd} {H p : Hp} {i : Nat} (h : WeakH Q hs ρ H p i) (k : Nat) (hk : k < p.length) : LiesAt ρ H (p.getD k .free) (hs.getD (i + k) 0) := by
  induction p generalizing i k with
  | nil => simp at hk
  | cons B p ih =>
    simp only [WeakH] at h
    cases k with
    | zero =>
      obtain ⟨h, _⟩ := h
      show LiesAt ρ H B (hs.getD i 0)
      generalize hs.getD i 0 = n at h
      cases hn : Nat.blt n 1000 with
      | true =>
        rw [hn] at h
        exact .inl ⟨blt_iff.1 hn, lookN_ok _ _ _ h⟩
      | false =>
        rw [hn] at h
        have h1 := lookN_ok _ _ _ h
        have h2 := lookN_ok _ _ _ h1
        obtain ⟨T, W, rows, es, e1, e2, e3⟩ := h2
        refine .inr ⟨?_, T, W, rows, es, e1, e2, e3⟩
        rcases Nat.lt_or_ge n 1000 with h | h
        · rw [blt_iff.2 h] at hn; cases hn
        · exact h
    | succ k =>
      have := ih h.2 k (by simpa using hk)
      rw [show i + 1 + k = i + (k + 1) by omega] at this
      exact this
theorem rowIn_ok {p : Hp} {h : Hd} {Q : Prop} (hq : rowIn p h Q) : Q ∧ ∀ i k, h = .r i k → look p h ≠ .free := by
  cases h with
  | t n => exact ⟨hq, fun i k e => by cases e⟩
  | r i k =>
    refine ⟨hq.2, fun i' k' e => ?_⟩
    have := lookN_ok _ _ _ hq.1
    show (p.getD i .free).row k ≠ .free
    generalize p.getD i .free = B at this
    cases B <;> first | exact this.elim | skip
    rename_i T W rows
    have hlt : k < rows.length := this
    simp only [Blk.row, List.getElem?_eq_getElem hlt]
    cases rows[k] <;> exact fun e => by cases e
theorem rowsInV_ok {p : Hp} {v : AV} {Q : Prop} (hq : rowsInV p v Q) : Q ∧ ∀ j, v.men j → v.under1 p.length = true → (∃ i, j = .t i ∧ i < p.length) ∨ look p j ≠ .free := by
  have un : v.under p.length = true → ∀ j, v.men j → (∃ i, j = .t i ∧ i < p.length) ∨ look p j ≠ .free := fun h j hj => .inl (AV.under_ok h j hj)
  have go : ∀ h : Hd, rowIn p h Q → (∀ j, v.men j → h = j) → (∀ n, h = .t n → v.under1 p.length = v.under p.length) → Q ∧ ∀ j, v.men j → v.under1 p.length = true → (∃ i, j = .t i ∧ i < p.length) ∨ look p j ≠ .free := by
    intro h hq hm hu
    obtain ⟨q, hr⟩ := rowIn_ok hq
    refine ⟨q, fun j hj hb => ?_⟩
    have := hm j hj
    subst this
    cases h with
    | t n => rw [hu n rfl] at hb; exact un hb _ hj
    | r i k => exact .inr (hr i k rfl)
  cases v
  case bptr h o => exact go h hq (fun j hj => hj) (fun n e => by subst e; rfl)
  case eptr h _ _ _ => exact go h hq (fun j hj => hj) (fun n e => by subst e; rfl)
  case vec h _ _ _ => exact go h hq (fun j hj => hj) (fun n e => by subst e; rfl)
  case map h => exact go h hq (fun j hj => hj) (fun n e => by subst e; rfl)
  all_goals exact ⟨hq, fun j hj hb => un hb j hj⟩
theorem belowS_get {p : Hp} {s : Sl} {Q : Prop} (h : belowS p.length s = true) (hq : rowsInS p s Q) : Q ∧ ∀ (t : Nat) (j : Hd), (getS s t).men j → (∃ i, j = .t i ∧ i < p.length) ∨ look p j ≠ .free := by
  induction s with
  | nil => exact ⟨hq, fun t j hj => by simp only [getS, AV.men] at hj⟩
  | cons x s ih =>
    obtain ⟨i, v⟩ := x
    simp only [belowS, Bool.and_eq_true] at h
    obtain ⟨hq, hv⟩ := rowsInV_ok hq
    obtain ⟨hq, hs⟩ := ih h.2 hq
    refine ⟨hq, fun t j hj => ?_⟩
    simp only [getS] at hj
    cases e : Nat.beq i t <;> rw [e] at hj
    · exact hs t j hj
    · exact hv j hj h.1
theorem belowH_get {k : Nat} {p : Hp} (h : belowH k p = true) (i : Nat) (hi : i < p.length) : (p.getD i .free).under k = true := by
  induction p generalizing i with
  | nil => simp at hi
  | cons B p ih =>
    simp only [belowH, Bool.and_eq_true] at h
    cases i with
    | zero => exact h.1
    | succ i => exact ih h.2 i (by simpa using hi)
theorem rowsInH_get {p q : Hp} {Q : Prop} (h : rowsInH p q Q) : Q ∧ ∀ i T cs, q.getD i .free = .rows T cs → ∀ c ∈ cs, ∀ h, c.men h → look p h ≠ .free := by
  induction q with
  | nil => exact ⟨h, fun i T cs e => by simp at e⟩
  | cons B q ih =>
    have : rowsInH p q Q ∧ ∀ T cs, B = .rows T cs → ∀ c ∈ cs, ∀ h, c.men h → look p h ≠ .free := by
      cases B <;> first | exact ⟨h, fun T cs e => by cases e⟩ | exact ⟨h.2, fun T cs e => by cases e; exact h.1⟩
    obtain ⟨h1, h2⟩ := ih this.1
    refine ⟨h1, fun i T cs e => ?_⟩
    cases i with
    | zero => exact this.2 T cs (by simpa using e)
    | succ i => exact h2 i T cs (by simpa using e)
/-- What was handed over: the places, the pools' rows. -/
def InN (nin : List (Option Nat)) : Hd → Prop
  | .t i => i < nin.length
  | .r i k => ∃ n, nin[i]? = some (some n) ∧ k < n
theorem poolsIn_get {nin : List (Option Nat)} {p : Hp} {Q : Prop} (h : poolsIn nin p Q) : Q ∧ ∀ i n, nin[i]? = some (some n) → n ≤ plenAt p i := by
  induction nin generalizing p with
  | nil => exact ⟨h, fun i n e => by simp at e⟩
  | cons x nin ih =>
    cases x with
    | none =>
      obtain ⟨h1, h2⟩ := ih h
      refine ⟨h1, fun i n e => ?_⟩
      cases i with
      | zero => simp at e
      | succ i =>
        have := h2 i n (by simpa using e)
        cases p <;> simpa [plenAt] using this
    | some m =>
      cases p with
      | nil => exact h.elim
      | cons B p =>
        cases B <;> first | exact h.elim | skip
        obtain ⟨h1, h2⟩ := ih h.2
        refine ⟨h1, fun i n e => ?_⟩
        cases i with
        | zero => simp at e; subst e; exact h.1
        | succ i => have := h2 i n (by simpa using e); simpa [plenAt] using this
theorem look_row {p : Hp} {i k : Nat} (h : k < plenAt p i) : look p (.r i k) ≠ .free := by
  simp only [look]
  unfold plenAt at h
  split at h
  · rename_i T W rows e
    rw [e]
    simp only [Blk.row, List.getElem?_eq_getElem h]
    cases rows[k] <;> exact fun e => by cases e
  · omega
theorem look_row_lt {p : Hp} {i k : Nat} (h : look p (.r i k) ≠ .free) : k < plenAt p i := by
  simp only [look] at h
  unfold plenAt
  cases hB : p.getD i .free <;> rw [hB] at h <;> first | exact (h rfl).elim | skip
  rename_i T W rows
  simp only
  rcases Nat.lt_or_ge k rows.length with h' | h'
  · exact h'
  · simp [Blk.row, List.getElem?_eq_none h'] at h
theorem Blk.under_ok {k : Nat} {B : Blk} (h : B.under k = true) : B ≠ .free ∧ ∀ j, B.men j → (∃ i, j = .t i ∧ i < k) ∨ ∃ T cs, B = .rows T cs ∧ AV.menL cs j := by
  cases B with
  | free => cases h
  | box T cs =>
    refine ⟨(fun e => by cases e), fun j hj => ?_⟩
    have this : (AV.agg cs).under k = true := h
    exact .inl (AV.under_ok this j (show (AV.agg cs).men j from hj))
  | rows T cs => exact ⟨(fun e => by cases e), fun j hj => .inr ⟨T, cs, rfl, hj⟩⟩
  | _ => exact ⟨(fun e => by cases e), fun j hj => hj.elim⟩
theorem getD_flat {hs : List Nat} {i j : Nat} (hnd : (hs.flatMap pused).Nodup) (hi : i < hs.length) (hj : j < hs.length) (hij : i ≠ j) : ∀ x, x ∈ pused (hs.getD i 0) → x ∉ pused (hs.getD j 0) := by
  induction hs generalizing i j with
  | nil => simp at hi
  | cons a hs ih =>
    rw [List.flatMap_cons, List.nodup_append] at hnd
    have mem : ∀ q, q < hs.length → ∀ x, x ∈ pused (hs.getD q 0) → x ∈ hs.flatMap pused := fun q hq x hx => by
      rw [List.mem_flatMap]
      exact ⟨hs[q], List.getElem_mem hq, by have e : hs.getD q 0 = hs[q] := by simp [List.getD, List.getElem?_eq_getElem hq]
                                            rw [e] at hx; exact hx⟩
    intro x hx hx'
    cases i with
    | zero =>
      cases j with
      | zero => exact hij rfl
      | succ j => exact hnd.2.2 x hx x (mem j (by simpa using hj) x hx') rfl
    | succ i =>
      cases j with
      | zero => exact hnd.2.2 x hx' x (mem i (by simpa using hi) x hx) rfl
      | succ j => exact ih hnd.2.1 (by simpa using hi) (by simpa using hj) (by omega) x hx hx'
theorem getD_flat1 {hs : List Nat} {i : Nat} (hnd : (hs.flatMap pused).Nodup) (hi : i < hs.length) : (pused (hs.getD i 0)).Nodup := by
  induction hs generalizing i with
  | nil => simp at hi
  | cons a hs ih =>
    rw [List.flatMap_cons, List.nodup_append] at hnd
    cases i with
    | zero => exact hnd.1
    | succ i => exact ih hnd.2.1 (by simpa using hi)

section
variable {E : Env} {n : Nat} {a : Act} {w : World}

theorem St.weak {nin : List (Option Nat)} (hIn : ∀ h, E.In h → InN nin h) {hs : List Nat} {p : Sl × Hp} {s : Sl} {H : Hp} (h : St E n (getS s) (look H) a w) (hw : Weak nin hs p s H) : St E n (getS p.1) (look p.2) a w := by
  obtain ⟨F, β, h⟩ := h
  refine ⟨F, fun k => β (renW hs p.2 k), ?_⟩
  obtain ⟨hq, hslot⟩ := belowS_get hw.bs hw.sh.base
  obtain ⟨hq, hrows⟩ := rowsInH_get hq
  obtain ⟨_, hpools⟩ := poolsIn_get hq
  have hget : ∀ i, i < p.2.length → LiesAt (renW hs p.2) H (p.2.getD i .free) (hs.getD i 0) := fun i hi => by have := hw.sh.get i hi; rw [Nat.zero_add] at this; exact this
  -- the pattern's block is the state's
  have hH : ∀ k : Hd, look p.2 k ≠ .free → (k.key < p.2.length ∧ ((look p.2 k).live ∨ (∃ i j, k = .r i j) → (look p.2 k).ren (renW hs p.2) = look H (renW hs p.2 k))) ∧ look H (renW hs p.2 k) ≠ .free := by
    intro k hk
    have hkl := look_lt hk
    cases k with
    | t i =>
      have hi : i < p.2.length := hkl
      rcases hget i hi with ⟨hn, e⟩ | ⟨hn, T, W, rows, es, e1, e2, e3⟩
      · have ept : ptop (hs.getD i 0) = hs.getD i 0 := Nat.mod_eq_of_lt hn
        have e' : (look p.2 (.t i)).ren (renW hs p.2) = look H (renW hs p.2 (.t i)) := by
          simp only [look, renW, ept, ← e, Blk.top_ren]
        refine ⟨⟨hi, fun _ => e'⟩, ?_⟩
        rw [← e', Ne, Blk.free_ren]; exact hk
      · refine ⟨⟨hi, fun hl => ?_⟩, ?_⟩
        · rcases hl with hl | ⟨i', j', e⟩
          · simp only [look, e3] at hl; exact hl.elim
          · cases e
        · simp only [renW, look, ptop, e1]
          exact fun e => by cases e
    | r i k =>
      have hi : i < p.2.length := hkl
      rcases hget i hi with ⟨hn, e⟩ | ⟨hn, T, W, rows, es, e1, e2, e3⟩
      · have eb : Nat.blt (hs.getD i 0) 1000 = true := blt_iff.2 hn
        have e' : (look p.2 (.r i k)).ren (renW hs p.2) = look H (renW hs p.2 (.r i k)) := by
          simp only [look, renW, eb, cond_true, ← e, Blk.row_ren, Blk.row_flat]
        refine ⟨⟨hi, fun _ => e'⟩, ?_⟩
        rw [← e', Ne, Blk.free_ren]; exact hk
      · have eb : Nat.blt (hs.getD i 0) 1000 = false := by
          cases hb : Nat.blt (hs.getD i 0) 1000 with
          | false => rfl
          | true => have := blt_iff.1 hb; omega
        have hkr := look_row_lt hk
        have epl : plenAt p.2 i = rows.length + 1 := by unfold plenAt; rw [e3]; simp
        have e' : (look p.2 (.r i k)).ren (renW hs p.2) = look H (renW hs p.2 (.r i k)) := by
          rw [epl] at hkr
          by_cases hkk : k + 1 < rows.length + 1
          · have e4 : Nat.blt (k + 1) (rows.length + 1) = true := blt_iff.2 hkk
            simp only [renW, eb, epl, e4, cond_false, cond_true, look, e1, e3, Blk.row_flat]
            simp only [Blk.row]
            rw [List.getElem?_append_left (by omega)]
          · have e4 : Nat.blt (k + 1) (rows.length + 1) = false := by
              cases hb : Nat.blt (k + 1) (rows.length + 1) with
              | false => rfl
              | true => have := blt_iff.1 hb; omega
            have : k = rows.length := by omega
            subst this
            simp only [renW, eb, epl, e4, cond_false, look, e2, e3, Blk.row_flat]
            simp [Blk.row, Blk.top]
        refine ⟨⟨hi, fun _ => e'⟩, ?_⟩
        rw [← e', Ne, Blk.free_ren]; exact hk
  have lv : ∀ k, (look p.2 k).live → (look H (renW hs p.2 k)).live := fun k hk => by
    rw [← (hH k (Blk.live_ne hk)).1.2 (.inl hk), Blk.live_ren]; exact hk
  have inj : ∀ k k' : Hd, (look p.2 k).live → (look p.2 k').live → renW hs p.2 k = renW hs p.2 k' → k = k' := by
    intro k k' hk hk' e
    have k1 : k.key < hs.length := by rw [hw.len]; exact (hH k (Blk.live_ne hk)).1.1
    have k2 : k'.key < hs.length := by rw [hw.len]; exact (hH k' (Blk.live_ne hk')).1.1
    -- the numbers that a handle uses
    have us : ∀ k : Hd, (look p.2 k).live → (renW hs p.2 k).key ∈ pused (hs.getD k.key 0) := by
      intro k hk
      have hkl : k.key < p.2.length := (hH k (Blk.live_ne hk)).1.1
      rcases hget k.key hkl with ⟨hn, _⟩ | ⟨hn, T, W, rows, es, e1, e2, e3⟩
      · have eb : Nat.blt (hs.getD k.key 0) 1000 = true := blt_iff.2 hn
        cases k with
        | t i =>
          have hn : hs.getD i 0 < 1000 := hn
          show ptop (hs.getD i 0) ∈ pused (hs.getD i 0)
          generalize hs.getD i 0 = q at hn
          simp [pused, ptop, hn, Nat.mod_eq_of_lt hn]
        | r i j =>
          have hn : hs.getD i 0 < 1000 := hn
          have eb : Nat.blt (hs.getD i 0) 1000 = true := eb
          show (renW hs p.2 (.r i j)).key ∈ pused (hs.getD i 0)
          simp only [renW, eb, cond_true, Hd.key]
          generalize hs.getD i 0 = q at hn
          simp [pused, hn]
      · have eb : Nat.blt (hs.getD k.key 0) 1000 = false := by
          cases hb : Nat.blt (hs.getD k.key 0) 1000 with
          | false => rfl
          | true => have := blt_iff.1 hb; omega
        cases k with
        | t i => simp only [look] at hk; rw [show p.2.getD i .free = _ from e3] at hk; exact hk.elim
        | r i j =>
          have hn : 1000 ≤ hs.getD i 0 := hn
          have eb : Nat.blt (hs.getD i 0) 1000 = false := eb
          show (renW hs p.2 (.r i j)).key ∈ pused (hs.getD i 0)
          simp only [renW, eb, cond_false]
          generalize hs.getD i 0 = q at hn
          have hn' : ¬ q < 1000 := by omega
          cases Nat.blt (j + 1) (plenAt p.2 i) <;> simp [pused, hn', Hd.key]
    have hkk : k.key = k'.key := by
      apply Classical.byContradiction
      intro hne
      have h1 := us k hk
      have h2 := us k' hk'
      rw [e] at h1
      exact getD_flat hw.nd k1 k2 hne _ h1 h2
    have hkl : k.key < p.2.length := (hH k (Blk.live_ne hk)).1.1
    cases k with
    | t i =>
      cases k' with
      | t i' => cases hkk; rfl
      | r i' j' =>
        cases hkk
        have hp : ∃ T W rows, p.2.getD i .free = .pool T W rows := by
          simp only [look] at hk'
          cases hB : p.2.getD i .free <;> rw [hB] at hk' <;> first | exact hk'.elim | exact ⟨_, _, _, rfl⟩
        obtain ⟨T, W, rows, hB⟩ := hp
        simp only [look, hB] at hk
        exact hk.elim
    | r i j =>
      cases k' with
      | t i' =>
        cases hkk
        have hp : ∃ T W rows, p.2.getD i .free = .pool T W rows := by
          simp only [look] at hk
          cases hB : p.2.getD i .free <;> rw [hB] at hk <;> first | exact hk.elim | exact ⟨_, _, _, rfl⟩
        obtain ⟨T, W, rows, hB⟩ := hp
        simp only [look, hB] at hk'
        exact hk'.elim
      | r i' j' =>
        cases hkk
        have hnd := getD_flat1 hw.nd k1
        simp only [Hd.key] at hnd
        rcases hget i hkl with ⟨hn, _⟩ | ⟨hn, T, W, rows, es, e1, e2, e3⟩
        · have eb : Nat.blt (hs.getD i 0) 1000 = true := blt_iff.2 hn
          simp only [renW, eb, cond_true, Hd.r.injEq] at e
          rw [e.2]
        · have eb : Nat.blt (hs.getD i 0) 1000 = false := by
            cases hb : Nat.blt (hs.getD i 0) 1000 with
            | false => rfl
            | true => have := blt_iff.1 hb; omega
          have l1 := look_row_lt (Blk.live_ne hk)
          have l2 := look_row_lt (Blk.live_ne hk')
          simp only [renW, eb, cond_false] at e
          cases b1 : Nat.blt (j + 1) (plenAt p.2 i) <;> cases b2 : Nat.blt (j' + 1) (plenAt p.2 i) <;> rw [b1, b2] at e
          · have n1 : ¬ j + 1 < plenAt p.2 i := fun h => by rw [blt_iff.2 h] at b1; cases b1
            have n2 : ¬ j' + 1 < plenAt p.2 i := fun h => by rw [blt_iff.2 h] at b2; cases b2
            rw [show j = j' by omega]
          · cases e
          · cases e
          · simp only [cond_true, Hd.r.injEq] at e; rw [e.2]
  have nf : ∀ j : Hd, (∃ i, j = .t i ∧ i < p.2.length) ∨ look p.2 j ≠ .free → look p.2 j ≠ .free := by
    rintro j (⟨i, rfl, hi⟩ | hj)
    · exact Blk.top_free (Blk.under_ok (belowH_get hw.bh i hi)).1
    · exact hj
  exact {
    os := h.os, tape := h.tape, output := h.output, size := h.size, keep := h.keep, keeplt := h.keeplt, bor := h.bor, flt := h.flt, fold := h.fold
    own := fun k b h1 h2 => h.own _ b (lv k h1) h2
    dis := fun k k' b h1 h2 h3 h4 => inj k k' h1 h2 (h.dis _ _ b (lv k h1) (lv k' h2) h3 h4)
    len := h.len
    slots := fun t => by
      rcases hw.ss.get t with e | e
      · rw [e]; exact .any _
      · have := h.slots t
        rw [← e] at this
        exact this.unren rfl
    blks := fun k => by
      by_cases hl : (look p.2 k).live
      · have := h.blks (renW hs p.2 k)
        rw [← (hH k (Blk.live_ne hl)).1.2 (.inl hl)] at this
        exact Own.unren this
      · cases hB : look p.2 k <;> rw [hB] at hl <;> first | trivial | exact (hl trivial).elim
    ms := fun t k hk => nf k (hslot t k hk)
    mb := fun i k hk => by
      cases i with
      | r i j => exact (Blk.row_nomen _ _ _ hk).elim
      | t i =>
        have hk' : (p.2.getD i .free).top.men k := hk
        have hif : look p.2 (.t i) ≠ .free := fun e => by rw [show (p.2.getD i .free).top = look p.2 (.t i) from rfl, e] at hk'; exact hk'.elim
        have hi : i < p.2.length := look_lt hif
        have hmen : (p.2.getD i .free).men k := by revert hk'; cases p.2.getD i .free <;> first | exact id | exact fun h => h.elim
        rcases (Blk.under_ok (belowH_get hw.bh i hi)).2 k hmen with h | ⟨T, cs, e, hm⟩
        · exact nf k (.inl h)
        · rw [AV.menL_iff] at hm
          obtain ⟨c, hc, hm⟩ := hm
          exact hrows i T cs e c hc k hm
    defers := h.defers
    fs0 := h.fs0
    bin := fun i hi => by
      have hN := hIn i hi
      have hpre : ∀ q, q < nin.length → hs.getD q 0 = q ∧ q < p.2.length := fun q hq => by
        have hp : (hs.take nin.length)[q]? = some q := by rw [hw.pre, List.getElem?_range hq]
        rw [List.getElem?_take_of_lt hq] at hp
        exact ⟨by simp [List.getD, hp], by rw [← hw.len]; exact (List.getElem?_eq_some_iff.1 hp).1⟩
      have h1000 : ∀ q, q < nin.length → q < 1000 ∨ False := fun q hq => by
        have := hpre q hq
        rcases hget q this.2 with ⟨hn, _⟩ | ⟨hn, T, W, rows, es, e1, e2, e3⟩
        · rw [this.1] at hn; exact .inl hn
        · rw [this.1] at hn e1
          -- a place's number lies below the number of places
          exfalso
          have hq' : q % 1000 < nin.length := by omega
          have hq2 := hpre (q % 1000) hq'
          have u1 : q % 1000 ∈ pused (hs.getD q 0) := by rw [this.1]; simp only [pused]; rw [if_neg (by omega)]; simp
          have u2 : q % 1000 ∈ pused (hs.getD (q % 1000) 0) := by rw [hq2.1]; simp only [pused]; rw [if_pos (Nat.mod_lt _ (by omega))]; simp
          exact getD_flat hw.nd (by rw [hw.len]; exact this.2) (by rw [hw.len]; exact hq2.2) (by omega) _ u1 u2
      cases i with
      | t q =>
        have hq : q < nin.length := hN
        obtain ⟨e, hlt⟩ := hpre q hq
        have hq1 := (h1000 q hq).resolve_right id
        refine ⟨?_, Blk.top_free (Blk.under_ok (belowH_get hw.bh q hlt)).1⟩
        show β (.t (ptop (hs.getD q 0))) = _
        rw [e, ptop, Nat.mod_eq_of_lt hq1]; exact (h.bin _ hi).1
      | r q k =>
        obtain ⟨m, hm, hkm⟩ := hN
        have hq : q < nin.length := (List.getElem?_eq_some_iff.1 hm).1
        obtain ⟨e, hlt⟩ := hpre q hq
        have hq1 := (h1000 q hq).resolve_right id
        refine ⟨?_, look_row (by have := hpools q m hm; omega)⟩
        show β (renW hs p.2 (.r q k)) = _
        simp only [renW, e, blt_iff.2 hq1, cond_true]
        exact (h.bin _ hi).1 }
end

/-- An empty row becomes one of the call's own. -/
theorem StI.thaw {E : Env} {n : Nat} {s : Nat → AV} {L : Hd → Blk} {a : Act} {w : World} {F : Nat → Prop} {β : Hd → Option Nat × Nat} (h : StI E n s L a w F β) {t base W : Nat} (B : Blk) (hl : B.live) (hO : ∀ w FB (β : Hd → Option Nat × Nat) h, β h = (none, 0) → Own w FB β h B) (hm : ∀ k, ¬ B.men k)
    (ht : s t = .emp) (hfree : L base = .free) : StI E n (upd s t (.vec base W 0 0)) (upd L base B) a w F (upd β base (none, 0)) := by
  have ne : ∀ k, L k ≠ .free → k ≠ base := fun k hk e => hk (e ▸ hfree)
  have h1 : StI E n s (upd L base B) a w F (upd β base (none, 0)) := by
    refine h.step rfl rfl rfl (Nat.le_refl _) (fun _ => id) h.flt h.fold (fun _ _ => rfl) (fun _ _ => rfl) (fun k hk => upd_other _ _ (ne k hk)) (fun k hk => by rw [upd_other _ _ (ne k hk)]; exact hk) (fun k => ?_) (fun k b g1 g2 => ?_) (fun k k' b g1 g2 g3 g4 => ?_)
    · by_cases e : k = base
      · subst e; rw [upd_same]
        exact .inr ⟨hO _ _ _ _ (upd_same _ _ _), fun j hj => (hm j hj).elim⟩
      · rw [upd_other _ _ e]; exact .inl ⟨rfl, fun _ _ _ => rfl⟩
    · by_cases e : k = base
      · subst e; rw [upd_same] at g2; cases g2
      · rw [upd_other _ _ e] at g1 g2; exact h.own k b g1 g2
    · by_cases e : k = base
      · subst e; rw [upd_same] at g3; cases g3
      · by_cases e' : k' = base
        · subst e'; rw [upd_same] at g4; cases g4
        · rw [upd_other _ _ e] at g1 g3; rw [upd_other _ _ e'] at g2 g4; exact h.dis k k' b g1 g2 g3 g4
  refine { h1 with slots := fun t' => ?_, ms := St.men_upd h1.ms fun k hk => ?_, defers := h1.defers }
  · unfold upd
    by_cases e : t' = t
    · subst e
      rw [if_pos rfl]
      have hs := h.slots t'
      rw [ht] at hs
      generalize a.tmps.getD t' Go.undef = v at hs
      cases hs with
      | empn => exact .vecn none (fun x hx => by cases hx) (by simp)
      | emp b off => exact .vecn (some ⟨b, off, none⟩) (fun x hx => by cases hx; rfl) (by simp)
    · rw [if_neg e]; exact h1.slots t'
  · obtain rfl : (base : Hd) = k := hk
    rw [upd_same]; exact fun e => by rw [e] at hl; exact hl

/-- Empty rows become the call's own, one behind the other; pools are laid. -/
inductive Thaw : Sl → Hp → Sl → Hp → Prop
  | done (s : Sl) (H : Hp) : Thaw s H s H
  | step {s : Sl} {H : Hp} {s' : Sl} {H' : Hp} (t : Tmp) (T : TypeId) (W : Nat) (h : getS s t = .emp) (hr : Thaw ((t, .vec H.length W 0 0) :: s) (H ++ [.vec T W []]) s' H') : Thaw s H s' H'
  | rows {s : Sl} {H : Hp} {s' : Sl} {H' : Hp} (t : Tmp) (T : TypeId) (h : getS s t = .emp) (hr : Thaw ((t, .vec H.length 1 0 0) :: s) (H ++ [.rows T []]) s' H') : Thaw s H s' H'
  | pool {s : Sl} {H : Hp} {s' : Sl} {H' : Hp} (T : TypeId) (W : Nat) (hr : Thaw s (H ++ [.pool T W []]) s' H') : Thaw s H s' H'
theorem look_append (H : Hp) (B : Blk) : look (H ++ [B]) = updB (look H) (.t H.length) B := by
  have get : ∀ m, (H ++ [B]).getD m .free = if m = H.length then B else H.getD m .free := fun m => by
    by_cases e : m = H.length
    · subst e; simp
    · rw [if_neg e]
      rcases Nat.lt_or_ge m H.length with h | h
      · simp [List.getD, List.getElem?_append_left h]
      · rw [getD_ge H _ h, getD_ge (H ++ [B]) _ (by simp; omega)]
  funext g
  by_cases e : g.key = H.length
  · cases g with
    | t m => have e : m = H.length := e; subst e; rw [updB_t]; simp only [look, get, if_true]
    | r m k =>
      have e : m = H.length := e
      subst e
      rw [updB_row fun _ => look_ge (Nat.le_refl _)]
      simp only [look, get, if_true]
  · rw [updB_other e]
    cases g <;> simp only [Hd.key] at e <;> simp only [look, get, if_neg e]
theorem St.thaw {E : Env} {n : Nat} {a : Act} {w : World} {s : Sl} {H : Hp} {s' : Sl} {H' : Hp} (t : Thaw s H s' H') (h : St E n (getS s) (look H) a w) : St E n (getS s') (look H') a w := by
  induction t with
  | done s H => exact h
  | @step s H _ _ t T W ht _ ih =>
    refine ih ?_
    obtain ⟨F, β, h⟩ := h
    have := h.thaw (base := H.length) (W := W) (.vec T W []) trivial (fun w FB β h e => ⟨fun e he => by simp at he, by simp, .inl (by rw [e]; exact ⟨rfl, rfl⟩)⟩) (fun k hk => hk) ht (look_ge (Nat.le_refl _))
    refine ⟨F, upd β H.length (none, 0), ?_⟩
    have e := getS_putL (some t) (.vec H.length W 0 0) s
    simp only [putL] at e
    rw [e, look_append]
    exact this
  | @rows s H _ _ t T ht _ ih =>
    refine ih ?_
    obtain ⟨F, β, h⟩ := h
    have := h.thaw (base := H.length) (W := 1) (.rows T []) trivial (fun w FB β h e => ⟨fun e he => by simp at he, by simp, .inl (by rw [e]; exact ⟨rfl, rfl⟩)⟩) (fun k (hk : AV.menL [] k) => by simp only [AV.menL] at hk) ht (look_ge (Nat.le_refl _))
    refine ⟨F, upd β H.length (none, 0), ?_⟩
    have e := getS_putL (some t) (.vec H.length 1 0 0) s
    simp only [putL] at e
    rw [e, look_append]
    exact this
  | @pool s H _ _ T W _ ih =>
    refine ih ?_
    obtain ⟨F, β, h⟩ := h
    refine ⟨F, β, ?_⟩
    have e : look (H ++ [.pool T W []]) = upd (look H) (.t H.length) .dead := by
      rw [look_append]
      funext g
      unfold upd
      cases g with
      | t m => simp only [updB, updPool, Hd.t.injEq]
      | r m k =>
        have ne : (Hd.r m k : Hd) ≠ .t H.length := fun e => by cases e
        rw [if_neg ne]
        by_cases e : m = H.length
        · subst e
          rw [look_ge (H := H) (h := .r H.length k) (Nat.le_refl _)]
          simp [updB, updPool, Blk.row]
        · simp only [updB, updPool, if_neg e]
    rw [e]
    exact h.kill _

/-- A loop: what holds at each round's begin (a pattern for each x with φ x), and what each round lowers. -/
inductive SLoop (nin : List (Option Nat)) (body : (Ex → Sl → Hp → Prop) → Sl → Hp → Prop) (K : Ex → Sl → Hp → Prop) (s : Sl) (H : Hp) : Prop
  | mkT (X : Type) (st : X → Sl × Hp) (φ : X → Prop) (μ : X → Nat) (x0 : X) (hs0 : List Nat) (s1 : Sl) (H1 : Hp) (th : Thaw s H s1 H1) (h0 : φ x0) (w0 : Weak nin hs0 (st x0) s1 H1)
      (hr : ∀ x, φ x → body (fun e s' H' => match e with
        | .normal => ∃ x' hs', φ x' ∧ μ x' < μ x ∧ Weak nin hs' (st x') s' H'
        | e => K e s' H') (st x).1 (st x).2) : SLoop nin body K s H
theorem SLoop.mk {nin : List (Option Nat)} {body : (Ex → Sl → Hp → Prop) → Sl → Hp → Prop} {K : Ex → Sl → Hp → Prop} {s : Sl} {H : Hp} (X : Type) (st : X → Sl × Hp) (φ : X → Prop) (μ : X → Nat) (x0 : X) (hs0 : List Nat) (h0 : φ x0) (w0 : Weak nin hs0 (st x0) s H)
    (hr : ∀ x, φ x → body (fun e s' H' => match e with
      | .normal => ∃ x' hs', φ x' ∧ μ x' < μ x ∧ Weak nin hs' (st x') s' H'
      | e => K e s' H') (st x).1 (st x).2) : SLoop nin body K s H := .mkT X st φ μ x0 hs0 s H (.done s H) h0 w0 hr

section
variable (Γ : Tab) (P : Program) (wr : FuncId → Bool) (nin : List (Option Nat))

noncomputable def VC (c : Code) : (Ex → Sl → Hp → Prop) → Sl → Hp → Prop :=
  Code.rec (motive := fun _ => (Ex → Sl → Hp → Prop) → Sl → Hp → Prop)
    (fun K s H => K .normal s H)
    (fun _ ops draw K s H => match draw with
      | false => vcOps Γ P wr ops ops.toList (fun s H => K .normal s H) s H
      | true => SDraw (drawOK ops) (vcDraw Γ P ops ops.toList (fun s H => K .normal s H) s H) (drawOKX ops) (vcDrawX Γ P ops ops.toList (fun acc s H => SFin (dynOK ops acc) (K .normal s H)) [] s H))
    (fun _ _ ihx ihy K s H => ihx (fun e s H => match e with
      | .normal => ihy K s H
      | e => K e s H) s H)
    (fun c _ _ ihx ihy K s H => WK s c fun v => match v with
      | .tf true => ihx K s H
      | .tf false => ihy K s H
      | .p (.bool b) => SCond b (ihx K (setTF c true s) H) (ihy K (setTF c false s) H)
      | _ => False)
    (fun id _ ih K s H => ih (fun e s H => match e with
      | .exit id' => cond (Nat.beq id' id) (K .normal s H) (K (.exit id') s H)
      | e => K e s H) s H)
    (fun _ ih K s H => SLoop nin ih K s H)
    (fun _ _ _ _ _ _ _ _ _ => False)
    (fun id K s H => K (.exit id) s H)
    (fun _ _ _ _ _ => False)
    (fun _ _ _ _ => False)
    (fun _ _ _ _ => False)
    (fun K s H => K .ret s H)
    (fun _ _ _ _ => False) c

/-- All slots that are written lie in the frame. -/
def opsFit (n : Nat) (ops : List Oper) : Bool := ops.all fun o => match o.dst with
  | some d => Nat.blt d n
  | none => true
def fits (n : Nat) : Code → Bool
  | .skip | .exit _ | .ret => true
  | .region _ ops _ => opsFit n ops.toList
  | .seq x y => fits n x && fits n y
  | .cond _ x y => fits n x && fits n y
  | .block _ x | .loop x => fits n x
  | _ => false
end
end Go.Proofs.Ytkaooejeljdbnaa
