/- FTWhole: what its proof needs, part 4. -/
import Derived.Test.YtnilcfiemgmfdaaGreatHTWhole3
set_option linter.unusedVariables false
set_option linter.unusedSimpArgs false
namespace Go.Proofs.YtnilcfiemgmfdaaGreat
open Go
set_option linter.unusedVariables false
abbrev limbs (l : List Nat) : List PV := l.map fun (x : Nat) => .int .u32 x
abbrev intsP (l : List Int) : List PV := l.map fun x => .int .i64 x
abbrev wr0 : FuncId → Bool := fun _ => false
theorem mixed : Tryz.prog.follows .mixedOrders = true := by kernel_rfl
theorem eqT {a b : Int} (h : a = b) : (a == b) = true := beq_iff_eq.2 h
theorem eqF {a b : Int} (h : a ≠ b) : (a == b) = false := beq_eq_false_iff_ne.2 h
theorem neT {a b : Int} (h : a ≠ b) : (a != b) = true := bne_iff_ne.2 h
theorem neF {a b : Int} (h : a = b) : (a != b) = false := by rw [h]; exact bne_self_eq_false b
theorem le_of_ble {a b : Nat} (h : Nat.ble a b = true) : a ≤ b := Nat.le_of_ble_eq_true h
theorem wrap_u (k : IntKind) (hs : k.signed = false) (e : Int) : k.wrap e = e % 2 ^ k.bits := by
  simp only [IntKind.wrap, hs, Bool.false_and, if_neg Bool.false_ne_true]
theorem SWrap.u64 {e : Int} {K : Int → Prop} (h : 0 ≤ e ∧ e < 18446744073709551616) (hk : K e) : SWrap .u64 e K := .mk e (by rw [wrap_u _ rfl]; exact Int.emod_eq_of_lt h.1 h.2) hk
theorem SWrap.u64m {e : Int} {K : Int → Prop} (hk : K (e % 18446744073709551616)) : SWrap .u64 e K := .mk _ (by rw [wrap_u _ rfl]; rfl) hk
theorem SWrap.i64z {e : Int} {K : Int → Prop} (z : Int) (hz : e = z) (h : -9223372036854775808 ≤ z ∧ z < 9223372036854775808) (hk : K z) : SWrap .i64 e K := .mk z (by rw [IntKind.wrap_i64]; omega) hk
theorem SWrap.u64z {e : Int} {K : Int → Prop} (z : Nat) (hz : e = z) (h : z < 18446744073709551616) (hk : K z) : SWrap .u64 e K := .mk z (by rw [wrap_u _ rfl, hz]; exact Int.emod_eq_of_lt (by omega) (by show (z : Int) < 18446744073709551616; omega)) hk
theorem SWrap.u32z {e : Int} {K : Int → Prop} (z : Nat) (hz : e % 4294967296 = z) (hk : K z) : SWrap .u32 e K := .mk z (by rw [wrap_u _ rfl]; exact hz) hk
theorem SWrap.u64w {e : Int} {K : Int → Prop} (z : Nat) (hz : e % 18446744073709551616 = z) (hk : K z) : SWrap .u64 e K := .mk z (by rw [wrap_u _ rfl]; exact hz) hk
theorem SIdx.lb {l : List Nat} {i : Int} {K : Nat → PV → Prop} (j : Nat) (hi : i = j) (hj : j < l.length) (hk : K j (.int .u32 ((l.getD j 0 : Nat) : Int))) : SIdx (limbs l) i K :=
  .mk j _ hi (by simp [List.getElem?_map, List.getElem?_eq_getElem hj, List.getD]) hk
theorem SIdx.ib {l : List Int} {i : Int} {K : Nat → PV → Prop} (j : Nat) (hi : i = j) (hj : j < l.length) (hk : K j (.int .i64 (l.getD j 0))) : SIdx (intsP l) i K :=
  .mk j _ hi (by simp [List.getElem?_map, List.getElem?_eq_getElem hj, List.getD]) hk
theorem look_nil (h : Hd) : look [] h = .free := by cases h <;> rfl
theorem SRet.pure {av r : AV} {H : Hp} (h : Conv [] H av r) : SRet [] av H r [] :=
  .mk [] rfl List.nodup_nil rfl (Nat.le_refl _) (fun h hl => by rw [look_nil] at hl; exact hl.elim) (fun h hl => absurd (look_nil h) hl) (fun i h B e => by simp at e) h
theorem SShr32 {a : Nat} {K : Int → Prop} (hk : K ((a / 4294967296 : Nat) : Int)) : SGe 32 (SZ ((a : Int).fdiv (2 ^ (min (32 : Int).toNat (IntKind.bits .u64)))) K) :=
  .mk (by decide) (.mk _ (by
    show Int.fdiv (a : Int) 4294967296 = _
    rw [Int.fdiv_eq_ediv_of_nonneg _ (by decide)]; omega) hk)
theorem SShr63 {a : Nat} {K : Int → Prop} (hk : K ((a / 9223372036854775808 : Nat) : Int)) : SGe 63 (SZ ((a : Int).fdiv (2 ^ (min (63 : Int).toNat (IntKind.bits .u64)))) K) :=
  .mk (by decide) (.mk _ (by
    show Int.fdiv (a : Int) 9223372036854775808 = _
    rw [Int.fdiv_eq_ediv_of_nonneg _ (by decide)]; omega) hk)
theorem SView.all {es : List PV} {n : Nat} {K : List PV → Prop} (hn : n = es.length) (hk : K es) : SView es 0 n K := .mk es (by rw [List.drop_zero]; exact List.take_of_length_le (by omega)) (by omega) hk
theorem SEs.set {l : List Nat} {i x : Nat} {K : List PV → Prop} (hk : K (limbs (l.set i x))) : SEs ((limbs l).set i (.int .u32 x)) K := .mk _ (by simp [limbs, List.map_set]) hk
theorem SLt.set {l : List Nat} {i : Nat} {K : Prop} (h : i < l.length) (hk : K) : SLt i (limbs l).length K := .mk (by simpa using h) hk
theorem SIdx.setget {l : List Nat} {i : Nat} {K : Nat → PV → Prop} (hj : i < l.length) (hk : K i (.int .u32 ((l.getD i 0 : Nat) : Int))) : SIdx (limbs l) (i : Int) K := .lb i rfl hj hk
theorem limbs_replicate (n : Nat) : List.replicate n (PV.int .u32 0) = limbs (List.replicate n 0) := by simp [limbs]
theorem SMake.u32 {n : Int} {K : Nat → Prop} (j : Nat) (hi : n = j) (h : j ≤ 4398046511104) (hk : K j) : SMake n 4 K := .mk j hi (by omega) (by omega) hk
theorem SCall.pure {P : Program} {wr : Bool} {f : FuncId} {L : Hd → Blk} {base : Nat} {K : AV → List (Hd × Blk) → Prop} {raw : List AV} {pvs : List PV} {r : PV} (hc : CallP P f pvs (.p r) []) (hk : K (.p r) []) : SCall P wr f raw (pvs.map .p) L base K :=
  .mk [] (pvs.map .p) (.p r) [] [] (fun _ => rfl) .nil (fun _ h => by simp at h) (by rw [AV.renL_eq, List.map_map]; exact List.map_congr_left fun _ _ => rfl) rfl (fun i h B e => by simp at e) (fun _ h => by simp at h) (fun _ h => by simp at h) (Nat.zero_le _) (fun _ h => by simp at h)
    (fun a ha k hk => by obtain ⟨v, _, rfl⟩ := List.mem_map.1 ha; simp only [AV.men] at hk) hc hk
end Go.Proofs.YtnilcfiemgmfdaaGreat

namespace Go.Proofs.YtnilcfiemgmfdaaGreat
set_option linter.unusedVariables false
def nv : List Nat → Nat
  | [] => 0
  | x :: l => x + 4294967296 * nv l
def Lok (l : List Nat) : Prop := ∀ x ∈ l, x < 4294967296
def nl (n : Nat) : List Nat := if h : n = 0 then [] else n % 4294967296 :: nl (n / 4294967296)
decreasing_by exact Nat.div_lt_self (by omega) (by omega)
theorem nl_zero : nl 0 = [] := by rw [nl]; rfl
theorem nl_pos {n : Nat} (h : n ≠ 0) : nl n = n % 4294967296 :: nl (n / 4294967296) := by rw [nl]; simp [h]
theorem Lok.nil : Lok [] := fun _ h => by simp at h
theorem Lok.cons {x : Nat} {l : List Nat} (h : x < 4294967296) (hl : Lok l) : Lok (x :: l) := fun y hy => by
  rcases List.mem_cons.1 hy with rfl | hy
  · exact h
  · exact hl y hy
theorem Lok.tail {x : Nat} {l : List Nat} (h : Lok (x :: l)) : Lok l := fun y hy => h y (List.mem_cons_of_mem _ hy)
theorem Lok.head {x : Nat} {l : List Nat} (h : Lok (x :: l)) : x < 4294967296 := h x List.mem_cons_self
theorem nl_ok : ∀ n, Lok (nl n) := by
  intro n
  induction n using Nat.strongRecOn with
  | _ n ih =>
    by_cases h : n = 0
    · subst h; rw [nl_zero]; exact .nil
    · rw [nl_pos h]; exact .cons (Nat.mod_lt _ (by omega)) (ih _ (Nat.div_lt_self (by omega) (by omega)))
theorem nv_nl : ∀ n, nv (nl n) = n := by
  intro n
  induction n using Nat.strongRecOn with
  | _ n ih =>
    by_cases h : n = 0
    · subst h; rw [nl_zero]; rfl
    · rw [nl_pos h, nv, ih _ (Nat.div_lt_self (by omega) (by omega))]; omega
theorem nv_zero_iff {l : List Nat} : nv l = 0 ↔ ∀ x ∈ l, x = 0 := by
  induction l with
  | nil => simp [nv]
  | cons x l ih =>
    simp only [nv, List.mem_cons, forall_eq_or_imp, ← ih]
    omega
theorem nv_lt {l : List Nat} (h : Lok l) : nv l < 4294967296 ^ l.length := by
  induction l with
  | nil => simp [nv]
  | cons x l ih =>
    have := ih h.tail
    have hx := h.head
    rw [List.length_cons, Nat.pow_succ, nv]
    omega
/-- Limbs without noughts at the high end are those of their number. -/
theorem nl_nv {l : List Nat} (h : Lok l) (hl : l = [] ∨ l.getD (l.length - 1) 0 ≠ 0) : nl (nv l) = l := by
  induction l with
  | nil => exact nl_zero
  | cons x l ih =>
    have hx := h.head
    rcases hl with hl | hl
    · cases hl
    cases l with
    | nil =>
      simp only [nv]
      have hx0 : x ≠ 0 := by simpa using hl
      rw [nl_pos (by omega), show (x + 4294967296 * 0) / 4294967296 = 0 by omega, nl_zero, show (x + 4294967296 * 0) % 4294967296 = x by omega]
    | cons y l =>
      have ih := ih h.tail (.inr (by simpa using hl))
      have hne : nv (y :: l) ≠ 0 := by
        intro e
        rw [e, nl_zero] at ih
        cases ih
      rw [nv]
      generalize nv (y :: l) = m at ih hne
      rw [nl_pos (by omega), show (x + 4294967296 * m) / 4294967296 = m by omega, show (x + 4294967296 * m) % 4294967296 = x by omega, ih]
theorem nv_append (l l' : List Nat) : nv (l ++ l') = nv l + 4294967296 ^ l.length * nv l' := by
  induction l with
  | nil => simp [nv]
  | cons x l ih =>
    simp only [List.cons_append, nv, ih, List.length_cons, Nat.pow_succ]
    rw [Nat.mul_add, Nat.add_assoc, ← Nat.mul_assoc, Nat.mul_comm (4294967296 ^ l.length) 4294967296]
theorem nl_last {n : Nat} (h : n ≠ 0) : (nl n).getD ((nl n).length - 1) 0 ≠ 0 := by
  induction n using Nat.strongRecOn with
  | _ n ih =>
    rw [nl_pos h]
    by_cases e : n / 4294967296 = 0
    · rw [e, nl_zero]
      simp
      omega
    · have := ih _ (Nat.div_lt_self (by omega) (by omega)) e
      rw [List.length_cons]
      have hl : (nl (n / 4294967296)).length ≠ 0 := by rw [nl_pos e]; simp
      obtain ⟨k, hk⟩ := Nat.exists_eq_succ_of_ne_zero hl
      rw [hk] at this ⊢
      simpa using this
theorem nl_nil {n : Nat} : nl n = [] ↔ n = 0 := by
  constructor
  · intro h
    by_cases e : n = 0
    · exact e
    · rw [nl_pos e] at h; cases h
  · intro h; rw [h, nl_zero]
abbrev nlen (n : Nat) : Nat := (nl n).length
theorem nlen_zero_iff {n : Nat} : nlen n = 0 ↔ n = 0 := by rw [nlen, List.length_eq_zero_iff, nl_nil]
theorem lt_nlen (n : Nat) : n < 4294967296 ^ nlen n := by
  have := nv_lt (nl_ok n)
  rwa [nv_nl] at this
theorem nlen_le {n k : Nat} (h : n < 4294967296 ^ k) : nlen n ≤ k := by
  induction k generalizing n with
  | zero => have : n = 0 := by simpa using h
            subst this; rw [nlen, nl_zero]; simp
  | succ k ih =>
    by_cases e : n = 0
    · subst e; rw [nlen, nl_zero]; simp
    · rw [nlen, nl_pos e, List.length_cons]
      have : n / 4294967296 < 4294967296 ^ k := by rw [Nat.pow_succ] at h; omega
      have := ih this
      simp only [nlen] at this
      omega
theorem nlen_mono {a b : Nat} (h : a ≤ b) : nlen a ≤ nlen b := nlen_le (Nat.lt_of_le_of_lt h (lt_nlen b))
theorem nlen_mul (a b : Nat) : nlen (a * b) ≤ nlen a + nlen b := nlen_le (by
  rw [Nat.pow_add]
  exact Nat.mul_lt_mul'' (lt_nlen a) (lt_nlen b))
theorem nlen_add (a b : Nat) : nlen (a + b) ≤ max (nlen a) (nlen b) + 1 := nlen_le (by
  have h1 := lt_nlen a
  have h2 := lt_nlen b
  have m1 : 4294967296 ^ nlen a ≤ 4294967296 ^ max (nlen a) (nlen b) := Nat.pow_le_pow_right (by omega) (Nat.le_max_left _ _)
  have m2 : 4294967296 ^ nlen b ≤ 4294967296 ^ max (nlen a) (nlen b) := Nat.pow_le_pow_right (by omega) (Nat.le_max_right _ _)
  rw [Nat.pow_succ]
  omega)
theorem pow_nlen_le {n : Nat} (h : n ≠ 0) : 4294967296 ^ (nlen n - 1) ≤ n := by
  rcases Nat.lt_or_ge n (4294967296 ^ (nlen n - 1)) with hlt | hge
  · have := nlen_le hlt
    have h0 : nlen n ≠ 0 := fun e => h (nlen_zero_iff.1 e)
    omega
  · exact hge
/-- A limb. -/
theorem getD_nv {l : List Nat} (h : Lok l) (i : Nat) : l.getD i 0 = nv l / 4294967296 ^ i % 4294967296 := by
  induction l generalizing i with
  | nil => simp [nv]
  | cons x l ih =>
    have hx := h.head
    cases i with
    | zero => simp [nv]; omega
    | succ i =>
      rw [List.getD_cons_succ, ih h.tail, Nat.pow_succ, Nat.mul_comm, ← Nat.div_div_eq_div_mul, nv]
      rw [show (x + 4294967296 * nv l) / 4294967296 = nv l by omega]
theorem getD_lt {l : List Nat} (h : Lok l) (i : Nat) : l.getD i 0 < 4294967296 := by
  rw [getD_nv h]; exact Nat.mod_lt _ (by omega)
theorem nl_getD (n i : Nat) : (nl n).getD i 0 = n / 4294967296 ^ i % 4294967296 := by rw [getD_nv (nl_ok n), nv_nl]
theorem nv_take (l : List Nat) (h : Lok l) (i : Nat) : nv (l.take i) = nv l % 4294967296 ^ i := by
  induction l generalizing i with
  | nil => simp [nv]
  | cons x l ih =>
    have hx := h.head
    cases i with
    | zero => simp [nv, Nat.mod_one]
    | succ i =>
      rw [List.take_succ_cons, nv, ih h.tail, nv, Nat.pow_succ, Nat.mul_comm (4294967296 ^ i), Nat.mod_mul, show (x + 4294967296 * nv l) / 4294967296 = nv l by omega, show (x + 4294967296 * nv l) % 4294967296 = x by omega]
theorem nv_set (l : List Nat) (i x : Nat) (h : i < l.length) : nv (l.set i x) + 4294967296 ^ i * l.getD i 0 = nv l + 4294967296 ^ i * x := by
  induction l generalizing i with
  | nil => simp at h
  | cons y l ih =>
    cases i with
    | zero => simp [nv]; omega
    | succ i =>
      have := ih i (by simpa using h)
      simp only [List.set_cons_succ, nv, List.getD_cons_succ, Nat.pow_succ]
      generalize hA : 4294967296 ^ i = A at this ⊢
      have e1 : A * 4294967296 * l.getD i 0 = 4294967296 * (A * l.getD i 0) := by rw [Nat.mul_comm A, Nat.mul_assoc]
      have e2 : A * 4294967296 * x = 4294967296 * (A * x) := by rw [Nat.mul_comm A, Nat.mul_assoc]
      rw [e1, e2]
      omega
theorem nv_replicate (n : Nat) : nv (List.replicate n 0) = 0 := by
  rw [nv_zero_iff]; intro x hx; exact (List.mem_replicate.1 hx).2
theorem Lok.replicate (n : Nat) : Lok (List.replicate n 0) := fun x hx => by rw [(List.mem_replicate.1 hx).2]; omega
theorem Lok.set {l : List Nat} (h : Lok l) {i x : Nat} (hx : x < 4294967296) : Lok (l.set i x) := fun y hy => by
  rcases List.mem_or_eq_of_mem_set hy with hy | hy
  · exact h y hy
  · rw [hy]; exact hx
theorem Lok.take {l : List Nat} (h : Lok l) (n : Nat) : Lok (l.take n) := fun x hx => h x (List.mem_of_mem_take hx)
end Go.Proofs.YtnilcfiemgmfdaaGreat
namespace Go.Proofs.YtnilcfiemgmfdaaGreat
open Go
set_option linter.unusedVariables false
set_option maxRecDepth 10000
theorem pers_limbs (l : List Nat) : ∀ e ∈ limbs l, ∀ c ∈ e.cells, Pers c := by
  intro e he c hc
  obtain ⟨x, _, rfl⟩ := List.mem_map.1 he
  obtain rfl := List.mem_singleton.1 hc
  exact .int _ _
abbrev natM (m : Bool) (n : Nat) : PV := .sl m 1 (limbs (nl n))
abbrev natP (n : Nat) : PV := natM false n
theorem frz0 {H : Hp} {h : Nat} {l : List Nat} {T : TypeId} {n : Nat} (hB : look H h = .vec T 1 (limbs l)) (hn : n = l.length) : Conv [] H (.vec h 1 0 n) (.p (.sl false 1 (limbs l))) :=
  .frz hB (by simp) (by simp [hn]) (pers_limbs l) (by rw [List.drop_zero]; exact List.take_of_length_le (by simp [hn]))
theorem clone_ok (m : Bool) (l : List Nat) (hl : l.length ≤ 1099511627776) : CallP Tryz.prog 48 [.sl m 1 (limbs l)] (.p (.sl false 1 (limbs l))) [] := by
  refine callG_of_vc (wr := wr0) Γok mixed Tryz.func48 (by kernel_rfl) rfl (by kernel_rfl) (le_of_ble rfl) (by simp) ?_
  refine SNil.mk (fun h => ?_) (fun h => ⟨?_, ?_⟩)
  · refine SRoom.mk (by simp; omega) (by simp; omega) ?_
    exact SRet.pure (frz0 rfl (by simp))
  · have : l = [] := List.length_eq_zero_iff.1 (by simpa using h)
    subst this
    exact SRet.pure (.emp _)
  · refine SRoom.mk (by simp; omega) (by simp; omega) ?_
    exact SRet.pure (frz0 rfl (by simp))
theorem at_ok (m : Bool) (l : List Nat) (h : Lok l) (i : Int) : CallP Tryz.prog 175 [.sl m 1 (limbs l), .int .i64 i] (.p (.int .u64 (if 0 ≤ i then ((l.getD i.toNat 0 : Nat) : Int) else 0))) [] := by
  refine callG_of_vc (wr := wr0) Γok mixed Tryz.func175 (by kernel_rfl) rfl (by kernel_rfl) (le_of_ble rfl) (by simp) ?_
  by_cases h1 : i ≥ 0
  · refine SCmp.yes (by simpa using h1) ?_
    refine SZ.mk l.length (by simp) ?_
    rw [if_pos (by omega)]
    by_cases h2 : i < l.length
    · refine SCmp.yes (by simpa using h2) ?_
      refine SIdx.lb i.toNat (by omega) (by omega) ?_
      have := getD_lt h i.toNat
      refine SWrap.u64 (by omega) ?_
      exact SRet.pure (.p _ (.int _ _))
    · refine SCmp.no (by simpa using h2) ?_
      rw [getD_ge l 0 (by omega)]
      exact SRet.pure (.p _ (.int _ _))
  · refine SCmp.no (by simpa using h1) ?_
    rw [if_neg (by omega)]
    exact SRet.pure (.p _ (.int _ _))
end Go.Proofs.YtnilcfiemgmfdaaGreat
namespace Go.Proofs.YtnilcfiemgmfdaaGreat
open Go
set_option linter.unusedVariables false
set_option maxRecDepth 10000
theorem nl_take {l : List Nat} (h : Lok l) {n : Nat} (hn : n ≤ l.length) (h1 : nv (l.take n) = nv l) (h2 : n = 0 ∨ l.getD (n - 1) 0 ≠ 0) : l.take n = nl (nv l) := by
  rw [← h1]
  refine (nl_nv (h.take n) ?_).symm
  rcases h2 with h2 | h2
  · left; rw [h2]; rfl
  · right
    have hl : (l.take n).length = n := by simp; omega
    rw [hl]
    by_cases h0 : n = 0
    · subst h0
      rcases l with _ | ⟨x, l⟩
      · exact (h2 rfl).elim
      · simp [nv] at h1 h2; omega
    · have : (l.take n).getD (n - 1) 0 = l.getD (n - 1) 0 := by simp [List.getD, show n - 1 < n by omega]
      rw [this]; exact h2
theorem nv_take_pred {l : List Nat} {n : Nat} (h0 : n ≠ 0) (hn : n ≤ l.length) (hz : l.getD (n - 1) 0 = 0) : nv (l.take (n - 1)) = nv (l.take n) := by
  obtain ⟨k, rfl⟩ := Nat.exists_eq_succ_of_ne_zero h0
  have hk : k < l.length := by omega
  have : l.take (k + 1) = l.take k ++ [l.getD k 0] := by
    rw [List.take_add_one]; simp [List.getD, List.getElem?_eq_getElem hk]
  simp only [Nat.succ_eq_add_one, Nat.add_sub_cancel] at hz ⊢
  rw [this, nv_append, hz]
  simp [nv]
theorem cut_ok (m : Bool) (l : List Nat) (h : Lok l) (hl : l.length ≤ 1099511627776) : CallP Tryz.prog 120 [.sl m 1 (limbs l)] (.p (natP (nv l))) [] := by
  refine callG_of_vc (wr := wr0) Γok mixed Tryz.func120 (by kernel_rfl) rfl (by kernel_rfl) (le_of_ble rfl) (by simp) ?_
  refine SZ.mk l.length (by simp) ?_
  refine SLoop.mk Nat (fun n => ([(0, .p (.sl m 1 (limbs l))), (3, .p (.int .i64 n))], [])) (fun n => n ≤ l.length ∧ nv (l.take n) = nv l) id l.length [] ⟨Nat.le_refl _, by simp⟩
    ⟨rfl, .nil, rfl, rfl, rfl, ⟨rfl, rfl, trivial⟩, trivial⟩ ?_
  intro n ⟨hn, hv⟩
  have done : (n = 0 ∨ l.getD (n - 1) 0 ≠ 0) → _ := fun h2 => nl_take h hn hv h2
  by_cases h0 : n = 0
  · refine SCmp.no (decide_eq_false (by omega)) ?_
    refine SZ.mk n rfl ?_
    refine SLt.mk (by simp) ?_
    refine SCut.mk 0 n rfl rfl (by omega) (by simp; omega) ?_
    refine SCap.sl ?_
    refine SEs.mk (limbs (nl (nv l))) (by rw [← done (.inl h0)]; simp [List.map_take]) ?_
    refine SCall.pure (clone_ok m (nl (nv l)) (by rw [← done (.inl h0)]; simp; omega)) ?_
    exact SRet.pure (.p _ (.sl _ _ (pers_limbs _)))
  · refine SCmp.yes (decide_eq_true (by omega)) ?_
    refine SWrap.i64z ((n - 1 : Nat) : Int) (by omega) (by omega) ?_
    refine SIdx.lb (n - 1) rfl (by omega) ?_
    by_cases h1 : l.getD (n - 1) 0 = 0
    · refine SCmp.yes (eqT (by omega)) ?_
      refine SWrap.i64z ((n - 1 : Nat) : Int) (by omega) (by omega) ?_
      exact ⟨n - 1, [], ⟨by omega, (nv_take_pred h0 hn h1).trans hv⟩, by simp; omega, ⟨rfl, .nil, rfl, rfl, rfl, ⟨rfl, rfl, trivial⟩, trivial⟩⟩
    · refine SCmp.no (eqF (by omega)) ?_
      refine SZ.mk n rfl ?_
      refine SLt.mk (by simp) ?_
      refine SCut.mk 0 n rfl rfl (by omega) (by simp; omega) ?_
      refine SCap.sl ?_
      refine SEs.mk (limbs (nl (nv l))) (by rw [← done (.inr h1)]; simp [List.map_take]) ?_
      refine SCall.pure (clone_ok m (nl (nv l)) (by rw [← done (.inr h1)]; simp; omega)) ?_
      exact SRet.pure (.p _ (.sl _ _ (pers_limbs _)))
theorem of_ok (v : Nat) (hv : v < 18446744073709551616) : CallP Tryz.prog 52 [.int .u64 v] (.p (natP v)) [] := by
  refine callG_of_vc (wr := wr0) Γok mixed Tryz.func52 (by kernel_rfl) rfl (by kernel_rfl) (le_of_ble rfl) (by simp) ?_
  refine SWrap.u32z (v % 4294967296) (by omega) ?_
  refine SShr32 ?_
  refine SWrap.u32z (v / 4294967296) (by omega) ?_
  refine SView.all rfl ?_
  refine SCall.pure (cut_ok true [v % 4294967296, v / 4294967296] (.cons (by omega) (.cons (by omega) .nil)) (by simp)) ?_
  have : nv [v % 4294967296, v / 4294967296] = v := by simp only [nv]; omega
  rw [this]
  exact SRet.pure (.p _ (.sl _ _ (pers_limbs _)))
end Go.Proofs.YtnilcfiemgmfdaaGreat
namespace Go.Proofs.YtnilcfiemgmfdaaGreat
open Go
set_option linter.unusedVariables false
set_option maxRecDepth 10000
theorem pow_pos' (k : Nat) : 0 < 4294967296 ^ k := Nat.pow_pos (by omega)
theorem nv_take_succ {l : List Nat} {i : Nat} (h : i < l.length) : nv (l.take (i + 1)) = nv (l.take i) + 4294967296 ^ i * l.getD i 0 := by
  have : l.take (i + 1) = l.take i ++ [l.getD i 0] := by
    rw [List.take_add_one]; simp [List.getD, List.getElem?_eq_getElem h]
  rw [this, nv_append]
  simp [nv, Nat.min_eq_left (Nat.le_of_lt h)]
theorem take_set_self (l : List Nat) (i x : Nat) : (l.set i x).take i = l.take i := by
  rw [List.take_set_of_le (Nat.le_refl _)]
theorem getD_setl {l : List Nat} {i x : Nat} (h : i < l.length) : (l.set i x).getD i 0 = x := by simp [List.getD, h]
theorem nv_set_take {l : List Nat} {i x : Nat} (h : i < l.length) : nv ((l.set i x).take (i + 1)) = nv (l.take i) + 4294967296 ^ i * x := by
  rw [nv_take_succ (by simpa using h), take_set_self, getD_setl h]
theorem mod_big (n L : Nat) (h : nlen n ≤ L) : n % 4294967296 ^ L = n := Nat.mod_eq_of_lt (Nat.lt_of_lt_of_le (lt_nlen n) (Nat.pow_le_pow_right (by omega) h))
theorem add_step {p x c c' t A B : Nat} (h1 : t + c * p = A % p + B % p) (h2 : c + A / p % 4294967296 + B / p % 4294967296 = x + 4294967296 * c') : (t + p * x) + c' * (p * 4294967296) = A % (p * 4294967296) + B % (p * 4294967296) := by
  rw [Nat.mod_mul, Nat.mod_mul]
  grind
theorem add_ok (m m' : Bool) (a b : Nat) (ha : nlen a ≤ 549755813887) (hb : nlen b ≤ 549755813887) : CallP Tryz.prog 137 [natM m a, natM m' b] (.p (natP (a + b))) [] := by
  refine callG_of_vc (wr := wr0) Γok mixed Tryz.func137 (by kernel_rfl) rfl (by kernel_rfl) (le_of_ble rfl) (by simp) ?_
  obtain ⟨L, hL⟩ : ∃ L, L = max (nlen a) (nlen b) + 1 := ⟨_, rfl⟩
  refine SZ.mk (nlen a) (by simp) ?_
  refine SZ.mk (nlen b) (by simp) ?_
  refine SZ.mk ((max (nlen a) (nlen b) : Nat) : Int) (by show (if ((nlen b : Nat) : Int) > ((nlen a : Nat) : Int) then _ else _) = _; split <;> omega) ?_
  refine SWrap.i64z (L : Int) (by omega) (by omega) ?_
  refine SZ.mk L rfl ?_
  refine SLt.mk (by simp) ?_
  refine SMake.u32 L rfl (by omega) ?_
  refine SZ.mk L rfl ?_
  refine SLoop.mk (Nat × Nat × List Nat) (fun (i, c, out) => ([(0, .p (natM m a)), (1, .p (natM m' b)), (5, .vec 0 1 0 L), (6, .p (.int .u64 c)), (16, .p (.int .i64 L)), (17, .p (.int .i64 i))], [.vec 41 1 (limbs out)]))
    (fun (i, c, out) => i ≤ L ∧ c ≤ 1 ∧ out.length = L ∧ Lok out ∧ nv (out.take i) + c * 4294967296 ^ i = a % 4294967296 ^ i + b % 4294967296 ^ i) (fun x => L - x.1) (0, 0, List.replicate L 0) [0]
    ⟨Nat.zero_le _, by simp, by simp, .replicate _, by simp [nv, Nat.mod_one]⟩
    ⟨rfl, by simp, rfl, rfl, rfl, ⟨rfl, rfl, rfl, rfl, rfl, rfl, trivial⟩, ⟨congrArg _ (limbs_replicate L).symm, trivial⟩⟩ ?_
  intro ⟨i, c, out⟩ ⟨h1, h2, h3, h4, h5⟩
  by_cases hi : i < L
  · refine SCmp.yes (decide_eq_true (by omega)) ?_
    refine SCall.pure (at_ok m (nl a) (nl_ok a) i) ?_
    refine SCall.pure (at_ok m' (nl b) (nl_ok b) i) ?_
    rw [if_pos (by omega), if_pos (by omega), Int.toNat_natCast]
    have e1 := nl_getD a i
    have e2 := nl_getD b i
    have l1 : (nl a).getD i 0 < 4294967296 := getD_lt (nl_ok a) i
    have l2 : (nl b).getD i 0 < 4294967296 := getD_lt (nl_ok b) i
    generalize hx : (nl a).getD i 0 = x at e1 l1 ⊢
    generalize hy : (nl b).getD i 0 = y at e2 l2 ⊢
    refine SWrap.u64z (x + y) (by omega) (by omega) ?_
    refine SWrap.u64z (c + (x + y)) (by omega) (by omega) ?_
    refine SWrap.u32z ((c + (x + y)) % 4294967296) (by omega) ?_
    refine SPos.mk i rfl hi ?_
    refine SLt.set (by omega) ?_
    refine SEs.set ?_
    refine SShr32 ?_
    refine SWrap.i64z ((i + 1 : Nat) : Int) (by omega) (by omega) ?_
    refine ⟨(i + 1, (c + (x + y)) / 4294967296, out.set i ((c + (x + y)) % 4294967296)), [0], ⟨hi, by omega, by simpa using h3, h4.set (Nat.mod_lt _ (by omega)), ?_⟩, by show L - (i + 1) < L - i; omega, ⟨rfl, by simp, rfl, rfl, rfl, ⟨rfl, rfl, rfl, rfl, rfl, rfl, trivial⟩, ⟨rfl, trivial⟩⟩⟩
    rw [nv_set_take (by omega), Nat.pow_succ]
    exact add_step h5 (by rw [← e1, ← e2]; omega)
  · refine SCmp.no (decide_eq_false (by omega)) ?_
    have hiL : i = L := by omega
    subst hiL
    have hlt : a + b < 4294967296 ^ i := by
      have := lt_nlen (a + b)
      have h := nlen_add a b
      exact Nat.lt_of_lt_of_le this (Nat.pow_le_pow_right (by omega) (by omega))
    rw [mod_big a i (by omega), mod_big b i (by omega), List.take_of_length_le (by omega)] at h5
    have hc : c = 0 := by
      rcases Nat.eq_zero_or_pos c with h | h
      · exact h
      · have : 1 * 4294967296 ^ i ≤ c * 4294967296 ^ i := Nat.mul_le_mul_right _ h
        omega
    subst hc
    have hv : nv out = a + b := by omega
    refine SView.all (by simpa using h3.symm) ?_
    refine SCall.pure (cut_ok true out h4 (by omega)) ?_
    rw [hv]
    exact SRet.pure (.p _ (.sl _ _ (pers_limbs _)))
end Go.Proofs.YtnilcfiemgmfdaaGreat
namespace Go.Proofs.YtnilcfiemgmfdaaGreat
open Go
set_option linter.unusedVariables false
set_option maxRecDepth 10000
def cmpZ (a b : Nat) : Int := if a < b then -1 else if a = b then 0 else 1
theorem lt_of_nlen {a b : Nat} (h : nlen a < nlen b) : a < b := by
  rcases Nat.lt_or_ge a b with h' | h'
  · exact h'
  · have := nlen_mono h'; omega
/-- Above place i both are the same. -/
theorem cmp_high {a b i : Nat} (h : a / 4294967296 ^ (i + 1) = b / 4294967296 ^ (i + 1)) (hlt : a / 4294967296 ^ i % 4294967296 < b / 4294967296 ^ i % 4294967296) : a < b := by
  have e : ∀ n : Nat, n / 4294967296 ^ i = n / 4294967296 ^ (i + 1) * 4294967296 + n / 4294967296 ^ i % 4294967296 := fun n => by
    rw [Nat.pow_succ, ← Nat.div_div_eq_div_mul]; omega
  have h1 : a / 4294967296 ^ i < b / 4294967296 ^ i := by rw [e a, e b, h]; omega
  rcases Nat.lt_or_ge a b with h' | h'
  · exact h'
  · have := Nat.div_le_div_right (c := 4294967296 ^ i) h'; omega
theorem div_step {a b i : Nat} (h : a / 4294967296 ^ (i + 1) = b / 4294967296 ^ (i + 1)) (he : a / 4294967296 ^ i % 4294967296 = b / 4294967296 ^ i % 4294967296) : a / 4294967296 ^ i = b / 4294967296 ^ i := by
  have e : ∀ n : Nat, n / 4294967296 ^ i = n / 4294967296 ^ (i + 1) * 4294967296 + n / 4294967296 ^ i % 4294967296 := fun n => by
    rw [Nat.pow_succ, ← Nat.div_div_eq_div_mul]; omega
  rw [e a, e b, h, he]
theorem cmp_ok (m m' : Bool) (a b : Nat) (ha : nlen a ≤ 549755813888) (hb : nlen b ≤ 549755813888) : CallP Tryz.prog 99 [natM m a, natM m' b] (.p (.int .i64 (cmpZ a b))) [] := by
  refine callG_of_vc (wr := wr0) Γok mixed Tryz.func99 (by kernel_rfl) rfl (by kernel_rfl) (le_of_ble rfl) (by simp) ?_
  refine SZ.mk (nlen a) (by simp) ?_
  refine SZ.mk (nlen b) (by simp) ?_
  by_cases hne : nlen a = nlen b
  · refine SCmp.no (neF (by omega)) ?_
    refine SZ.mk (nlen a) (by simp) ?_
    refine SWrap.i64z ((nlen a : Int) - 1) rfl (by omega) ?_
    refine SLoop.mk Nat (fun i => ([(0, .p (natM m a)), (1, .p (natM m' b)), (5, .p (.int .i64 ((i : Int) - 1)))], [])) (fun i => i ≤ nlen a ∧ a / 4294967296 ^ i = b / 4294967296 ^ i) id (nlen a) []
      ⟨Nat.le_refl _, by rw [Nat.div_eq_of_lt (lt_nlen a), hne, Nat.div_eq_of_lt (lt_nlen b)]⟩ ⟨rfl, .nil, rfl, rfl, rfl, ⟨rfl, rfl, rfl, trivial⟩, trivial⟩ ?_
    intro i ⟨h1, h2⟩
    by_cases h0 : i = 0
    · refine SCmp.no (decide_eq_false (by omega)) ?_
      subst h0
      have : a = b := by simpa using h2
      refine SRet.pure ?_
      rw [show cmpZ a b = 0 by simp [cmpZ, this]]
      exact .p _ (.int _ _)
    · refine SCmp.yes (decide_eq_true (by omega)) ?_
      obtain ⟨i, rfl⟩ := Nat.exists_eq_succ_of_ne_zero h0
      refine SDraw.mk (by kernel_rfl) ?_
      have e1 := nl_getD a i
      have e2 := nl_getD b i
      have q1 : (nl a).length = nlen a := rfl
      have q2 : (nl b).length = nlen b := rfl
      iterate 2 refine SOp.mk _ _ (And.intro rfl rfl) rfl ?_
      refine SOp.mk _ _ (SIdx.lb i (by omega) (by omega) (And.intro rfl rfl)) rfl ?_
      iterate 3 refine SOp.mk _ _ (And.intro rfl rfl) rfl ?_
      refine SOp.mk _ _ (SIdx.lb i (by omega) (by omega) (And.intro rfl rfl)) rfl ?_
      refine SOp.mk _ _ (And.intro rfl rfl) rfl ?_
      generalize hx : (nl a).getD i 0 = x at e1 ⊢
      generalize hy : (nl b).getD i 0 = y at e2 ⊢
      by_cases hxy : x = y
      · refine SOp.mk _ _ (SCmp.no (neF (by omega)) (And.intro rfl rfl)) rfl ?_
        refine SWrap.i64z ((i : Int) - 1) (by omega) (by omega) ?_
        exact ⟨i, [], ⟨by omega, div_step h2 (by rw [← e1, ← e2]; exact hxy)⟩, Nat.lt_succ_self i, ⟨rfl, .nil, rfl, rfl, rfl, ⟨rfl, rfl, rfl, trivial⟩, trivial⟩⟩
      · refine SOp.mk _ _ (SCmp.yes (neT (by omega)) (And.intro rfl rfl)) rfl ?_
        refine SDraw.mk (by kernel_rfl) ?_
        iterate 2 refine SOp.mk _ _ (And.intro rfl rfl) rfl ?_
        refine SOp.mk _ _ (SIdx.lb i (by omega) (by omega) (And.intro rfl rfl)) rfl ?_
        iterate 3 refine SOp.mk _ _ (And.intro rfl rfl) rfl ?_
        refine SOp.mk _ _ (SIdx.lb i (by omega) (by omega) (And.intro rfl rfl)) rfl ?_
        refine SOp.mk _ _ (And.intro rfl rfl) rfl ?_
        rw [hx, hy]
        by_cases hlt : x < y
        · refine SOp.mk _ _ (SCmp.yes (decide_eq_true (by omega)) (And.intro rfl rfl)) rfl ?_
          refine SRet.pure ?_
          rw [show cmpZ a b = -1 by simp [cmpZ, cmp_high h2 (by rw [← e1, ← e2]; exact hlt)]]
          exact .p _ (.int _ _)
        · refine SOp.mk _ _ (SCmp.no (decide_eq_false (by omega)) (And.intro rfl rfl)) rfl ?_
          refine SRet.pure ?_
          have : b < a := cmp_high h2.symm (by rw [← e1, ← e2]; omega)
          rw [show cmpZ a b = 1 by simp [cmpZ, show ¬ a < b by omega, show a ≠ b by omega]]
          exact .p _ (.int _ _)
  · refine SCmp.yes (neT (by omega)) ?_
    refine SZ.mk (nlen a) (by simp) ?_
    refine SZ.mk (nlen b) (by simp) ?_
    by_cases hlt : nlen a < nlen b
    · refine SCmp.yes (decide_eq_true (by omega)) ?_
      refine SRet.pure ?_
      rw [show cmpZ a b = -1 by simp [cmpZ, lt_of_nlen hlt]]
      exact .p _ (.int _ _)
    · refine SCmp.no (decide_eq_false (by omega)) ?_
      refine SRet.pure ?_
      have : b < a := lt_of_nlen (by omega)
      rw [show cmpZ a b = 1 by simp [cmpZ, show ¬ a < b by omega, show a ≠ b by omega]]
      exact .p _ (.int _ _)
/-- One round of a subtraction: d is the difference, all modulo two to the 64th. -/
theorem sub_step {p x y c t A B d : Nat} (hx : A / p % 4294967296 = x) (hy : B / p % 4294967296 = y) (h1 : t + B % p = A % p + c * p) (h2 : x + 4294967296 * (d / 9223372036854775808) = d % 4294967296 + y + c) :
    (t + p * (d % 4294967296)) + B % (p * 4294967296) = A % (p * 4294967296) + (d / 9223372036854775808) * (p * 4294967296) := by
  rw [Nat.mod_mul, Nat.mod_mul, hx, hy]
  grind
theorem sub_ok (m m' : Bool) (a b : Nat) (ha : nlen a ≤ 549755813888) (hb : nlen b ≤ 549755813888) :
    CallP Tryz.prog 138 [natM m a, natM m' b] (if b ≤ a then .tup [.p (natP (a - b)), .p (.int .i64 0)] else .tup [.p (natP 0), .p (.int .i64 1)]) [] := by
  refine callG_of_vc (wr := wr0) Γok mixed Tryz.func138 (by kernel_rfl) rfl (by kernel_rfl) (le_of_ble rfl) (by simp) ?_
  refine SCall.pure (cmp_ok m m' a b ha hb) ?_
  by_cases hlt : a < b
  · rw [if_neg (by omega), show cmpZ a b = -1 by simp [cmpZ, hlt]]
    refine SCmp.yes rfl ?_
    refine SRet.pure ?_
    have : natP 0 = .sl false 1 [] := by simp [nl_zero]
    rw [this]
    exact .tup rfl fun i c d e1 e2 => by
      match i, e1, e2 with
      | 0, e1, e2 => cases e1; cases e2; exact .emp _
      | 1, e1, e2 => cases e1; cases e2; exact .p _ (.int _ _)
  · rw [if_pos (by omega)]
    refine SCmp.no (decide_eq_false (by simp only [cmpZ]; split; omega; split <;> omega)) ?_
    obtain ⟨L, hL⟩ : ∃ L, L = nlen a := ⟨_, rfl⟩
    refine SZ.mk L (by simp [hL]) ?_
    refine SZ.mk L rfl ?_
    refine SLt.mk (by simp) ?_
    refine SMake.u32 L rfl (by omega) ?_
    refine SZ.mk L rfl ?_
    refine SLoop.mk (Nat × Nat × List Nat) (fun (i, c, out) => ([(0, .p (natM m a)), (1, .p (natM m' b)), (6, .vec 0 1 0 L), (7, .p (.int .u64 c)), (18, .p (.int .i64 L)), (19, .p (.int .i64 i))], [.vec 41 1 (limbs out)]))
      (fun (i, c, out) => i ≤ L ∧ c ≤ 1 ∧ out.length = L ∧ Lok out ∧ nv (out.take i) + b % 4294967296 ^ i = a % 4294967296 ^ i + c * 4294967296 ^ i) (fun x => L - x.1) (0, 0, List.replicate L 0) [0]
      ⟨Nat.zero_le _, by simp, by simp, .replicate _, by simp [nv, Nat.mod_one]⟩
      ⟨rfl, by simp, rfl, rfl, rfl, ⟨rfl, rfl, rfl, rfl, rfl, rfl, trivial⟩, ⟨congrArg _ (limbs_replicate L).symm, trivial⟩⟩ ?_
    intro ⟨i, c, out⟩ ⟨h1, h2, h3, h4, h5⟩
    by_cases hi : i < L
    · refine SCmp.yes (decide_eq_true (by omega)) ?_
      refine SCall.pure (at_ok m (nl a) (nl_ok a) i) ?_
      refine SCall.pure (at_ok m' (nl b) (nl_ok b) i) ?_
      rw [if_pos (by omega), if_pos (by omega), Int.toNat_natCast]
      have e1 := nl_getD a i
      have e2 := nl_getD b i
      have l1 : (nl a).getD i 0 < 4294967296 := getD_lt (nl_ok a) i
      have l2 : (nl b).getD i 0 < 4294967296 := getD_lt (nl_ok b) i
      generalize hx : (nl a).getD i 0 = x at e1 l1 ⊢
      generalize hy : (nl b).getD i 0 = y at e2 l2 ⊢
      refine SWrap.u64m ?_
      refine SWrap.u64w ((x + 36893488147419103232 - y - c) % 18446744073709551616) (by omega) ?_
      obtain ⟨d, hd⟩ : ∃ d, d = (x + 36893488147419103232 - y - c) % 18446744073709551616 := ⟨_, rfl⟩
      rw [← hd]
      have hs : x + 4294967296 * (d / 9223372036854775808) = d % 4294967296 + y + c := by omega
      have hc' : d / 9223372036854775808 ≤ 1 := by omega
      refine SWrap.u32z (d % 4294967296) (by omega) ?_
      refine SPos.mk i rfl hi ?_
      refine SLt.set (by omega) ?_
      refine SEs.set ?_
      refine SShr63 ?_
      refine SWrap.i64z ((i + 1 : Nat) : Int) (by omega) (by omega) ?_
      refine ⟨(i + 1, d / 9223372036854775808, out.set i (d % 4294967296)), [0], ⟨hi, hc', by simpa using h3, h4.set (Nat.mod_lt _ (by omega)), ?_⟩, by show L - (i + 1) < L - i; omega, ⟨rfl, by simp, rfl, rfl, rfl, ⟨rfl, rfl, rfl, rfl, rfl, rfl, trivial⟩, ⟨rfl, trivial⟩⟩⟩
      rw [nv_set_take (by omega), Nat.pow_succ]
      exact sub_step e1.symm e2.symm h5 hs
    · refine SCmp.no (decide_eq_false (by omega)) ?_
      have hiL : i = L := by omega
      subst hiL
      have hba : nlen b ≤ nlen a := nlen_mono (by omega)
      rw [mod_big a i (by omega), mod_big b i (by omega), List.take_of_length_le (by omega)] at h5
      have hc : c = 0 := by
        rcases Nat.eq_zero_or_pos c with h | h
        · exact h
        · have h6 : 1 * 4294967296 ^ i ≤ c * 4294967296 ^ i := Nat.mul_le_mul_right _ h
          have h7 := nv_lt h4
          rw [h3] at h7
          omega
      subst hc
      have hv : nv out = a - b := by omega
      refine SView.all (by simpa using h3.symm) ?_
      refine SCall.pure (cut_ok true out h4 (by omega)) ?_
      rw [hv]
      refine SRet.pure ?_
      exact .tup rfl fun i c d e1 e2 => by
        match i, e1, e2 with
        | 0, e1, e2 => cases e1; cases e2; exact .p _ (.sl _ _ (pers_limbs _))
        | 1, e1, e2 => cases e1; cases e2; exact .p _ (.int _ _)
end Go.Proofs.YtnilcfiemgmfdaaGreat
namespace Go.Proofs.YtnilcfiemgmfdaaGreat
open Go
set_option linter.unusedVariables false
set_option maxRecDepth 10000
theorem mul_step {t t' pi pk o c x y tot A : Nat} {Bm : Nat} (hset : t' + (pi * pk) * o = t + (pi * pk) * (tot % 4294967296)) (h : t + c * (pi * pk) = A + x * pi * Bm) (ht : tot = c + (x * y + o)) :
    t' + (tot / 4294967296) * (pi * pk * 4294967296) = A + x * pi * (Bm + pk * y) := by
  have hd : tot = tot % 4294967296 + 4294967296 * (tot / 4294967296) := by omega
  generalize tot / 4294967296 = q at hd ⊢
  generalize tot % 4294967296 = r at hd hset
  have e : t' + q * (pi * pk * 4294967296) + (pi * pk) * o = A + x * pi * (Bm + pk * y) + (pi * pk) * o := by grind
  omega
theorem limb_le {a : Nat} (h : a < 4294967296) : a ≤ 4294967295 := by omega
theorem mul_le {x y : Nat} (hx : x < 4294967296) (hy : y < 4294967296) : x * y ≤ 18446744065119617025 := Nat.mul_le_mul (limb_le hx) (limb_le hy)
theorem mul_ok (m m' : Bool) (a b : Nat) (ha : nlen a ≤ 274877906944) (hb : nlen b ≤ 274877906944) : CallP Tryz.prog 124 [natM m a, natM m' b] (.p (natP (a * b))) [] := by
  refine callG_of_vc (wr := wr0) Γok mixed Tryz.func124 (by kernel_rfl) rfl (by kernel_rfl) (le_of_ble rfl) (by simp) ?_
  obtain ⟨la, hla⟩ : ∃ L, L = nlen a := ⟨_, rfl⟩
  obtain ⟨lb, hlb⟩ : ∃ L, L = nlen b := ⟨_, rfl⟩
  have ha' : (nl a).length = la := hla.symm
  have hb' : (nl b).length = lb := hlb.symm
  refine SZ.mk la (by simp [hla]) ?_
  refine SZ.mk lb (by simp [hlb]) ?_
  refine SWrap.i64z ((la + lb : Nat) : Int) (by omega) (by omega) ?_
  refine SZ.mk ((la + lb : Nat) : Int) rfl ?_
  refine SLt.mk (by simp) ?_
  refine SMake.u32 (la + lb) rfl (by omega) ?_
  refine SZ.mk la (by simp [hla]) ?_
  refine SLoop.mk (Nat × List Nat) (fun (i, out) => ([(0, .p (natM m a)), (1, .p (natM m' b)), (5, .vec 0 1 0 (la + lb)), (16, .p (natM m a)), (17, .p (.int .i64 la)), (18, .p (.int .i64 i))], [.vec 41 1 (limbs out)]))
    (fun (i, out) => i ≤ la ∧ out.length = la + lb ∧ Lok out ∧ nv (out.take (i + lb)) = a % 4294967296 ^ i * b) (fun x => la - x.1) (0, List.replicate (la + lb) 0) [0]
    ⟨Nat.zero_le _, by simp, .replicate _, by simp [nv_replicate, Nat.mod_one]⟩
    ⟨rfl, by simp, rfl, rfl, rfl, ⟨rfl, rfl, rfl, rfl, rfl, rfl, trivial⟩, ⟨congrArg _ (limbs_replicate _).symm, trivial⟩⟩ ?_
  intro ⟨i, out⟩ ⟨h1, h3, h4, h5⟩
  by_cases hi : i < la
  · refine SCmp.yes (decide_eq_true (by omega)) ?_
    refine SIdx.lb i rfl (by omega) ?_
    have e1 := nl_getD a i
    have l1 : (nl a).getD i 0 < 4294967296 := getD_lt (nl_ok a) i
    generalize hx : (nl a).getD i 0 = x at e1 l1 ⊢
    refine SZ.mk lb (by simp [hlb]) ?_
    refine SLoop.mk (Nat × Nat × List Nat) (fun (k, c, out) => ([(0, .p (natM m a)), (1, .p (natM m' b)), (5, .vec 0 1 0 (la + lb)), (6, .p (.int .i64 i)), (7, .p (.int .u32 x)), (8, .p (.int .u64 c)), (16, .p (natM m a)), (17, .p (.int .i64 la)), (18, .p (.int .i64 i)), (24, .p (.int .i64 lb)), (25, .p (.int .i64 k))], [.vec 41 1 (limbs out)]))
      (fun (k, c, out) => k ≤ lb ∧ c < 4294967296 ∧ out.length = la + lb ∧ Lok out ∧ nv (out.take (i + lb)) + c * (4294967296 ^ i * 4294967296 ^ k) = a % 4294967296 ^ i * b + x * 4294967296 ^ i * (b % 4294967296 ^ k)) (fun x => lb - x.1) (0, 0, out) [0]
      ⟨Nat.zero_le _, by simp, h3, h4, by simp [h5, Nat.mod_one]⟩
      ⟨rfl, by simp, rfl, rfl, rfl, ⟨rfl, rfl, rfl, rfl, rfl, rfl, rfl, rfl, rfl, rfl, rfl, trivial⟩, ⟨rfl, trivial⟩⟩ ?_
    intro ⟨k, c, out⟩ ⟨g1, g2, g3, g4, g5⟩
    by_cases hk : k < lb
    · refine SCmp.yes (decide_eq_true (by omega)) ?_
      refine SDraw.mk (by kernel_rfl) ?_
      have e2 := nl_getD b k
      have l2 : (nl b).getD k 0 < 4294967296 := getD_lt (nl_ok b) k
      have l3 : out.getD (i + k) 0 < 4294967296 := getD_lt g4 (i + k)
      iterate 2 refine SOp.mk _ _ (And.intro rfl rfl) rfl ?_
      refine SOp.mk _ _ (SWrap.u64z x rfl (by omega) (And.intro rfl rfl)) rfl ?_
      iterate 2 refine SOp.mk _ _ (And.intro rfl rfl) rfl ?_
      refine SOp.mk _ _ (SIdx.lb k rfl (by omega) (And.intro rfl rfl)) rfl ?_
      iterate 1 refine SOp.mk _ _ (And.intro rfl rfl) rfl ?_
      generalize hy : (nl b).getD k 0 = y at e2 l2 ⊢
      have hxy := mul_le l1 l2
      refine SOp.mk _ _ (SWrap.u64z y rfl (by omega) (And.intro rfl rfl)) rfl ?_
      refine SOp.mk _ _ (SWrap.u64z (x * y) (Int.natCast_mul x y).symm (by omega) (And.intro rfl rfl)) rfl ?_
      iterate 3 refine SOp.mk _ _ (And.intro rfl rfl) rfl ?_
      refine SOp.mk _ _ (SWrap.i64z ((i + k : Nat) : Int) (by omega) (by omega) (And.intro rfl rfl)) rfl ?_
      refine SOp.mk _ _ (SPos.mk (i + k) rfl (by omega) (And.intro rfl rfl)) rfl ?_
      refine SOp.mk _ _ (SIdx.setget (by omega) (And.intro rfl rfl)) rfl ?_
      generalize ho : out.getD (i + k) 0 = o at l3 ⊢
      refine SOp.mk _ _ (SWrap.u64z o rfl (by omega) (And.intro rfl rfl)) rfl ?_
      refine SOp.mk _ _ (SWrap.u64z (x * y + o) (by omega) (by omega) (And.intro rfl rfl)) rfl ?_
      refine SOp.mk _ _ (SWrap.u64z (c + (x * y + o)) (by omega) (by omega) (And.intro rfl rfl)) rfl ?_
      refine SOp.mk _ _ (And.intro rfl rfl) rfl ?_
      obtain ⟨tot, htot⟩ : ∃ tot, tot = c + (x * y + o) := ⟨_, rfl⟩
      rw [← htot]
      refine SWrap.i64z ((i + k : Nat) : Int) (by omega) (by omega) ?_
      refine SWrap.u32z (tot % 4294967296) (by omega) ?_
      refine SPos.mk (i + k) rfl (by omega) ?_
      refine SLt.set (by omega) ?_
      refine SEs.set ?_
      refine SShr32 ?_
      refine SWrap.i64z ((k + 1 : Nat) : Int) (by omega) (by omega) ?_
      refine ⟨(k + 1, tot / 4294967296, out.set (i + k) (tot % 4294967296)), [0], ⟨hk, by omega, by simpa using g3, g4.set (Nat.mod_lt _ (by omega)), ?_⟩, by show lb - (k + 1) < lb - k; omega,
        ⟨rfl, by simp, rfl, rfl, rfl, ⟨rfl, rfl, rfl, rfl, rfl, rfl, rfl, rfl, rfl, rfl, rfl, trivial⟩, ⟨rfl, trivial⟩⟩⟩
      have hs := nv_set (out.take (i + lb)) (i + k) (tot % 4294967296) (by simp; omega)
      rw [← List.take_set, show (out.take (i + lb)).getD (i + k) 0 = o by rw [← ho]; simp [List.getD, show i + k < i + lb by omega], Nat.pow_add] at hs
      have hm := mul_step hs g5 htot
      have hb2 : b % 4294967296 ^ (k + 1) = b % 4294967296 ^ k + 4294967296 ^ k * (b / 4294967296 ^ k % 4294967296) := Nat.mod_pow_succ
      rw [hb2, ← e2, Nat.pow_succ, ← Nat.mul_assoc (4294967296 ^ i)]
      exact hm
    · refine SCmp.no (decide_eq_false (by omega)) ?_
      have hkl : k = lb := by omega
      subst hkl
      refine SZ.mk k (by simp [hb']) ?_
      refine SWrap.i64z ((i + k : Nat) : Int) (by omega) (by omega) ?_
      refine SWrap.u32z c (by omega) ?_
      refine SPos.mk (i + k) rfl (by omega) ?_
      refine SLt.set (by omega) ?_
      refine SEs.set ?_
      refine SWrap.i64z ((i + 1 : Nat) : Int) (by omega) (by omega) ?_
      refine ⟨(i + 1, out.set (i + k) c), [0], ⟨hi, by simpa using g3, g4.set g2, ?_⟩, by show la - (i + 1) < la - i; omega, ⟨rfl, by simp, rfl, rfl, rfl, ⟨rfl, rfl, rfl, rfl, rfl, rfl, trivial⟩, ⟨rfl, trivial⟩⟩⟩
      rw [show i + 1 + k = i + k + 1 by omega, nv_set_take (by omega), Nat.pow_add, Nat.pow_succ, Nat.mod_mul, ← e1]
      rw [mod_big b k (by omega)] at g5
      grind
  · refine SCmp.no (decide_eq_false (by omega)) ?_
    have hiL : i = la := by omega
    subst hiL
    rw [mod_big a i (by omega), List.take_of_length_le (by omega)] at h5
    refine SView.all (by simpa using h3.symm) ?_
    refine SCall.pure (cut_ok true out h4 (by omega)) ?_
    rw [h5]
    exact SRet.pure (.p _ (.sl _ _ (pers_limbs _)))
end Go.Proofs.YtnilcfiemgmfdaaGreat
namespace Go.Proofs.YtnilcfiemgmfdaaGreat
open Go
set_option linter.unusedVariables false
set_option maxRecDepth 10000
theorem tabL (b : ByteArray) (h : ∀ i : Fin 256, (b.data.getD i.val 0).toNat = bitLen i.val) (x : Nat) (hx : x < 256) : ((b.data.getD x 0).toNat : Int) = (bitLen x : Int) := by rw [h ⟨x, hx⟩]
theorem SWrap.u8z {e : Int} {K : Int → Prop} (z : Nat) (hz : e = z) (h : z < 256) (hk : K z) : SWrap .u8 e K := .mk z (by rw [wrap_u _ rfl, hz]; exact Int.emod_eq_of_lt (by omega) (by show (z : Int) < 256; omega)) hk
theorem SShr16 {a : Nat} {K : Int → Prop} (hk : K ((a / 65536 : Nat) : Int)) : SGe 16 (SZ ((a : Int).fdiv (2 ^ (min (16 : Int).toNat (IntKind.bits .u32)))) K) :=
  .mk (by decide) (.mk _ (by
    show Int.fdiv (a : Int) 65536 = _
    rw [Int.fdiv_eq_ediv_of_nonneg _ (by decide)]; omega) hk)
theorem SShr8 {a : Nat} {K : Int → Prop} (hk : K ((a / 256 : Nat) : Int)) : SGe 8 (SZ ((a : Int).fdiv (2 ^ (min (8 : Int).toNat (IntKind.bits .u32)))) K) :=
  .mk (by decide) (.mk _ (by
    show Int.fdiv (a : Int) 256 = _
    rw [Int.fdiv_eq_ediv_of_nonneg _ (by decide)]; omega) hk)
theorem len32_ok (x : Nat) (hx : x < 4294967296) : CallP Tryz.prog 113 [.int .u32 x] (.p (.int .i64 (bitLen x))) [] := by
  refine callG_of_vc (wr := wr0) Γok mixed Tryz.func113 (by kernel_rfl) rfl (by kernel_rfl) (le_of_ble rfl) (by simp) ?_
  have s16 : 65536 ≤ x → bitLen x = 16 + bitLen (x / 65536) := fun h => bitLen_shift x 16 (by show x / 65536 ≠ 0; omega)
  have s8 : ∀ y, 256 ≤ y → bitLen y = 8 + bitLen (y / 256) := fun y h => bitLen_shift y 8 (by show y / 256 ≠ 0; omega)
  have l8 : ∀ y, y < 256 → bitLen y ≤ 8 := fun y h => bitLen_le8 y h
  by_cases h16 : 65536 ≤ x
  · refine SCmp.yes (decide_eq_true (by omega)) ?_
    refine SShr16 ?_
    by_cases h8 : 256 ≤ x / 65536
    · refine SCmp.yes (decide_eq_true (by omega)) ?_
      refine SShr8 ?_
      have hb := l8 (x / 65536 / 256) (by omega)
      refine SWrap.i64z 24 rfl (by omega) ?_
      refine SWrap.u8z (x / 65536 / 256) rfl (by omega) ?_
      refine SPos.mk (x / 65536 / 256) rfl (by show x / 65536 / 256 < 256; omega) ?_
      refine SZ.mk (bitLen (x / 65536 / 256)) (tabL _ (by decide +kernel) _ (by omega)) ?_
      refine SWrap.i64z (bitLen (x / 65536 / 256)) rfl (by omega) ?_
      refine SWrap.i64z (bitLen x) (by rw [s16 h16, s8 _ h8]; omega) (by rw [s16 h16, s8 _ h8]; omega) ?_
      exact SRet.pure (.p _ (.int _ _))
    · refine SCmp.no (decide_eq_false (by omega)) ?_
      have hb := l8 (x / 65536) (by omega)
      refine SWrap.u8z (x / 65536) rfl (by omega) ?_
      refine SPos.mk (x / 65536) rfl (by show x / 65536 < 256; omega) ?_
      refine SZ.mk (bitLen (x / 65536)) (tabL _ (by decide +kernel) _ (by omega)) ?_
      refine SWrap.i64z (bitLen (x / 65536)) rfl (by omega) ?_
      refine SWrap.i64z (bitLen x) (by rw [s16 h16]; omega) (by rw [s16 h16]; omega) ?_
      exact SRet.pure (.p _ (.int _ _))
  · refine SCmp.no (decide_eq_false (by omega)) ?_
    by_cases h8 : 256 ≤ x
    · refine SCmp.yes (decide_eq_true (by omega)) ?_
      refine SShr8 ?_
      have hb := l8 (x / 256) (by omega)
      refine SWrap.i64z 8 rfl (by omega) ?_
      refine SWrap.u8z (x / 256) rfl (by omega) ?_
      refine SPos.mk (x / 256) rfl (by show x / 256 < 256; omega) ?_
      refine SZ.mk (bitLen (x / 256)) (tabL _ (by decide +kernel) _ (by omega)) ?_
      refine SWrap.i64z (bitLen (x / 256)) rfl (by omega) ?_
      refine SWrap.i64z (bitLen x) (by rw [s8 _ h8]; omega) (by rw [s8 _ h8]; omega) ?_
      exact SRet.pure (.p _ (.int _ _))
    · refine SCmp.no (decide_eq_false (by omega)) ?_
      have hb := l8 x (by omega)
      refine SWrap.u8z x rfl (by omega) ?_
      refine SPos.mk x rfl (by show x < 256; omega) ?_
      refine SZ.mk (bitLen x) (tabL _ (by decide +kernel) _ (by omega)) ?_
      refine SWrap.i64z (bitLen x) rfl (by omega) ?_
      refine SWrap.i64z (bitLen x) (by omega) (by omega) ?_
      exact SRet.pure (.p _ (.int _ _))
theorem lz32_ok (x : Nat) (hx : x < 4294967296) : CallP Tryz.prog 192 [.int .u32 x] (.p (.int .i64 ((32 - bitLen x : Nat) : Int))) [] := by
  refine callG_of_vc (wr := wr0) Γok mixed Tryz.func192 (by kernel_rfl) rfl (by kernel_rfl) (le_of_ble rfl) (by simp) ?_
  have hb : bitLen x ≤ 32 := by
    by_cases h0 : x = 0
    · subst h0; decide
    · have h1 := (bitLen_spec x).2 h0
      rcases Nat.lt_or_ge 32 (bitLen x) with h | h
      · have : 2 ^ 32 ≤ 2 ^ (bitLen x - 1) := Nat.pow_le_pow_right (by omega) (by omega)
        omega
      · exact h
  refine SCall.pure (len32_ok x hx) ?_
  refine SWrap.i64z ((32 - bitLen x : Nat) : Int) (by omega) (by omega) ?_
  exact SRet.pure (.p _ (.int _ _))
end Go.Proofs.YtnilcfiemgmfdaaGreat
namespace Go.Proofs.YtnilcfiemgmfdaaGreat
open Go
set_option linter.unusedVariables false
set_option maxRecDepth 10000
theorem SShl32 {a : Nat} {K : Int → Prop} (h : a < 4294967296) (hk : K ((a * 4294967296 : Nat) : Int)) : SGe 32 (SWrap .u64 ((a : Int) * 2 ^ (min (32 : Int).toNat (IntKind.bits .u64))) K) :=
  .mk (by decide) (.u64z (a * 4294967296) (by show (a : Int) * 4294967296 = _; omega) (by omega) hk)
theorem SQuo {a b q : Nat} {k : IntKind} {K : Int → Prop} (h : b ≠ 0) (hq : q = a / b) (hw : k.wrap (q : Int) = (q : Int)) (hk : K (q : Int)) : SNe (b : Int) (SWrap k ((a : Int).tdiv b) K) :=
  .mk (by omega) (.mk _ (by rw [Int.tdiv_eq_ediv_of_nonneg (by omega), ← Int.natCast_ediv, ← hq]; exact hw) hk)
theorem SRem {a b r : Nat} {K : Int → Prop} (h : b ≠ 0) (hr : r = a % b) (hk : K (r : Int)) : SNe (b : Int) (SZ ((a : Int).tmod b) K) :=
  .mk (by omega) (.mk _ (by rw [Int.tmod_eq_emod_of_nonneg (by omega), ← Int.natCast_emod, hr]) hk)
theorem wrap_u64_id {n : Nat} (h : n < 18446744073709551616) : IntKind.u64.wrap (n : Int) = n := by rw [wrap_u _ rfl]; exact Int.emod_eq_of_lt (by omega) (by show (n : Int) < 18446744073709551616; omega)
theorem ofInt_toNat64 {n : Nat} (h : n < 18446744073709551616) : (BitVec.ofInt 64 (n : Int)).toNat = n := by
  rw [BitVec.toNat_ofInt]; simp; omega
theorem or_hi (l y : Nat) (hy : y < 4294967296) : l * 4294967296 ||| y = l * 4294967296 + y := by
  have := Nat.two_pow_add_eq_or_of_lt (i := 32) hy l
  rw [Nat.mul_comm l]
  exact this.symm
theorem SOr32 {l y S : Nat} {K : Int → Prop} (hl : l < 4294967296) (hy : y < 4294967296) (hS : S = l * 4294967296 + y) (hk : K (S : Int)) :
    SWrap .u64 (((BitVec.ofInt (IntKind.bits .u64) ((l * 4294967296 : Nat) : Int) ||| BitVec.ofInt (IntKind.bits .u64) (y : Int)).toNat : Nat) : Int) K := by
  subst hS
  refine .u64z (l * 4294967296 + y) ?_ (by omega) hk
  show (((BitVec.ofInt 64 ((l * 4294967296 : Nat) : Int) ||| BitVec.ofInt 64 (y : Int)).toNat : Nat) : Int) = _
  rw [BitVec.toNat_or, ofInt_toNat64 (by omega), ofInt_toNat64 (by omega), or_hi l y hy]
theorem small_step {A d i Q l x : Nat} (hd : 0 < d) (hx : A / 4294967296 ^ i % 4294967296 = x) (h : A / 4294967296 ^ (i + 1) = Q * d + l) :
    A / 4294967296 ^ i = (Q * 4294967296 + (l * 4294967296 + x) / d) * d + (l * 4294967296 + x) % d := by
  have e : A / 4294967296 ^ i = A / 4294967296 ^ (i + 1) * 4294967296 + A / 4294967296 ^ i % 4294967296 := by
    rw [Nat.pow_succ, ← Nat.div_div_eq_div_mul]; omega
  rw [e, h, hx]
  have := Nat.div_add_mod (l * 4294967296 + x) d
  generalize (l * 4294967296 + x) / d = q at *
  generalize (l * 4294967296 + x) % d = r at *
  grind
theorem SCall.pureT {P : Program} {wr : Bool} {f : FuncId} {L : Hd → Blk} {base : Nat} {K : AV → List (Hd × Blk) → Prop} {pvs : List PV} {r : AV} (hc : CallP P f pvs r []) (hr : ∀ ρ, r.ren ρ = r) (hk : K r []) {raw : List AV} : SCall P wr f raw (pvs.map .p) L base K :=
  .mk [] (pvs.map .p) r [] [] (fun _ => rfl) .nil (fun _ h => by simp at h) (by rw [AV.renL_eq, List.map_map]; exact List.map_congr_left fun _ _ => rfl) rfl (fun i h B e => by simp at e) (fun _ h => by simp at h) (fun _ h => by simp at h) (Nat.zero_le _) (fun _ h => by simp at h)
    (fun a ha k hk => by obtain ⟨v, _, rfl⟩ := List.mem_map.1 ha; simp only [AV.men] at hk) hc (by rw [hr]; exact hk)
theorem small_ok (m : Bool) (a d : Nat) (ha : nlen a ≤ 549755813888) (hd : 0 < d) (hd' : d < 4294967296) :
    CallP Tryz.prog 191 [natM m a, .int .u32 d] (.tup [.p (natP (a / d)), .p (.int .u32 ((a % d : Nat) : Int))]) [] := by
  refine callG_of_vc (wr := wr0) Γok mixed Tryz.func191 (by kernel_rfl) rfl (by kernel_rfl) (le_of_ble rfl) (by simp) ?_
  obtain ⟨L, hL⟩ : ∃ L, L = nlen a := ⟨_, rfl⟩
  have hL' : (nl a).length = L := hL.symm
  refine SZ.mk L (by simp [hL]) ?_
  refine SZ.mk L rfl ?_
  refine SLt.mk (by simp) ?_
  refine SMake.u32 L rfl (by omega) ?_
  refine SZ.mk L (by simp [hL]) ?_
  refine SWrap.i64z ((L : Int) - 1) rfl (by omega) ?_
  refine SLoop.mk (Nat × Nat × List Nat) (fun (i, l, out) => ([(0, .p (natM m a)), (1, .p (.int .u32 d)), (6, .vec 0 1 0 L), (7, .p (.int .u64 l)), (8, .p (.int .i64 ((i : Int) - 1)))], [.vec 41 1 (limbs out)]))
    (fun (i, l, out) => i ≤ L ∧ l < d ∧ out.length = L ∧ Lok out ∧ ∃ Q, nv out = Q * 4294967296 ^ i ∧ a / 4294967296 ^ i = Q * d + l) (fun x => x.1) (L, 0, List.replicate L 0) [0]
    ⟨Nat.le_refl _, hd, by simp, .replicate _, 0, by simp [nv_replicate], by rw [hL, Nat.div_eq_of_lt (lt_nlen a)]; simp⟩
    ⟨rfl, by simp, rfl, rfl, rfl, ⟨rfl, rfl, rfl, rfl, rfl, trivial⟩, ⟨congrArg _ (limbs_replicate L).symm, trivial⟩⟩ ?_
  intro ⟨i, l, out⟩ ⟨h1, h2, h3, h4, Q, h5, h6⟩
  by_cases hi : i = 0
  · subst hi
    refine SCmp.no (decide_eq_false (by omega)) ?_
    have hm := Nat.div_mod_unique hd |>.2 (⟨by rw [Nat.pow_zero, Nat.div_one] at h6; rw [h6]; grind, h2⟩ : l + d * Q = a ∧ l < d)
    have hv : nv out = a / d := by rw [hm.1, h5]; simp
    refine SView.all (by simpa using h3.symm) ?_
    refine SCall.pure (cut_ok true out h4 (by omega)) ?_
    refine SWrap.u32z (a % d) (by rw [hm.2]; omega) ?_
    rw [hv]
    refine SRet.pure ?_
    exact .tup rfl fun i c d e1 e2 => by
      match i, e1, e2 with
      | 0, e1, e2 => cases e1; cases e2; exact .p _ (.sl _ _ (pers_limbs _))
      | 1, e1, e2 => cases e1; cases e2; exact .p _ (.int _ _)
  · obtain ⟨i, rfl⟩ := Nat.exists_eq_succ_of_ne_zero hi
    refine SCmp.yes (decide_eq_true (by omega)) ?_
    have e1 := nl_getD a i
    have l1 : (nl a).getD i 0 < 4294967296 := getD_lt (nl_ok a) i
    refine SShl32 (by omega) ?_
    refine SIdx.lb i (by omega) (by omega) ?_
    generalize hx : (nl a).getD i 0 = x at e1 l1 ⊢
    refine SWrap.u64z x rfl (by omega) ?_
    obtain ⟨S, hS⟩ : ∃ S, S = l * 4294967296 + x := ⟨_, rfl⟩
    refine SOr32 (by omega) l1 hS ?_
    have hq : (l * 4294967296 + x) / d < 4294967296 := by
      rw [Nat.div_lt_iff_lt_mul hd]
      have : (l + 1) * 4294967296 ≤ d * 4294967296 := Nat.mul_le_mul_right _ h2
      rw [Nat.mul_comm 4294967296]
      omega
    have hr : (l * 4294967296 + x) % d < d := Nat.mod_lt _ hd
    refine SWrap.u64z d rfl (by omega) ?_
    have hss := small_step hd e1.symm h6
    rw [← hS] at hq hr hss
    obtain ⟨q, hq'⟩ : ∃ q, q = S / d := ⟨_, rfl⟩
    obtain ⟨r, hr'⟩ : ∃ r, r = S % d := ⟨_, rfl⟩
    rw [← hq'] at hq hss
    rw [← hr'] at hr hss
    refine SQuo (by omega) hq' (wrap_u64_id (by omega)) ?_
    refine SWrap.u32z q (by omega) ?_
    refine SPos.mk i (by omega) (by omega) ?_
    refine SLt.set (by omega) ?_
    refine SEs.set ?_
    refine SWrap.u64z d rfl (by omega) ?_
    refine SRem (by omega) hr' ?_
    refine SWrap.i64z ((i : Int) - 1) (by omega) (by omega) ?_
    refine ⟨(i, r, out.set i q), [0], ⟨by omega, hr, by simpa using h3, h4.set hq, Q * 4294967296 + q, ?_, hss⟩, Nat.lt_succ_self i, ⟨rfl, by simp, rfl, rfl, rfl, ⟨rfl, rfl, rfl, rfl, rfl, trivial⟩, ⟨rfl, trivial⟩⟩⟩
    have hs := nv_set out i q (by omega)
    have hz : out.getD i 0 = 0 := by
      rw [getD_nv h4, h5, Nat.pow_succ, Nat.mul_comm (4294967296 ^ i), ← Nat.mul_assoc, Nat.mul_div_cancel _ (pow_pos' i), Nat.mul_mod_left]
    rw [hz, Nat.mul_zero, Nat.add_zero, h5, Nat.pow_succ] at hs
    rw [hs]
    grind
end Go.Proofs.YtnilcfiemgmfdaaGreat
namespace Go.Proofs.YtnilcfiemgmfdaaGreat
open Go
set_option linter.unusedVariables false
set_option maxRecDepth 10000
theorem pow_split {s : Nat} (h : s ≤ 32) : 2 ^ s * 2 ^ (32 - s) = 4294967296 := by rw [← Nat.pow_add, show s + (32 - s) = 32 by omega]
theorem shl_limb0 {A D C : Nat} (hD : 0 < D) (hDC : D * C = 4294967296) : A * D % 4294967296 = (A % 4294967296 % C) * D := by
  rw [← hDC, Nat.mul_comm A, Nat.mul_mod_mul_left, Nat.mod_mul_left_mod, Nat.mul_comm]
theorem shl_limb {A D C p : Nat} (hp : 0 < p) (hD : 0 < D) (hDC : D * C = 4294967296) :
    A * D / (p * 4294967296) % 4294967296 = (A / (p * 4294967296) % 4294967296 % C) * D + (A / p % 4294967296) / C := by
  have hC : 0 < C := by rcases Nat.eq_zero_or_pos C with h | h; subst h; simp at hDC; exact h
  rw [← Nat.div_div_eq_div_mul, ← Nat.div_div_eq_div_mul]
  have e1 : A * D / p = A / p * D + (A % p) * D / p := by
    have := Nat.div_add_mod A p
    calc A * D / p = ((p * (A / p) + A % p) * D) / p := by rw [this]
      _ = (A % p * D + p * (A / p * D)) / p := by congr 1; grind
      _ = A % p * D / p + A / p * D := Nat.add_mul_div_left _ _ hp
      _ = _ := Nat.add_comm _ _
  have he : (A % p) * D / p < D := by
    rw [Nat.div_lt_iff_lt_mul hp, Nat.mul_comm D]
    exact Nat.mul_lt_mul_of_pos_right (Nat.mod_lt _ hp) hD
  rw [e1]
  generalize A / p = a
  generalize (A % p) * D / p = e at he
  have e2 : (a * D + e) / 4294967296 = a / C := by
    rw [← hDC, ← Nat.div_div_eq_div_mul, Nat.mul_comm a, Nat.mul_add_div hD, Nat.div_eq_of_lt he, Nat.add_zero]
  rw [e2]
  -- a = hi * B + y
  have h1 := Nat.div_add_mod a 4294967296
  have hy : a % 4294967296 < 4294967296 := Nat.mod_lt _ (by omega)
  have e3 : a / C = a / 4294967296 * D + a % 4294967296 / C := by
    conv => lhs; rw [← h1, ← hDC]
    rw [show D * C * (a / (D * C)) + a % (D * C) = a % (D * C) + C * (a / (D * C) * D) by grind, Nat.add_mul_div_left _ _ hC, Nat.add_comm, hDC]
  rw [e3]
  have hsm : a % 4294967296 / C < D := by
    rw [Nat.div_lt_iff_lt_mul hC, hDC]; exact hy
  generalize a % 4294967296 / C = t at hsm
  generalize a / 4294967296 = h
  rw [Nat.add_mod, shl_limb0 hD hDC]
  have hle : (h % 4294967296 % C) * D + D ≤ 4294967296 := by
    have : h % 4294967296 % C + 1 ≤ C := Nat.mod_lt _ hC
    have := Nat.mul_le_mul_right D this
    rw [Nat.add_mul, Nat.one_mul, Nat.mul_comm C, hDC] at this
    exact this
  rw [Nat.mod_eq_of_lt (show t < 4294967296 by omega), Nat.mod_eq_of_lt (by omega)]
theorem shr_limb {A D C : Nat} (hD : 0 < D) (hDC : D * C = 4294967296) (p : Nat) : A / D / p % 4294967296 = (A / p % 4294967296 + 4294967296 * (A / (p * 4294967296) % 4294967296)) / D % 4294967296 := by
  rw [Nat.div_div_eq_div_mul, Nat.mul_comm D, ← Nat.div_div_eq_div_mul, ← Nat.div_div_eq_div_mul A p]
  generalize A / p = a
  have h1 : a = (a % 4294967296 + 4294967296 * (a / 4294967296 % 4294967296)) + D * (C * (4294967296 * (a / 4294967296 / 4294967296))) := by
    rw [← Nat.mul_assoc D, hDC]; omega
  generalize hq : a % 4294967296 + 4294967296 * (a / 4294967296 % 4294967296) = q at *
  generalize a / 4294967296 / 4294967296 = h at *
  rw [h1, Nat.add_mul_div_left _ _ hD, show C * (4294967296 * h) = 4294967296 * (C * h) by grind, Nat.add_mul_mod_self_left]
theorem SShlN {a s v : Nat} {K : Int → Prop} (hs : s < 32) (ha : a < 4294967296) (hv : v = a * 2 ^ s) (hk : K (v : Int)) : SGe (s : Int) (SWrap .u64 ((a : Int) * 2 ^ (min (s : Int).toNat (IntKind.bits .u64))) K) := by
  have hm : min (s : Int).toNat (IntKind.bits .u64) = s := by rw [Int.toNat_natCast]; exact Nat.min_eq_left (by show s ≤ 64; omega)
  rw [hm]
  refine .mk (by omega) (.u64z v (by rw [hv]; simp) ?_ hk)
  have h1 : 2 ^ s ≤ 2 ^ 31 := Nat.pow_le_pow_right (by omega) (by omega)
  have : a * 2 ^ s ≤ 4294967295 * 2 ^ 31 := Nat.mul_le_mul (by omega) h1
  omega
theorem SShrN {a s v : Nat} {K : Int → Prop} (hs : s < 32) (hv : v = a / 2 ^ s) (hk : K (v : Int)) : SGe (s : Int) (SZ ((a : Int).fdiv (2 ^ (min (s : Int).toNat (IntKind.bits .u64)))) K) := by
  have hm : min (s : Int).toNat (IntKind.bits .u64) = s := by rw [Int.toNat_natCast]; exact Nat.min_eq_left (by show s ≤ 64; omega)
  rw [hm]
  refine .mk (by omega) (.mk _ ?_ hk)
  rw [hv, Int.fdiv_eq_ediv_of_nonneg _ (Int.le_of_lt (Int.pow_pos (by decide)))]
  simp
theorem ofInt_toNat32 {n : Nat} (h : n < 4294967296) : (BitVec.ofInt 32 (n : Int)).toNat = n := by
  rw [BitVec.toNat_ofInt]; simp; omega
theorem SOrN {q s r v : Nat} {K : Int → Prop} (hx : q * 2 ^ s < 4294967296) (hr : r < 2 ^ s) (hr' : r < 4294967296) (hv : v = q * 2 ^ s + r) (hv' : v < 4294967296) (hk : K (v : Int)) :
    SWrap .u32 (((BitVec.ofInt (IntKind.bits .u32) ((q * 2 ^ s : Nat) : Int) ||| BitVec.ofInt (IntKind.bits .u32) (r : Int)).toNat : Nat) : Int) K := by
  refine .u32z v ?_ hk
  show (((BitVec.ofInt 32 ((q * 2 ^ s : Nat) : Int) ||| BitVec.ofInt 32 (r : Int)).toNat : Nat) : Int) % 4294967296 = _
  rw [BitVec.toNat_or, ofInt_toNat32 hx, ofInt_toNat32 hr', Nat.mul_comm, ← Nat.two_pow_add_eq_or_of_lt hr, Nat.mul_comm, ← hv]
  omega
theorem nlen_shl (a k : Nat) : nlen (a * 2 ^ k) ≤ nlen a + k / 32 + 1 := nlen_le (by
  have h1 := lt_nlen a
  have h2 : 2 ^ k < 4294967296 ^ (k / 32 + 1) := by
    rw [show (4294967296 : Nat) = 2 ^ 32 by decide, ← Nat.pow_mul]
    exact Nat.pow_lt_pow_right (by omega) (by omega)
  rw [Nat.add_assoc, Nat.pow_add]
  exact Nat.mul_lt_mul'' h1 h2)
theorem shl_ok (m : Bool) (a k : Nat) (ha : nlen a ≤ 274877906944) (hk : k ≤ 1048576) : CallP Tryz.prog 143 [natM m a, .int .i64 k] (.p (natP (a * 2 ^ k))) [] := by
  refine callG_of_vc (wr := wr0) Γok mixed Tryz.func143 (by kernel_rfl) rfl (by kernel_rfl) (le_of_ble rfl) (by simp) ?_
  refine SCmp.no (decide_eq_false (by omega)) ?_
  refine SCmp.no (decide_eq_false (by omega)) ?_
  obtain ⟨n, hn⟩ : ∃ n, n = k / 32 := ⟨_, rfl⟩
  obtain ⟨s, hs⟩ : ∃ s, s = k % 32 := ⟨_, rfl⟩
  have hs' : s < 32 := by omega
  have hk2 : 2 ^ k = 4294967296 ^ n * 2 ^ s := by
    rw [show (4294967296 : Nat) = 2 ^ 32 by decide, ← Nat.pow_mul, ← Nat.pow_add]; congr 1; omega
  refine SQuo (b := 32) (by omega) hn (by rw [IntKind.wrap_i64]; omega) ?_
  refine SRem (b := 32) (by omega) hs ?_
  obtain ⟨L, hL⟩ : ∃ L, L = nlen a + n + 1 := ⟨_, rfl⟩
  refine SZ.mk (nlen a) (by simp) ?_
  refine SWrap.i64z ((nlen a + n : Nat) : Int) (by omega) (by omega) ?_
  refine SWrap.i64z (L : Int) (by omega) (by omega) ?_
  refine SZ.mk L rfl ?_
  refine SLt.mk (by simp) ?_
  refine SMake.u32 L rfl (by omega) ?_
  refine SZ.mk L rfl ?_
  have hD : 0 < 2 ^ s := Nat.two_pow_pos s
  have hC : 0 < 2 ^ (32 - s) := Nat.two_pow_pos _
  have hDC := pow_split (s := s) (by omega)
  refine SLoop.mk (Nat × List Nat) (fun (i, out) => ([(0, .p (natM m a)), (1, .p (.int .i64 s)), (5, .p (.int .i64 n)), (6, .vec 0 1 0 L), (28, .p (.int .i64 L)), (29, .p (.int .i64 i))], [.vec 41 1 (limbs out)]))
    (fun (i, out) => i ≤ L ∧ out.length = L ∧ Lok out ∧ nv (out.take i) = a * 2 ^ k % 4294967296 ^ i) (fun x => L - x.1) (0, List.replicate L 0) [0]
    ⟨Nat.zero_le _, by simp, .replicate _, by simp [nv, Nat.mod_one]⟩
    ⟨rfl, by simp, rfl, rfl, rfl, ⟨rfl, rfl, rfl, rfl, rfl, rfl, trivial⟩, ⟨congrArg _ (limbs_replicate L).symm, trivial⟩⟩ ?_
  intro ⟨i, out⟩ ⟨h1, h3, h4, h5⟩
  by_cases hi : i < L
  · refine SCmp.yes (decide_eq_true (by omega)) ?_
    refine SWrap.i64z ((i : Int) - n) rfl (by omega) ?_
    refine SDraw.mk (by kernel_rfl) ?_
    -- the limbs that are seen
    obtain ⟨x, hx⟩ : ∃ x : Nat, x = if (n : Int) ≤ i then (nl a).getD (i - n) 0 else 0 := ⟨_, rfl⟩
    obtain ⟨y, hy⟩ : ∃ y : Nat, y = if (n : Int) + 1 ≤ i then (nl a).getD (i - n - 1) 0 else 0 := ⟨_, rfl⟩
    have lx : x < 4294967296 := by rw [hx]; split; exact getD_lt (nl_ok a) _; omega
    have ly : y < 4294967296 := by rw [hy]; split; exact getD_lt (nl_ok a) _; omega
    have hlimb : a * 2 ^ k / 4294967296 ^ i % 4294967296 = (x % 2 ^ (32 - s)) * 2 ^ s + y / 2 ^ (32 - s) := by
      rw [hk2, ← Nat.mul_assoc]
      rcases Nat.lt_trichotomy i n with hlt | heq | hgt
      · rw [hx, hy, if_neg (by omega), if_neg (by omega)]
        obtain ⟨t, rfl⟩ : ∃ t, n = i + (t + 1) := ⟨n - i - 1, by omega⟩
        rw [Nat.pow_add, show a * (4294967296 ^ i * 4294967296 ^ (t + 1)) * 2 ^ s = 4294967296 ^ i * (a * 4294967296 ^ (t + 1) * 2 ^ s) by grind, Nat.mul_div_cancel_left _ (pow_pos' i), Nat.pow_succ,
          show a * (4294967296 ^ t * 4294967296) * 2 ^ s = 4294967296 * (a * 4294967296 ^ t * 2 ^ s) by grind, Nat.mul_mod_right]
        simp
      · subst heq
        rw [hx, hy, if_pos (by omega), if_neg (by omega), nl_getD, show i - i = 0 by omega, Nat.pow_zero, Nat.div_one, Nat.zero_div, Nat.add_zero,
          show a * 4294967296 ^ i * 2 ^ s = 4294967296 ^ i * (a * 2 ^ s) by grind, Nat.mul_div_cancel_left _ (pow_pos' i)]
        exact shl_limb0 hD hDC
      · obtain ⟨t, rfl⟩ : ∃ t, i = n + (t + 1) := ⟨i - n - 1, by omega⟩
        rw [hx, hy, if_pos (by omega), if_pos (by omega), nl_getD, nl_getD, show n + (t + 1) - n = t + 1 by omega, show t + 1 - 1 = t by omega,
          Nat.pow_add, show a * 4294967296 ^ n * 2 ^ s = 4294967296 ^ n * (a * 2 ^ s) by grind, Nat.mul_div_mul_left _ _ (pow_pos' n), Nat.pow_succ]
        exact shl_limb (pow_pos' t) hD hDC
    iterate 4 refine SOp.mk _ _ (And.intro rfl rfl) rfl ?_
    refine SOp.mk _ _ (SCall.pure (at_ok m (nl a) (nl_ok a) ((i : Int) - n)) (And.intro rfl rfl)) rfl ?_
    rw [show (if 0 ≤ (i : Int) - n then (((nl a).getD ((i : Int) - n).toNat 0 : Nat) : Int) else 0) = (x : Int) by
      rw [hx]; by_cases h : (n : Int) ≤ i
      · rw [if_pos (by omega), if_pos h, show ((i : Int) - n).toNat = i - n by omega]
      · rw [if_neg (by omega), if_neg h]; rfl]
    iterate 1 refine SOp.mk _ _ (And.intro rfl rfl) rfl ?_
    refine SOp.mk _ _ (SShlN (v := x * 2 ^ s) hs' lx rfl (And.intro rfl rfl)) rfl ?_
    refine SOp.mk _ _ (SWrap.u32z (x % 2 ^ (32 - s) * 2 ^ s) (by
      have := shl_limb0 (A := x) hD hDC
      rw [Nat.mod_eq_of_lt lx] at this
      rw [← this]; omega) (And.intro rfl rfl)) rfl ?_
    iterate 2 refine SOp.mk _ _ (And.intro rfl rfl) rfl ?_
    refine SOp.mk _ _ (SWrap.i64z ((i : Int) - n - 1) rfl (by omega) (And.intro rfl rfl)) rfl ?_
    refine SOp.mk _ _ (SCall.pure (at_ok m (nl a) (nl_ok a) ((i : Int) - n - 1)) (And.intro rfl rfl)) rfl ?_
    rw [show (if 0 ≤ (i : Int) - n - 1 then (((nl a).getD ((i : Int) - n - 1).toNat 0 : Nat) : Int) else 0) = (y : Int) by
      rw [hy]; by_cases h : (n : Int) + 1 ≤ i
      · rw [if_pos (by omega), if_pos h, show ((i : Int) - n - 1).toNat = i - n - 1 by omega]
      · rw [if_neg (by omega), if_neg h]; rfl]
    iterate 1 refine SOp.mk _ _ (And.intro rfl rfl) rfl ?_
    refine SOp.mk _ _ (SShlN (v := y * 2 ^ s) hs' ly rfl (And.intro rfl rfl)) rfl ?_
    refine SOp.mk _ _ (SShr32 (And.intro rfl rfl)) rfl ?_
    have hyC : y * 2 ^ s / 4294967296 = y / 2 ^ (32 - s) := by rw [← hDC, Nat.mul_comm y, Nat.mul_div_mul_left _ _ hD]
    have hyD : y / 2 ^ (32 - s) < 2 ^ s := by rw [Nat.div_lt_iff_lt_mul hC, hDC]; exact ly
    have hDB : 2 ^ s ≤ 2147483648 := Nat.le_trans (Nat.pow_le_pow_right (by omega) (show s ≤ 31 by omega)) (by decide)
    have hxl : x % 2 ^ (32 - s) * 2 ^ s + 2 ^ s ≤ 4294967296 := by
      have : x % 2 ^ (32 - s) + 1 ≤ 2 ^ (32 - s) := Nat.mod_lt _ hC
      have := Nat.mul_le_mul_right (2 ^ s) this
      rw [Nat.add_mul, Nat.one_mul, Nat.mul_comm (2 ^ (32 - s)), hDC] at this
      exact this
    rw [hyC]
    obtain ⟨r, hr⟩ : ∃ r, r = y / 2 ^ (32 - s) := ⟨_, rfl⟩
    rw [← hr] at hyD hlimb ⊢
    refine SOp.mk _ _ (SWrap.u32z r (by omega) (And.intro rfl rfl)) rfl ?_
    refine SOp.mk _ _ (SOrN (by omega) hyD (by omega) hlimb (by rw [hlimb]; omega) (And.intro rfl rfl)) rfl ?_
    refine SOp.mk _ _ (SPos.mk i rfl hi (And.intro rfl rfl)) rfl ?_
    refine SOp.mk _ _ (SLt.set (by omega) (SEs.set (And.intro rfl rfl))) rfl ?_
    refine SWrap.i64z ((i + 1 : Nat) : Int) (by omega) (by omega) ?_
    refine ⟨(i + 1, out.set i (a * 2 ^ k / 4294967296 ^ i % 4294967296)), [0], ⟨hi, by simpa using h3, h4.set (Nat.mod_lt _ (by omega)), ?_⟩, by show L - (i + 1) < L - i; omega, ⟨rfl, by simp, rfl, rfl, rfl, ⟨rfl, rfl, rfl, rfl, rfl, rfl, trivial⟩, ⟨rfl, trivial⟩⟩⟩
    rw [nv_set_take (by omega), h5]
    exact Nat.mod_pow_succ.symm
  · refine SCmp.no (decide_eq_false (by omega)) ?_
    have hiL : i = L := by omega
    subst hiL
    rw [mod_big _ i (by have := nlen_shl a k; omega), List.take_of_length_le (by omega)] at h5
    refine SView.all (by simpa using h3.symm) ?_
    refine SCall.pure (cut_ok true out h4 (by omega)) ?_
    rw [h5]
    exact SRet.pure (.p _ (.sl _ _ (pers_limbs _)))
end Go.Proofs.YtnilcfiemgmfdaaGreat
namespace Go.Proofs.YtnilcfiemgmfdaaGreat
open Go
set_option linter.unusedVariables false
set_option maxRecDepth 10000
theorem SOr32r {x y S : Nat} {K : Int → Prop} (hx : x < 4294967296) (hy : y < 4294967296) (hS : S = x + 4294967296 * y) (hk : K (S : Int)) :
    SWrap .u64 (((BitVec.ofInt (IntKind.bits .u64) (x : Int) ||| BitVec.ofInt (IntKind.bits .u64) ((y * 4294967296 : Nat) : Int)).toNat : Nat) : Int) K := by
  refine .u64z S ?_ (by omega) hk
  show (((BitVec.ofInt 64 (x : Int) ||| BitVec.ofInt 64 ((y * 4294967296 : Nat) : Int)).toNat : Nat) : Int) = _
  rw [BitVec.toNat_or, ofInt_toNat64 (by omega), ofInt_toNat64 (by omega), Nat.or_comm, or_hi y x hx]
  omega
theorem shr_ok (m : Bool) (a k : Nat) (ha : nlen a ≤ 274877906944) (hk : k ≤ 1048576) : CallP Tryz.prog 196 [natM m a, .int .i64 k] (.p (natP (a / 2 ^ k))) [] := by
  refine callG_of_vc (wr := wr0) Γok mixed Tryz.func196 (by kernel_rfl) rfl (by kernel_rfl) (le_of_ble rfl) (by simp) ?_
  refine SCmp.no (decide_eq_false (by omega)) ?_
  refine SCmp.no (decide_eq_false (by omega)) ?_
  obtain ⟨n, hn⟩ : ∃ n, n = k / 32 := ⟨_, rfl⟩
  obtain ⟨s, hs⟩ : ∃ s, s = k % 32 := ⟨_, rfl⟩
  have hs' : s < 32 := by omega
  have hk2 : 2 ^ k = 4294967296 ^ n * 2 ^ s := by
    rw [show (4294967296 : Nat) = 2 ^ 32 by decide, ← Nat.pow_mul, ← Nat.pow_add]; congr 1; omega
  refine SQuo (b := 32) (by omega) hn (by rw [IntKind.wrap_i64]; omega) ?_
  refine SRem (b := 32) (by omega) hs ?_
  obtain ⟨L, hL⟩ : ∃ L, L = nlen a - n := ⟨_, rfl⟩
  refine SZ.mk (nlen a) (by simp) ?_
  refine SWrap.i64z ((nlen a : Int) - n) rfl (by omega) ?_
  refine SZ.mk (L : Int) (by show (if (0 : Int) > (nlen a : Int) - n then (0 : Int) else (nlen a : Int) - n) = _; split <;> omega) ?_
  refine SZ.mk L rfl ?_
  refine SLt.mk (by simp) ?_
  refine SMake.u32 L rfl (by omega) ?_
  refine SZ.mk L rfl ?_
  have hD : 0 < 2 ^ s := Nat.two_pow_pos s
  have hDC := pow_split (s := s) (by omega)
  refine SLoop.mk (Nat × List Nat) (fun (i, out) => ([(0, .p (natM m a)), (1, .p (.int .i64 s)), (5, .p (.int .i64 n)), (6, .vec 0 1 0 L), (27, .p (.int .i64 L)), (28, .p (.int .i64 i))], [.vec 41 1 (limbs out)]))
    (fun (i, out) => i ≤ L ∧ out.length = L ∧ Lok out ∧ nv (out.take i) = a / 2 ^ k % 4294967296 ^ i) (fun x => L - x.1) (0, List.replicate L 0) [0]
    ⟨Nat.zero_le _, by simp, .replicate _, by simp [nv, Nat.mod_one]⟩
    ⟨rfl, by simp, rfl, rfl, rfl, ⟨rfl, rfl, rfl, rfl, rfl, rfl, trivial⟩, ⟨congrArg _ (limbs_replicate L).symm, trivial⟩⟩ ?_
  intro ⟨i, out⟩ ⟨h1, h3, h4, h5⟩
  by_cases hi : i < L
  · refine SCmp.yes (decide_eq_true (by omega)) ?_
    refine SWrap.i64z ((i + n : Nat) : Int) (by omega) (by omega) ?_
    refine SCall.pure (at_ok m (nl a) (nl_ok a) ((i + n : Nat) : Int)) ?_
    refine SWrap.i64z ((i + n : Nat) : Int) (by omega) (by omega) ?_
    refine SWrap.i64z ((i + n + 1 : Nat) : Int) (by omega) (by omega) ?_
    refine SCall.pure (at_ok m (nl a) (nl_ok a) ((i + n + 1 : Nat) : Int)) ?_
    rw [if_pos (by omega), if_pos (by omega), Int.toNat_natCast, Int.toNat_natCast]
    obtain ⟨x, hx⟩ : ∃ x : Nat, x = (nl a).getD (i + n) 0 := ⟨_, rfl⟩
    obtain ⟨y, hy⟩ : ∃ y : Nat, y = (nl a).getD (i + n + 1) 0 := ⟨_, rfl⟩
    have lx : x < 4294967296 := by rw [hx]; exact getD_lt (nl_ok a) _
    have ly : y < 4294967296 := by rw [hy]; exact getD_lt (nl_ok a) _
    rw [← hx, ← hy]
    refine SShl32 ly ?_
    obtain ⟨S, hS⟩ : ∃ S, S = x + 4294967296 * y := ⟨_, rfl⟩
    refine SOr32r lx ly hS ?_
    obtain ⟨v, hv⟩ : ∃ v, v = S / 2 ^ s := ⟨_, rfl⟩
    refine SShrN hs' hv ?_
    have hlimb : a / 2 ^ k / 4294967296 ^ i % 4294967296 = v % 4294967296 := by
      rw [hv, hS, hx, hy, nl_getD, nl_getD, hk2, ← Nat.div_div_eq_div_mul, shr_limb hD hDC]
      rw [Nat.div_div_eq_div_mul, Nat.div_div_eq_div_mul, Nat.add_comm i n, Nat.add_assoc, Nat.pow_add, Nat.pow_add, Nat.pow_succ]
    refine SWrap.u32z (v % 4294967296) (by omega) ?_
    refine SPos.mk i rfl hi ?_
    refine SLt.set (by omega) ?_
    refine SEs.set ?_
    refine SWrap.i64z ((i + 1 : Nat) : Int) (by omega) (by omega) ?_
    refine ⟨(i + 1, out.set i (v % 4294967296)), [0], ⟨hi, by simpa using h3, h4.set (Nat.mod_lt _ (by omega)), ?_⟩, by show L - (i + 1) < L - i; omega, ⟨rfl, by simp, rfl, rfl, rfl, ⟨rfl, rfl, rfl, rfl, rfl, rfl, trivial⟩, ⟨rfl, trivial⟩⟩⟩
    rw [nv_set_take (by omega), h5, ← hlimb]
    exact Nat.mod_pow_succ.symm
  · refine SCmp.no (decide_eq_false (by omega)) ?_
    have hiL : i = L := by omega
    subst hiL
    have hlt : a / 2 ^ k < 4294967296 ^ i := by
      rw [hk2, ← Nat.div_div_eq_div_mul]
      refine Nat.lt_of_le_of_lt (Nat.div_le_self _ _) ?_
      rw [Nat.div_lt_iff_lt_mul (pow_pos' n), ← Nat.pow_add]
      exact Nat.lt_of_lt_of_le (lt_nlen a) (Nat.pow_le_pow_right (by omega) (by omega))
    rw [Nat.mod_eq_of_lt hlt, List.take_of_length_le (by omega)] at h5
    refine SView.all (by simpa using h3.symm) ?_
    refine SCall.pure (cut_ok true out h4 (by omega)) ?_
    rw [h5]
    exact SRet.pure (.p _ (.sl _ _ (pers_limbs _)))
end Go.Proofs.YtnilcfiemgmfdaaGreat
namespace Go.Proofs.YtnilcfiemgmfdaaGreat
open Go
set_option linter.unusedVariables false
set_option maxRecDepth 10000
/-- What is told of a guess: W what stands in the window, v = (v1, v2, rest), n - 2 limbs in the rest. -/
theorem guess_gt {W v p top u3 v1 v2 q r : Nat} (hp : 0 < p) (hW3 : W / p = top * 4294967296 + u3) (hV2 : v / p = v1 * 4294967296 + v2) (htop : top = q * v1 + r) (h : r * 4294967296 + u3 < q * v2) : W < q * v := by
  have h1 : W / p + 1 ≤ q * (v / p) := by
    rw [hW3, hV2, htop]
    have : (q * v1 + r) * 4294967296 + u3 + 1 ≤ q * (v1 * 4294967296 + v2) := by
      have e : q * (v1 * 4294967296 + v2) = q * v1 * 4294967296 + q * v2 := by grind
      rw [e, Nat.add_mul]; omega
    exact this
  have h2 := Nat.mul_le_mul_right p h1
  have h3 : W < (W / p + 1) * p := by
    rw [Nat.add_mul, Nat.one_mul, Nat.mul_comm]
    have := Nat.div_add_mod W p
    have := Nat.mod_lt W hp
    omega
  have h4 : q * (v / p) * p ≤ q * v := by
    rw [Nat.mul_assoc]; exact Nat.mul_le_mul_left _ (Nat.div_mul_le_self v p)
  omega
theorem guess_le {W v p top u3 v1 v2 q r : Nat} (hp : 0 < p) (hW3 : W / p = top * 4294967296 + u3) (hV2 : v / p = v1 * 4294967296 + v2) (hv1 : 0 < v1) (htop : top = q * v1 + r) (hq : q < 4294967296) (h : q * v2 ≤ r * 4294967296 + u3) : (q - 1) * v ≤ W := by
  rcases Nat.eq_zero_or_pos q with h0 | h0
  · subst h0; simp
  have h1 : q * (v / p) ≤ W / p := by
    rw [hW3, hV2, htop]
    have e : q * (v1 * 4294967296 + v2) = q * v1 * 4294967296 + q * v2 := by grind
    rw [e, Nat.add_mul]; omega
  have hV : 4294967296 ≤ v / p := by rw [hV2]; omega
  have h2 : (q - 1) * (v / p + 1) ≤ W / p := by
    obtain ⟨t, rfl⟩ : ∃ t, q = t + 1 := ⟨q - 1, by omega⟩
    rw [Nat.add_sub_cancel, Nat.mul_add]
    rw [Nat.add_mul] at h1
    omega
  have h3 : v ≤ (v / p + 1) * p := by
    rw [Nat.add_mul, Nat.one_mul, Nat.mul_comm]
    have := Nat.div_add_mod v p
    have := Nat.mod_lt v hp
    omega
  calc (q - 1) * v ≤ (q - 1) * ((v / p + 1) * p) := Nat.mul_le_mul_left _ h3
    _ = (q - 1) * (v / p + 1) * p := (Nat.mul_assoc _ _ _).symm
    _ ≤ W / p * p := Nat.mul_le_mul_right p h2
    _ ≤ W := Nat.div_mul_le_self W p
structure Guess (W v q : Nat) : Prop where
  lt : q < 4294967296
  lo : W < (q + 1) * v
  hi : (q - 1) * v ≤ W
/-- The guess, as it is made. -/
def gl (v1 v2 u3 : Nat) : Nat → Nat → Nat
  | 0, _ => 0
  | q + 1, r => if 4294967296 ≤ q + 1 ∨ r * 4294967296 + u3 < (q + 1) * v2 then (if 4294967296 ≤ r + v1 then q else gl v1 v2 u3 q (r + v1)) else q + 1
theorem gl_spec {W v p top u3 v1 v2 : Nat} (hp : 0 < p) (hW3 : W / p = top * 4294967296 + u3) (hV2 : v / p = v1 * 4294967296 + v2) (hv1 : 0 < v1) (hv2 : v2 < 4294967296) (hWv : W < v * 4294967296) (hb : top < (v1 + 1) * 4294967296) :
    ∀ q r, top = q * v1 + r → r < 4294967296 → W < (q + 1) * v → Guess W v (gl v1 v2 u3 q r) := by
  intro q
  induction q with
  | zero =>
    intro r h1 h2 h3
    simp only [gl]
    exact ⟨by omega, h3, by simp⟩
  | succ q ih =>
    intro r h1 h2 h3
    simp only [gl]
    by_cases hc : 4294967296 ≤ q + 1 ∨ r * 4294967296 + u3 < (q + 1) * v2
    · rw [if_pos hc]
      have hlo : W < (q + 1) * v := by
        rcases hc with hc | hc
        · refine Nat.lt_of_lt_of_le hWv ?_
          rw [Nat.mul_comm]; exact Nat.mul_le_mul_right v hc
        · exact guess_gt hp hW3 hV2 h1 hc
      have h1' : top = q * v1 + (r + v1) := by rw [h1, Nat.add_mul]; omega
      by_cases hr : 4294967296 ≤ r + v1
      · rw [if_pos hr]
        have hq : q < 4294967296 := by
          rcases Nat.lt_or_ge q 4294967296 with h | h
          · exact h
          · have := Nat.mul_le_mul_right v1 h
            rw [Nat.add_mul] at hb
            omega
        refine ⟨hq, hlo, guess_le hp hW3 hV2 hv1 h1' hq ?_⟩
        have a1 : q * v2 ≤ 4294967295 * 4294967295 := Nat.mul_le_mul (by omega) (by omega)
        have a2 := Nat.mul_le_mul_right 4294967296 hr
        omega
      · rw [if_neg hr]
        exact ih (r + v1) h1' (by omega) hlo
    · rw [if_neg hc]
      have hc1 : q + 1 < 4294967296 := by omega
      have hc2 : (q + 1) * v2 ≤ r * 4294967296 + u3 := by omega
      exact ⟨hc1, h3, guess_le hp hW3 hV2 hv1 h1 hc1 hc2⟩
theorem guess_ok (m m' : Bool) (us : List Nat) (v k n : Nat) (hus : Lok us) (hn : nlen v = n) (hn2 : 2 ≤ n) (hk : k + n + 1 ≤ us.length) (hlen : us.length ≤ 549755813888) (hlt : nv us < v * 4294967296 ^ (k + 1)) (hwin : nv us < 4294967296 ^ (k + n + 1)) :
    ∃ q, Guess (nv us / 4294967296 ^ k) v q ∧ CallP Tryz.prog 193 [.sl m 1 (limbs us), natM m' v, .int .i64 k] (.p (.int .u64 q)) [] := by
  -- W: what stands in the window
  obtain ⟨W, hWd⟩ : ∃ W, W = nv us / 4294967296 ^ k := ⟨_, rfl⟩
  obtain ⟨t, rfl⟩ : ∃ t, n = t + 2 := ⟨n - 2, by omega⟩
  have hW : W < v * 4294967296 := by
    rw [hWd, Nat.div_lt_iff_lt_mul (pow_pos' k), Nat.mul_assoc]
    rw [Nat.pow_succ, Nat.mul_comm (4294967296 ^ k)] at hlt
    exact hlt
  have hg : ∀ j, us.getD (k + j) 0 = W / 4294967296 ^ j % 4294967296 := fun j => by rw [getD_nv hus, Nat.pow_add, ← Nat.div_div_eq_div_mul, ← hWd]
  have hv0 : v ≠ 0 := by intro h; rw [h] at hn; simp [nlen, nl_zero] at hn
  obtain ⟨u1, hu1⟩ : ∃ x, x = us.getD (k + t + 2) 0 := ⟨_, rfl⟩
  obtain ⟨u2, hu2⟩ : ∃ x, x = us.getD (k + t + 1) 0 := ⟨_, rfl⟩
  obtain ⟨u3, hu3⟩ : ∃ x, x = us.getD (k + t) 0 := ⟨_, rfl⟩
  obtain ⟨v1, hv1⟩ : ∃ x, x = (nl v).getD (t + 1) 0 := ⟨_, rfl⟩
  obtain ⟨v2, hv2⟩ : ∃ x, x = (nl v).getD t 0 := ⟨_, rfl⟩
  have lu1 : u1 < 4294967296 := by rw [hu1]; exact getD_lt hus _
  have lu2 : u2 < 4294967296 := by rw [hu2]; exact getD_lt hus _
  have lu3 : u3 < 4294967296 := by rw [hu3]; exact getD_lt hus _
  have lv1 : v1 < 4294967296 := by rw [hv1]; exact getD_lt (nl_ok v) _
  have lv2 : v2 < 4294967296 := by rw [hv2]; exact getD_lt (nl_ok v) _
  have hv1p : 0 < v1 := by
    have := nl_last hv0
    rw [show (nl v).length - 1 = t + 1 by show nlen v - 1 = t + 1; omega, ← hv1] at this
    omega
  have hp := pow_pos' t
  have hvt : v < 4294967296 ^ (t + 2) := by have := lt_nlen v; rw [hn] at this; exact this
  have hV2 : v / 4294967296 ^ t = v1 * 4294967296 + v2 := by
    rw [hv1, hv2, nl_getD, nl_getD, Nat.pow_succ, ← Nat.div_div_eq_div_mul]
    have : v / 4294967296 ^ t < 4294967296 * 4294967296 := by
      rw [Nat.div_lt_iff_lt_mul hp]
      rw [Nat.pow_succ, Nat.pow_succ] at hvt
      rw [show 4294967296 * 4294967296 * 4294967296 ^ t = 4294967296 ^ t * 4294967296 * 4294967296 by grind]
      exact hvt
    generalize v / 4294967296 ^ t = x at this ⊢
    omega
  have hWt : W < 4294967296 ^ (t + 3) := by
    rw [hWd, Nat.div_lt_iff_lt_mul (pow_pos' k), ← Nat.pow_add]
    rw [show t + 3 + k = k + (t + 2) + 1 by omega]; exact hwin
  obtain ⟨top, htop⟩ : ∃ top, top = u1 * 4294967296 + u2 := ⟨_, rfl⟩
  have hW3 : W / 4294967296 ^ t = top * 4294967296 + u3 := by
    rw [htop, hu1, hu2, hu3, Nat.add_assoc k t 2, Nat.add_assoc k t 1, hg, hg, hg, Nat.pow_add, Nat.pow_add, ← Nat.div_div_eq_div_mul, ← Nat.div_div_eq_div_mul]
    have : W / 4294967296 ^ t < 4294967296 * 4294967296 * 4294967296 := by
      rw [Nat.div_lt_iff_lt_mul hp]
      rw [Nat.pow_succ, Nat.pow_succ, Nat.pow_succ] at hWt
      rw [show 4294967296 * 4294967296 * 4294967296 * 4294967296 ^ t = 4294967296 ^ t * 4294967296 * 4294967296 * 4294967296 by grind]
      exact hWt
    generalize W / 4294967296 ^ t = x at this ⊢
    rw [show (4294967296 : Nat) ^ 2 = 18446744073709551616 by decide, show (4294967296 : Nat) ^ 1 = 4294967296 by decide]
    omega
  -- top is less than (v1 + 1) * B
  have htopb : top < (v1 + 1) * 4294967296 := by
    have h1 : W / 4294967296 ^ t < (v / 4294967296 ^ t + 1) * 4294967296 := by
      rw [Nat.div_lt_iff_lt_mul hp]
      refine Nat.lt_of_lt_of_le hW ?_
      have : v ≤ (v / 4294967296 ^ t + 1) * 4294967296 ^ t := by
        have h1 := Nat.div_add_mod v (4294967296 ^ t)
        have h2 := Nat.mod_lt v hp
        rw [Nat.add_mul, Nat.one_mul, Nat.mul_comm (v / 4294967296 ^ t)]
        omega
      have := Nat.mul_le_mul_right 4294967296 this
      rw [Nat.mul_assoc, Nat.mul_comm (4294967296 ^ t), ← Nat.mul_assoc] at this
      exact this
    rw [hW3, hV2] at h1
    omega
  have hq0 : top = top / v1 * v1 + top % v1 := by have := Nat.div_add_mod top v1; rw [Nat.mul_comm] at this; omega
  have hr0 : top % v1 < v1 := Nat.mod_lt _ hv1p
  have hlo0 : W < (top / v1 + 1) * v := by
    have h1 : top + 1 ≤ (top / v1 + 1) * v1 := by rw [Nat.add_mul]; omega
    have h2 : W / 4294967296 ^ t < (top / v1 + 1) * (v / 4294967296 ^ t) := by
      rw [hW3, hV2]
      have := Nat.mul_le_mul_right 4294967296 h1
      rw [Nat.mul_add, ← Nat.mul_assoc]
      omega
    have h3 := Nat.mul_le_mul_right (4294967296 ^ t) (Nat.succ_le_of_lt h2)
    have h4 : (top / v1 + 1) * (v / 4294967296 ^ t) * 4294967296 ^ t ≤ (top / v1 + 1) * v := by rw [Nat.mul_assoc]; exact Nat.mul_le_mul_left _ (Nat.div_mul_le_self v _)
    have h5 := Nat.div_add_mod W (4294967296 ^ t)
    have h6 := Nat.mod_lt W hp
    rw [Nat.succ_mul, Nat.mul_comm (W / 4294967296 ^ t)] at h3
    omega
  refine ⟨gl v1 v2 u3 (top / v1) (top % v1), by rw [← hWd]; exact gl_spec hp hW3 hV2 hv1p lv2 hW htopb _ _ hq0 (by omega) hlo0, ?_⟩
  obtain ⟨Q, hQ⟩ : ∃ Q, Q = gl v1 v2 u3 (top / v1) (top % v1) := ⟨_, rfl⟩
  rw [← hQ]
  have hvl : (nl v).length = t + 2 := hn
  refine callG_of_vc (wr := wr0) Γok mixed Tryz.func193 (by kernel_rfl) rfl (by kernel_rfl) (le_of_ble rfl) (by simp) ?_
  refine SZ.mk ((t + 2 : Nat) : Int) (by simp [hvl]) ?_
  refine SDraw.mk (by kernel_rfl) ?_
  iterate 3 refine SOp.mk _ _ (And.intro rfl rfl) rfl ?_
  refine SOp.mk _ _ (SWrap.i64z ((k + t + 2 : Nat) : Int) (by omega) (by omega) (And.intro rfl rfl)) rfl ?_
  refine SOp.mk _ _ (SIdx.lb (k + t + 2) rfl (by omega) (And.intro rfl rfl)) rfl ?_
  iterate 1 refine SOp.mk _ _ (And.intro rfl rfl) rfl ?_
  rw [← hu1]
  refine SOp.mk _ _ (SWrap.u64z u1 rfl (by omega) (And.intro rfl rfl)) rfl ?_
  refine SOp.mk _ _ (SShl32 lu1 (And.intro rfl rfl)) rfl ?_
  iterate 3 refine SOp.mk _ _ (And.intro rfl rfl) rfl ?_
  refine SOp.mk _ _ (SWrap.i64z ((k + t + 2 : Nat) : Int) (by omega) (by omega) (And.intro rfl rfl)) rfl ?_
  refine SOp.mk _ _ (SWrap.i64z ((k + t + 1 : Nat) : Int) (by omega) (by omega) (And.intro rfl rfl)) rfl ?_
  refine SOp.mk _ _ (SIdx.lb (k + t + 1) rfl (by omega) (And.intro rfl rfl)) rfl ?_
  iterate 1 refine SOp.mk _ _ (And.intro rfl rfl) rfl ?_
  rw [← hu2]
  refine SOp.mk _ _ (SWrap.u64z u2 rfl (by omega) (And.intro rfl rfl)) rfl ?_
  refine SOp.mk _ _ (SOr32 lu1 lu2 htop (And.intro rfl rfl)) rfl ?_
  iterate 1 refine SOp.mk _ _ (And.intro rfl rfl) rfl ?_
  refine SWrap.i64z ((t + 1 : Nat) : Int) (by omega) (by omega) ?_
  refine SIdx.lb (t + 1) rfl (by omega) ?_
  rw [← hv1]
  refine SWrap.u64z v1 rfl (by omega) ?_
  obtain ⟨q0, hq0'⟩ : ∃ q, q = top / v1 := ⟨_, rfl⟩
  obtain ⟨r0, hr0'⟩ : ∃ r, r = top % v1 := ⟨_, rfl⟩
  rw [← hq0'] at hQ
  rw [← hr0'] at hQ hr0
  have hq0b : q0 ≤ top := by rw [hq0']; exact Nat.div_le_self _ _
  refine SQuo (by omega) hq0' (wrap_u64_id (by omega)) ?_
  refine SWrap.i64z ((t + 1 : Nat) : Int) (by omega) (by omega) ?_
  refine SIdx.lb (t + 1) rfl (by omega) ?_
  rw [← hv1]
  refine SWrap.u64z v1 rfl (by omega) ?_
  refine SRem (by omega) hr0' ?_
  refine SLoop.mk (Nat × Nat) (fun (q, r) => ([(0, .p (.sl m 1 (limbs us))), (1, .p (natM m' v)), (2, .p (.int .i64 k)), (7, .p (.int .i64 ((t + 2 : Nat) : Int))), (9, .p (.int .u64 q)), (10, .p (.int .u64 r))], []))
    (fun (q, r) => q ≤ q0 ∧ r < 4294967296 ∧ gl v1 v2 u3 q r = Q) (fun x => x.1) (q0, r0) []
    ⟨Nat.le_refl _, by omega, hQ.symm⟩ ⟨rfl, .nil, rfl, rfl, rfl, ⟨rfl, rfl, rfl, rfl, rfl, rfl, trivial⟩, trivial⟩ ?_
  intro ⟨q, r⟩ ⟨h1, h2, h3⟩
  refine SDraw.mk (by kernel_rfl) ?_
  iterate 1 refine SOp.mk _ _ (And.intro rfl rfl) rfl ?_
  refine SOp.mk _ _ (SShr32 (And.intro rfl rfl)) rfl ?_
  by_cases hqB : 4294967296 ≤ q
  · refine SOp.mk _ _ (SCmp.yes (decide_eq_true (by omega)) (And.intro rfl rfl)) rfl ?_
    iterate 2 refine SOp.mk _ _ (And.intro rfl rfl) rfl ?_
    obtain ⟨q, rfl⟩ : ∃ q', q = q' + 1 := ⟨q - 1, by omega⟩
    simp only [gl] at h3
    rw [if_pos (.inl hqB)] at h3
    refine SWrap.u64z q (by omega) (by omega) ?_
    refine SWrap.i64z ((t + 1 : Nat) : Int) (by omega) (by omega) ?_
    refine SIdx.lb (t + 1) rfl (by omega) ?_
    rw [← hv1]
    refine SWrap.u64z v1 rfl (by omega) ?_
    refine SWrap.u64z (r + v1) (by omega) (by omega) ?_
    refine SShr32 ?_
    by_cases hr : 4294967296 ≤ r + v1
    · rw [if_pos hr] at h3
      subst h3
      refine SCmp.yes (decide_eq_true (by omega)) ?_
      exact SRet.pure (.p _ (.int _ _))
    · rw [if_neg hr] at h3
      refine SCmp.no (decide_eq_false (by omega)) ?_
      exact ⟨(q, r + v1), [], ⟨by omega, by omega, h3⟩, Nat.lt_succ_self q, ⟨rfl, .nil, rfl, rfl, rfl, ⟨rfl, rfl, rfl, rfl, rfl, rfl, trivial⟩, trivial⟩⟩
  · refine SOp.mk _ _ (SCmp.no (decide_eq_false (by omega)) (And.intro rfl rfl)) rfl ?_
    iterate 4 refine SOp.mk _ _ (And.intro rfl rfl) rfl ?_
    refine SOp.mk _ _ (SWrap.i64z (t : Int) (by omega) (by omega) (And.intro rfl rfl)) rfl ?_
    refine SOp.mk _ _ (SIdx.lb t rfl (by omega) (And.intro rfl rfl)) rfl ?_
    iterate 1 refine SOp.mk _ _ (And.intro rfl rfl) rfl ?_
    rw [← hv2]
    refine SOp.mk _ _ (SWrap.u64z v2 rfl (by omega) (And.intro rfl rfl)) rfl ?_
    have hqv := mul_le (show q < 4294967296 by omega) lv2
    refine SOp.mk _ _ (SWrap.u64z (q * v2) (Int.natCast_mul q v2).symm (by omega) (And.intro rfl rfl)) rfl ?_
    iterate 1 refine SOp.mk _ _ (And.intro rfl rfl) rfl ?_
    refine SOp.mk _ _ (SShl32 h2 (And.intro rfl rfl)) rfl ?_
    iterate 3 refine SOp.mk _ _ (And.intro rfl rfl) rfl ?_
    refine SOp.mk _ _ (SWrap.i64z ((k + t + 2 : Nat) : Int) (by omega) (by omega) (And.intro rfl rfl)) rfl ?_
    refine SOp.mk _ _ (SWrap.i64z ((k + t : Nat) : Int) (by omega) (by omega) (And.intro rfl rfl)) rfl ?_
    refine SOp.mk _ _ (SIdx.lb (k + t) rfl (by omega) (And.intro rfl rfl)) rfl ?_
    iterate 1 refine SOp.mk _ _ (And.intro rfl rfl) rfl ?_
    rw [← hu3]
    refine SOp.mk _ _ (SWrap.u64z u3 rfl (by omega) (And.intro rfl rfl)) rfl ?_
    obtain ⟨S, hS⟩ : ∃ S, S = r * 4294967296 + u3 := ⟨_, rfl⟩
    refine SOp.mk _ _ (SOr32 h2 lu3 hS (And.intro rfl rfl)) rfl ?_
    by_cases hc : S < q * v2
    · refine SOp.mk _ _ (SCmp.yes (decide_eq_true (Int.ofNat_lt.2 hc)) (And.intro rfl rfl)) rfl ?_
      iterate 1 refine SOp.mk _ _ (And.intro rfl rfl) rfl ?_
      have hq0n : q ≠ 0 := fun e => by rw [e] at hc; simp at hc
      obtain ⟨q, rfl⟩ : ∃ q', q = q' + 1 := ⟨q - 1, by omega⟩
      simp only [gl] at h3
      rw [if_pos (.inr (by rw [← hS]; exact hc))] at h3
      refine SWrap.u64z q (by omega) (by omega) ?_
      refine SWrap.i64z ((t + 1 : Nat) : Int) (by omega) (by omega) ?_
      refine SIdx.lb (t + 1) rfl (by omega) ?_
      rw [← hv1]
      refine SWrap.u64z v1 rfl (by omega) ?_
      refine SWrap.u64z (r + v1) (by omega) (by omega) ?_
      refine SShr32 ?_
      by_cases hr : 4294967296 ≤ r + v1
      · rw [if_pos hr] at h3
        subst h3
        refine SCmp.yes (decide_eq_true (by omega)) ?_
        exact SRet.pure (.p _ (.int _ _))
      · rw [if_neg hr] at h3
        refine SCmp.no (decide_eq_false (by omega)) ?_
        exact ⟨(q, r + v1), [], ⟨by omega, by omega, h3⟩, Nat.lt_succ_self q, ⟨rfl, .nil, rfl, rfl, rfl, ⟨rfl, rfl, rfl, rfl, rfl, rfl, trivial⟩, trivial⟩⟩
    · refine SOp.mk _ _ (SCmp.no (decide_eq_false (fun h => hc (Int.ofNat_lt.1 h))) (And.intro rfl rfl)) rfl ?_
      iterate 1 refine SOp.mk _ _ (And.intro rfl rfl) rfl ?_
      have : q = Q := by
        cases q with
        | zero => exact h3
        | succ q =>
          simp only [gl] at h3
          rw [if_neg (by rw [← hS]; omega)] at h3
          exact h3
      subst this
      exact SRet.pure (.p _ (.int _ _))
end Go.Proofs.YtnilcfiemgmfdaaGreat
namespace Go.Proofs.YtnilcfiemgmfdaaGreat
open Go
set_option linter.unusedVariables false
set_option maxRecDepth 10000
/-- L limbs of a number. -/
def dg : Nat → Nat → List Nat
  | 0, _ => []
  | L + 1, n => n % 4294967296 :: dg L (n / 4294967296)
theorem dg_length (L n : Nat) : (dg L n).length = L := by
  induction L generalizing n with
  | zero => rfl
  | succ L ih => simp [dg, ih]
theorem dg_ok (L n : Nat) : Lok (dg L n) := by
  induction L generalizing n with
  | zero => exact .nil
  | succ L ih => exact .cons (Nat.mod_lt _ (by omega)) (ih _)
theorem nv_dg {L n : Nat} (h : n < 4294967296 ^ L) : nv (dg L n) = n := by
  induction L generalizing n with
  | zero => simp at h; subst h; rfl
  | succ L ih =>
    have : n / 4294967296 < 4294967296 ^ L := by rw [Nat.pow_succ] at h; omega
    simp only [dg, nv, ih this]; omega
theorem dg_nv {l : List Nat} (h : Lok l) : dg l.length (nv l) = l := by
  induction l with
  | nil => rfl
  | cons x l ih =>
    have hx := h.head
    simp only [List.length_cons, dg, nv]
    rw [show (x + 4294967296 * nv l) / 4294967296 = nv l by omega, show (x + 4294967296 * nv l) % 4294967296 = x by omega, ih h.tail]
theorem nv_split (l : List Nat) (n : Nat) : nv l = nv (l.take n) + 4294967296 ^ min n l.length * nv (l.drop n) := by
  conv => lhs; rw [← List.take_append_drop n l]
  rw [nv_append, List.length_take]
theorem look_one {B : Blk} (hB : B.isPool = false) {h : Hd} (hl : look [B] h ≠ .free) : h = 0 := by
  have hk := look_lt hl
  cases h with
  | t n => have : n = 0 := by simp [Hd.key] at hk; exact hk
           subst this; rfl
  | r n k =>
    have : n = 0 := by simp [Hd.key] at hk; exact hk
    subst this
    exfalso
    apply hl
    cases B <;> first | rfl | cases hB
theorem SRet.one {av r : AV} {H : Hp} {T : TypeId} {W : Nat} {es es0 : List PV} (h0 : look H 0 = .vec T W es) (hp : ∀ e ∈ es, ∀ c ∈ e.cells, Pers c) (h : Conv [0] H av r) : SRet [.vec T W es0] av H r [.vec T W es] :=
  .mk [0] rfl (by simp) rfl (Nat.le_refl _) (fun h hl => by rw [look_one rfl (Blk.live_ne hl), h0]; trivial) (fun h hl => by rw [look_one rfl hl, h0]; exact fun e => by cases e)
    (fun i h B e1 e2 => by
      cases i with
      | zero =>
        cases e1; cases e2
        have e : H.getD 0 .free = .vec T W es := by
          have h0 : (H.getD 0 .free).top = _ := h0
          generalize H.getD 0 .free = C at h0
          cases C <;> first | exact h0 | cases h0
        rw [e]; exact .vec hp
      | succ i => simp at e1) h
theorem take_step {u u' U q vm y c bw bw' p o d tot pk : Nat} (hset : u' + (pk * p) * o = u + (pk * p) * (d % 4294967296)) (h : u + q * vm * pk = U + (bw + c) * (pk * p)) (ht : tot = c + q * y)
    (hd : o + 4294967296 * bw' = d % 4294967296 + tot % 4294967296 + bw) :
    u' + q * (vm + p * y) * pk = U + (bw' + tot / 4294967296) * (pk * (p * 4294967296)) := by
  have h1 : tot = tot % 4294967296 + 4294967296 * (tot / 4294967296) := by omega
  generalize tot / 4294967296 = c' at h1 ⊢
  generalize tot % 4294967296 = lo at h1 hd
  generalize d % 4294967296 = x at hset hd
  have e : u' + q * (vm + p * y) * pk + (pk * p) * o = U + (bw' + c') * (pk * (p * 4294967296)) + (pk * p) * o := by
    have h2 : (pk * p) * (o + 4294967296 * bw') = (pk * p) * (x + lo + bw) := by rw [hd]
    have h3 : (pk * p) * (c + q * y) = (pk * p) * (lo + 4294967296 * c') := by rw [← h1, ht]
    grind
  omega
theorem take_ok (m' : Bool) (L U v k n q : Nat) (hn : nlen v = n) (hk : k + n + 1 ≤ L) (hlen : L ≤ 549755813888) (hq : q < 4294967296) (hwin : U < 4294967296 ^ (k + n + 1)) :
    CallG Tryz.prog 194 [.vec 0 1 0 L, .p (natM m' v), .p (.int .i64 k), .p (.int .u64 q)] [.vec 41 1 (limbs (dg L U))] (.p (.bool (decide (U < q * v * 4294967296 ^ k))))
      [.vec 41 1 (limbs (dg L (U + (if U < q * v * 4294967296 ^ k then 4294967296 ^ (k + n + 1) else 0) - q * v * 4294967296 ^ k)))] := by
  have hvl : (nl v).length = n := hn
  have hUL : U < 4294967296 ^ L := Nat.lt_of_lt_of_le hwin (Nat.pow_le_pow_right (by omega) hk)
  refine callG_of_vc (wr := wr0) Γok mixed Tryz.func194 (by kernel_rfl) rfl (by kernel_rfl) (le_of_ble rfl) (by intro B hB; simp at hB; subst hB; exact fun e => by cases e) ?_
  refine SZ.mk (n : Int) (by simp [hvl]) ?_
  refine SWrap.i64z ((n + 1 : Nat) : Int) (by omega) (by omega) ?_
  refine SLoop.mk (Nat × Nat × Nat × List Nat) (fun (i, c, bw, us) => ([(0, .vec 0 1 0 L), (1, .p (natM m' v)), (2, .p (.int .i64 k)), (3, .p (.int .u64 q)), (9, .p (.int .u64 c)), (10, .p (.int .u64 bw)), (15, .p (.int .i64 ((n + 1 : Nat) : Int))), (16, .p (.int .i64 i))], [.vec 41 1 (limbs us)]))
    (fun (i, c, bw, us) => i ≤ n + 1 ∧ bw ≤ 1 ∧ c = q * (v % 4294967296 ^ i) / 4294967296 ^ i ∧ us.length = L ∧ Lok us ∧ nv (us.drop (k + n + 1)) = 0 ∧ nv us + q * (v % 4294967296 ^ i) * 4294967296 ^ k = U + (bw + c) * (4294967296 ^ k * 4294967296 ^ i)) (fun x => n + 1 - x.1) (0, 0, 0, dg L U) [0]
    ⟨Nat.zero_le _, Nat.zero_le _, by simp [Nat.mod_one], dg_length _ _, dg_ok _ _, ?_, by simp [Nat.mod_one, nv_dg hUL]⟩
    ⟨rfl, by simp, rfl, rfl, rfl, ⟨rfl, rfl, rfl, rfl, rfl, rfl, rfl, rfl, trivial⟩, ⟨rfl, trivial⟩⟩ ?_
  · have h1 := nv_split (dg L U) (k + n + 1)
    rw [nv_dg hUL, dg_length, Nat.min_eq_left hk] at h1
    rcases Nat.eq_zero_or_pos (nv ((dg L U).drop (k + n + 1))) with h | h
    · exact h
    · have := Nat.mul_le_mul_left (4294967296 ^ (k + n + 1)) h
      omega
  intro ⟨i, c, bw, us⟩ ⟨h1, h2, h3, h4, h5, h6, h7⟩
  have hcB : c < 4294967296 := by
    rw [h3, Nat.div_lt_iff_lt_mul (pow_pos' i)]
    exact Nat.mul_lt_mul'' hq (Nat.mod_lt _ (pow_pos' i))
  by_cases hi : i < n + 1
  · refine SCmp.yes (decide_eq_true (by omega)) ?_
    refine SCall.pure (at_ok m' (nl v) (nl_ok v) i) ?_
    rw [if_pos (Int.natCast_nonneg i), Int.toNat_natCast]
    have e2 := nl_getD v i
    have l2 : (nl v).getD i 0 < 4294967296 := getD_lt (nl_ok v) i
    have l3 : us.getD (k + i) 0 < 4294967296 := getD_lt h5 (k + i)
    obtain ⟨y, hy⟩ : ∃ y, y = (nl v).getD i 0 := ⟨_, rfl⟩
    rw [← hy] at e2 l2 ⊢
    have hqy := mul_le hq l2
    refine SWrap.u64z (q * y) (Int.natCast_mul q y).symm (by omega) ?_
    obtain ⟨tot, htot⟩ : ∃ tot, tot = c + q * y := ⟨_, rfl⟩
    refine SWrap.u64z tot (by omega) (by omega) ?_
    refine SWrap.i64z ((k + i : Nat) : Int) (by omega) (by omega) ?_
    refine SPos.mk (k + i) rfl (by omega) ?_
    refine SIdx.setget (i := k + i) (by omega) ?_
    obtain ⟨o, ho⟩ : ∃ o, o = us.getD (k + i) 0 := ⟨_, rfl⟩
    rw [← ho] at l3 ⊢
    refine SWrap.u64z o rfl (by omega) ?_
    refine SWrap.u32z (tot % 4294967296) (by omega) ?_
    refine SWrap.u64z (tot % 4294967296) rfl (by omega) ?_
    refine SWrap.u64m ?_
    obtain ⟨d, hd⟩ : ∃ d, d = (o + 36893488147419103232 - tot % 4294967296 - bw) % 18446744073709551616 := ⟨_, rfl⟩
    refine SWrap.u64w d (by omega) ?_
    have hs : o + 4294967296 * (d / 9223372036854775808) = d % 4294967296 + tot % 4294967296 + bw := by omega
    have hb' : d / 9223372036854775808 ≤ 1 := by omega
    refine SWrap.i64z ((k + i : Nat) : Int) (by omega) (by omega) ?_
    refine SWrap.u32z (d % 4294967296) (by omega) ?_
    refine SPos.mk (k + i) rfl (by omega) ?_
    refine SLt.set (by omega) ?_
    refine SEs.set ?_
    refine SShr32 ?_
    refine SShr63 ?_
    refine SWrap.i64z ((i + 1 : Nat) : Int) (by omega) (by omega) ?_
    refine ⟨(i + 1, tot / 4294967296, d / 9223372036854775808, us.set (k + i) (d % 4294967296)), [0], ⟨hi, hb', ?_, by simpa using h4, h5.set (Nat.mod_lt _ (by omega)), ?_, ?_⟩, by show n + 1 - (i + 1) < n + 1 - i; omega,
      ⟨rfl, by simp, rfl, rfl, rfl, ⟨rfl, rfl, rfl, rfl, rfl, rfl, rfl, rfl, trivial⟩, ⟨rfl, trivial⟩⟩⟩
    · have hb2 : v % 4294967296 ^ (i + 1) = v % 4294967296 ^ i + 4294967296 ^ i * (v / 4294967296 ^ i % 4294967296) := Nat.mod_pow_succ
      rw [hb2, ← e2, Nat.pow_succ, ← Nat.div_div_eq_div_mul, Nat.mul_add, show q * (4294967296 ^ i * y) = 4294967296 ^ i * (q * y) by grind, Nat.add_mul_div_left _ _ (pow_pos' i), ← h3, htot]
    · rw [List.drop_set_of_lt (by omega)]; exact h6
    · have hs' := nv_set us (k + i) (d % 4294967296) (by omega)
      rw [← ho, Nat.pow_add] at hs'
      have hb2 : v % 4294967296 ^ (i + 1) = v % 4294967296 ^ i + 4294967296 ^ i * (v / 4294967296 ^ i % 4294967296) := Nat.mod_pow_succ
      rw [hb2, ← e2, Nat.pow_succ]
      exact take_step hs' h7 htot hs
  · refine SCmp.no (decide_eq_false (by omega)) ?_
    have hin : i = n + 1 := by omega
    subst hin
    have hvn : v % 4294967296 ^ (n + 1) = v := mod_big v (n + 1) (by omega)
    have hvlt : v < 4294967296 ^ n := by have := lt_nlen v; rwa [hn] at this
    have hc0 : c = 0 := by
      rw [h3, hvn]
      refine Nat.div_eq_of_lt ?_
      rw [Nat.pow_succ, Nat.mul_comm]
      exact Nat.mul_lt_mul'' hvlt hq
    subst hc0
    rw [hvn, Nat.add_zero, ← Nat.pow_add, show k + (n + 1) = k + n + 1 by omega] at h7
    have hus : nv us < 4294967296 ^ (k + n + 1) := by
      have h8 := nv_split us (k + n + 1)
      rw [h6, Nat.mul_zero, Nat.add_zero] at h8
      rw [h8]
      have := nv_lt (h5.take (k + n + 1))
      rwa [List.length_take, Nat.min_eq_left (by omega)] at this
    generalize hX : q * v * 4294967296 ^ k = X at h7 ⊢
    generalize hP : 4294967296 ^ (k + n + 1) = Pw at h7 hus hwin ⊢
    have hfin : ∀ V, nv us = V → us = dg L V := fun V e => by rw [← e, ← h4, dg_nv h5]
    rcases Nat.eq_zero_or_pos bw with hb | hb
    · subst hb
      have hle : ¬ U < X := by omega
      refine SCmp.no (decide_eq_false (by omega)) ?_
      rw [if_neg hle, decide_eq_false hle, ← hfin (U + 0 - X) (by omega)]
      exact SRet.one rfl (pers_limbs us) (.tf false)
    · have hb1 : bw = 1 := by omega
      subst hb1
      have hlt : U < X := by omega
      refine SCmp.yes (decide_eq_true (by omega)) ?_
      rw [if_pos hlt, decide_eq_true hlt, ← hfin (U + Pw - X) (by omega)]
      exact SRet.one rfl (pers_limbs us) (.tf true)
end Go.Proofs.YtnilcfiemgmfdaaGreat
namespace Go.Proofs.YtnilcfiemgmfdaaGreat
open Go
set_option linter.unusedVariables false
set_option maxRecDepth 10000
theorem back_step {u u' U vm y c o tot p pk : Nat} (hset : u' + (pk * p) * o = u + (pk * p) * (tot % 4294967296)) (h : u + c * (pk * p) = U + vm * pk) (ht : tot = c + (o + y)) :
    u' + tot / 4294967296 * (pk * (p * 4294967296)) = U + (vm + p * y) * pk := by
  have h1 : tot = tot % 4294967296 + 4294967296 * (tot / 4294967296) := by omega
  generalize tot / 4294967296 = c' at h1 ⊢
  generalize tot % 4294967296 = lo at h1 hset
  have e : u' + c' * (pk * (p * 4294967296)) + (pk * p) * o = U + (vm + p * y) * pk + (pk * p) * o := by
    have h3 : (pk * p) * (c + (o + y)) = (pk * p) * (lo + 4294967296 * c') := by rw [← h1, ht]
    grind
  omega
theorem back_ok (m' : Bool) (L U v k n : Nat) (hn : nlen v = n) (hk : k + n + 1 ≤ L) (hlen : L ≤ 549755813888) (hwin : U < 4294967296 ^ (k + n + 1)) :
    CallG Tryz.prog 195 [.vec 0 1 0 L, .p (natM m' v), .p (.int .i64 k)] [.vec 41 1 (limbs (dg L U))] (.tup [])
      [.vec 41 1 (limbs (dg L ((U + v * 4294967296 ^ k) % 4294967296 ^ (k + n + 1))))] := by
  have hvl : (nl v).length = n := hn
  have hUL : U < 4294967296 ^ L := Nat.lt_of_lt_of_le hwin (Nat.pow_le_pow_right (by omega) hk)
  refine callG_of_vc (wr := wr0) Γok mixed Tryz.func195 (by kernel_rfl) rfl (by kernel_rfl) (le_of_ble rfl) (by intro B hB; simp at hB; subst hB; exact fun e => by cases e) ?_
  refine SZ.mk (n : Int) (by simp [hvl]) ?_
  refine SWrap.i64z ((n + 1 : Nat) : Int) (by omega) (by omega) ?_
  refine SLoop.mk (Nat × Nat × List Nat) (fun (i, c, us) => ([(0, .vec 0 1 0 L), (1, .p (natM m' v)), (2, .p (.int .i64 k)), (6, .p (.int .u64 c)), (10, .p (.int .i64 ((n + 1 : Nat) : Int))), (11, .p (.int .i64 i))], [.vec 41 1 (limbs us)]))
    (fun (i, c, us) => i ≤ n + 1 ∧ c ≤ 1 ∧ us.length = L ∧ Lok us ∧ nv (us.drop (k + n + 1)) = 0 ∧ nv us + c * (4294967296 ^ k * 4294967296 ^ i) = U + v % 4294967296 ^ i * 4294967296 ^ k) (fun x => n + 1 - x.1) (0, 0, dg L U) [0]
    ⟨Nat.zero_le _, Nat.zero_le _, dg_length _ _, dg_ok _ _, ?_, by simp [Nat.mod_one, nv_dg hUL]⟩
    ⟨rfl, by simp, rfl, rfl, rfl, ⟨rfl, rfl, rfl, rfl, rfl, rfl, trivial⟩, ⟨rfl, trivial⟩⟩ ?_
  · have h1 := nv_split (dg L U) (k + n + 1)
    rw [nv_dg hUL, dg_length, Nat.min_eq_left hk] at h1
    rcases Nat.eq_zero_or_pos (nv ((dg L U).drop (k + n + 1))) with h | h
    · exact h
    · have := Nat.mul_le_mul_left (4294967296 ^ (k + n + 1)) h
      omega
  intro ⟨i, c, us⟩ ⟨h1, h2, h4, h5, h6, h7⟩
  by_cases hi : i < n + 1
  · refine SCmp.yes (decide_eq_true (by omega)) ?_
    have e2 := nl_getD v i
    have l2 : (nl v).getD i 0 < 4294967296 := getD_lt (nl_ok v) i
    have l3 : us.getD (k + i) 0 < 4294967296 := getD_lt h5 (k + i)
    obtain ⟨y, hy⟩ : ∃ y, y = (nl v).getD i 0 := ⟨_, rfl⟩
    obtain ⟨o, ho⟩ : ∃ o, o = us.getD (k + i) 0 := ⟨_, rfl⟩
    refine SDraw.mk (by kernel_rfl) ?_
    iterate 4 refine SOp.mk _ _ (And.intro rfl rfl) rfl ?_
    refine SOp.mk _ _ (SWrap.i64z ((k + i : Nat) : Int) (by omega) (by omega) (And.intro rfl rfl)) rfl ?_
    refine SOp.mk _ _ (SPos.mk (k + i) rfl (by omega) (And.intro rfl rfl)) rfl ?_
    refine SOp.mk _ _ (SIdx.setget (i := k + i) (by omega) (And.intro rfl rfl)) rfl ?_
    rw [← ho] at l3 ⊢
    refine SOp.mk _ _ (SWrap.u64z o rfl (by omega) (And.intro rfl rfl)) rfl ?_
    iterate 2 refine SOp.mk _ _ (And.intro rfl rfl) rfl ?_
    refine SOp.mk _ _ (SCall.pure (at_ok m' (nl v) (nl_ok v) i) (And.intro rfl rfl)) rfl ?_
    rw [if_pos (Int.natCast_nonneg i), Int.toNat_natCast]
    rw [← hy] at e2 l2 ⊢
    refine SOp.mk _ _ (SWrap.u64z (o + y) (by omega) (by omega) (And.intro rfl rfl)) rfl ?_
    obtain ⟨tot, htot⟩ : ∃ tot, tot = c + (o + y) := ⟨_, rfl⟩
    refine SOp.mk _ _ (SWrap.u64z tot (by omega) (by omega) (And.intro rfl rfl)) rfl ?_
    iterate 1 refine SOp.mk _ _ (And.intro rfl rfl) rfl ?_
    refine SWrap.i64z ((k + i : Nat) : Int) (by omega) (by omega) ?_
    refine SWrap.u32z (tot % 4294967296) (by omega) ?_
    refine SPos.mk (k + i) rfl (by omega) ?_
    refine SLt.set (by omega) ?_
    refine SEs.set ?_
    refine SShr32 ?_
    refine SWrap.i64z ((i + 1 : Nat) : Int) (by omega) (by omega) ?_
    refine ⟨(i + 1, tot / 4294967296, us.set (k + i) (tot % 4294967296)), [0], ⟨hi, by omega, by simpa using h4, h5.set (Nat.mod_lt _ (by omega)), ?_, ?_⟩, by show n + 1 - (i + 1) < n + 1 - i; omega,
      ⟨rfl, by simp, rfl, rfl, rfl, ⟨rfl, rfl, rfl, rfl, rfl, rfl, trivial⟩, ⟨rfl, trivial⟩⟩⟩
    · rw [List.drop_set_of_lt (by omega)]; exact h6
    · have hs' := nv_set us (k + i) (tot % 4294967296) (by omega)
      rw [← ho, Nat.pow_add] at hs'
      have hb2 : v % 4294967296 ^ (i + 1) = v % 4294967296 ^ i + 4294967296 ^ i * (v / 4294967296 ^ i % 4294967296) := Nat.mod_pow_succ
      rw [hb2, ← e2, Nat.pow_succ]
      exact back_step hs' h7 htot
  · refine SCmp.no (decide_eq_false (by omega)) ?_
    have hin : i = n + 1 := by omega
    subst hin
    have hvn : v % 4294967296 ^ (n + 1) = v := mod_big v (n + 1) (by omega)
    rw [hvn, ← Nat.pow_add, show k + (n + 1) = k + n + 1 by omega] at h7
    have hus : nv us < 4294967296 ^ (k + n + 1) := by
      have h8 := nv_split us (k + n + 1)
      rw [h6, Nat.mul_zero, Nat.add_zero] at h8
      rw [h8]
      have := nv_lt (h5.take (k + n + 1))
      rwa [List.length_take, Nat.min_eq_left (by omega)] at this
    have hV : (U + v * 4294967296 ^ k) % 4294967296 ^ (k + n + 1) = nv us := by
      rw [← h7, Nat.add_mul_mod_self_right]; exact Nat.mod_eq_of_lt hus
    rw [hV]
    have : dg L (nv us) = us := by rw [← h4, dg_nv h5]
    rw [this]
    exact SRet.one rfl (pers_limbs us) (.tup rfl fun i c d e1 e2 => by simp at e1)
end Go.Proofs.YtnilcfiemgmfdaaGreat
namespace Go.Proofs.YtnilcfiemgmfdaaGreat
open Go
set_option linter.unusedVariables false
set_option maxRecDepth 10000
theorem SCall.vec {P : Program} {f : FuncId} {L : Hd → Blk} {base h : Nat} {K : AV → List (Hd × Blk) → Prop} {args args' : List AV} {T : TypeId} {W : Nat} {es es' : List PV} {r : AV} (hb : h < base) (hL : L h = .vec T W es)
    (hc : CallG P f args' [.vec T W es] r [.vec T W es']) (ha : AV.renL (renOf [h] base) args' = args) (hargs : ∀ a ∈ args', ∀ k, a.men k → k.key < 1) (hr : r.ren (renOf [h] base) = r) (hk : K r [(h, .vec T W es')]) (hLr : ∀ k, L (.r h k) = .free := by intro _; rfl) {raw : List AV} : SCall P true f raw args L base K := by
  refine .mk [h] args' r [.vec T W es] [.vec T W es'] (fun e => by cases e) (by simp) (fun k hk => by simp at hk; omega) ha rfl (fun i g B e1 e2 => ?_) (fun B hB => by simp at hB; subst hB; simp) (fun B hB k hk => by simp at hB; subst hB; exact hk.elim) (Nat.le_refl _)
    (fun B hB => by simp at hB; subst hB; simp) hargs hc ?_
  · match i, e1, e2 with
    | 0, e1, e2 => cases e1; cases e2; exact ⟨hL, hLr⟩
  · rw [hr]
    simpa [renN, Blk.ren] using hk
theorem nl_le_dg {L n : Nat} (h : nlen n ≤ L) : dg L n = nl n ++ List.replicate (L - nlen n) 0 := by
  have hl : (nl n ++ List.replicate (L - nlen n) 0).length = L := by simp [nlen] at h ⊢; omega
  have hok : Lok (nl n ++ List.replicate (L - nlen n) 0) := fun x hx => by
    rcases List.mem_append.1 hx with hx | hx
    · exact nl_ok n x hx
    · exact Lok.replicate _ x hx
  have := dg_nv hok
  rw [hl, nv_append, nv_nl, nv_replicate, Nat.mul_zero, Nat.add_zero] at this
  exact this
theorem dg_zero (L : Nat) : dg L 0 = List.replicate L 0 := by
  rw [nl_le_dg (by rw [nlen, nl_zero]; simp), nlen, nl_zero]; simp
abbrev wrD : FuncId → Bool := fun f => Nat.beq f 194 || Nat.beq f 195
theorem cutn_ok (m : Bool) (a : Nat) (ha : nlen a ≤ 1099511627776) : CallP Tryz.prog 120 [natM m a] (.p (natP a)) [] := by
  have := cut_ok m (nl a) (nl_ok a) ha
  rwa [nv_nl] at this
abbrev nat3 (q r : Nat) (e : Int) : AV := .tup [.p (natP q), .p (natP r), .p (.int .i64 e)]
theorem norm_top {b n k : Nat} (hn : nlen b = n + 1) (hk : k = 32 - bitLen ((nl b).getD n 0)) : nlen (b * 2 ^ k) = n + 1 ∧ k < 32 := by
  have hb0 : b ≠ 0 := by intro h; rw [h] at hn; simp [nlen, nl_zero] at hn
  obtain ⟨top, htop⟩ : ∃ t, t = (nl b).getD n 0 := ⟨_, rfl⟩
  rw [← htop] at hk
  have ht0 : top ≠ 0 := by
    have := nl_last hb0
    rw [show (nl b).length - 1 = n by show nlen b - 1 = n; omega, ← htop] at this
    exact this
  have ht : top < 4294967296 := by rw [htop]; exact getD_lt (nl_ok b) _
  have hs := bitLen_spec top
  have hbl : bitLen top ≤ 32 := by
    have h1 := hs.2 ht0
    rcases Nat.lt_or_ge 32 (bitLen top) with h | h
    · have : 2 ^ 32 ≤ 2 ^ (bitLen top - 1) := Nat.pow_le_pow_right (by omega) (by omega)
      omega
    · exact h
  have hbl1 : 1 ≤ bitLen top := by
    rcases Nat.eq_zero_or_pos (bitLen top) with h | h
    · rw [h] at hs; have := hs.1; simp at this; exact (ht0 this).elim
    · exact h
  refine ⟨Nat.le_antisymm (nlen_le ?_) ?_, by omega⟩
  · have h1 : b < (top + 1) * 4294967296 ^ n := by
      have h2 : b / 4294967296 ^ n = top := by
        rw [htop, nl_getD]
        have : b / 4294967296 ^ n < 4294967296 := by
          rw [Nat.div_lt_iff_lt_mul (pow_pos' n), ← Nat.pow_succ']
          have := lt_nlen b; rwa [hn] at this
        exact (Nat.mod_eq_of_lt this).symm
      rw [← h2, Nat.mul_comm]
      exact Nat.lt_mul_div_succ b (pow_pos' n)
    have h3 : (top + 1) * 2 ^ k ≤ 4294967296 := by
      have : (top + 1) * 2 ^ k ≤ 2 ^ bitLen top * 2 ^ k := Nat.mul_le_mul_right _ hs.1
      rw [← Nat.pow_add, show bitLen top + k = 32 by omega] at this
      exact this
    calc b * 2 ^ k < (top + 1) * 4294967296 ^ n * 2 ^ k := Nat.mul_lt_mul_of_pos_right h1 (Nat.two_pow_pos k)
      _ = (top + 1) * 2 ^ k * 4294967296 ^ n := by grind
      _ ≤ 4294967296 * 4294967296 ^ n := Nat.mul_le_mul_right _ h3
      _ = 4294967296 ^ (n + 1) := (Nat.pow_succ').symm
  · rw [← hn]; exact nlen_mono (Nat.le_mul_of_pos_right _ (Nat.two_pow_pos k))
theorem div_ok (m m' : Bool) (a b : Nat) (ha : nlen a ≤ 137438953472) (hb : nlen b ≤ 137438953472) :
    CallP Tryz.prog 154 [natM m a, natM m' b] (if b = 0 then nat3 0 0 5 else nat3 (a / b) (a % b) 0) [] := by
  refine callG_of_vc (wr := wrD) Γok mixed Tryz.func154 (by kernel_rfl) rfl (by kernel_rfl) (le_of_ble rfl) (by simp) ?_
  refine SCall.pure (cutn_ok m a (by omega)) ?_
  refine SCall.pure (cutn_ok m' b (by omega)) ?_
  have e0 : natP 0 = .sl false 1 [] := by simp [nl_zero]
  refine SZ.mk (nlen b) (by simp) ?_
  by_cases hb0 : b = 0
  · refine SCmp.yes (eqT (by have := nlen_zero_iff.2 hb0; omega)) ?_
    rw [if_pos hb0, nat3, e0]
    refine SRet.pure ?_
    exact .tup rfl fun i c d e1 e2 => by
      match i, e1, e2 with
      | 0, e1, e2 => cases e1; cases e2; exact .emp _
      | 1, e1, e2 => cases e1; cases e2; exact .emp _
      | 2, e1, e2 => cases e1; cases e2; exact .p _ (.int _ _)
  refine SCmp.no (eqF (by have := mt nlen_zero_iff.1 hb0; omega)) ?_
  rw [if_neg hb0]
  refine SCall.pure (cmp_ok false false a b (by omega) (by omega)) ?_
  have hbp : 0 < b := by omega
  by_cases hab : a < b
  · refine SCmp.yes (decide_eq_true (by simp only [cmpZ, if_pos hab]; decide)) ?_
    rw [Nat.div_eq_of_lt hab, Nat.mod_eq_of_lt hab, nat3, e0]
    refine SRet.pure ?_
    exact .tup rfl fun i c d e1 e2 => by
      match i, e1, e2 with
      | 0, e1, e2 => cases e1; cases e2; exact .emp _
      | 1, e1, e2 => cases e1; cases e2; exact .p _ (.sl _ _ (pers_limbs _))
      | 2, e1, e2 => cases e1; cases e2; exact .p _ (.int _ _)
  refine SCmp.no (decide_eq_false (by simp only [cmpZ, if_neg hab]; split <;> decide)) ?_
  refine SZ.mk (nlen b) (by simp) ?_
  by_cases h1 : nlen b = 1
  · refine SCmp.yes (eqT (by omega)) ?_
    have hbl : (nl b).length = 1 := h1
    refine SIdx.lb 0 rfl (by omega) ?_
    have hbB : b < 4294967296 := by have := lt_nlen b; rw [h1] at this; simpa using this
    rw [nl_getD, Nat.pow_zero, Nat.div_one, Nat.mod_eq_of_lt hbB]
    refine SCall.pureT (small_ok false a b (by omega) hbp hbB) (fun _ => rfl) ?_
    have hr : a % b < b := Nat.mod_lt _ hbp
    obtain ⟨r, hr'⟩ : ∃ r, r = a % b := ⟨_, rfl⟩
    rw [← hr'] at hr ⊢
    refine SWrap.u64z r rfl (by omega) ?_
    refine SCall.pure (of_ok r (by omega)) ?_
    refine SRet.pure ?_
    exact .tup rfl fun i c d e1 e2 => by
      match i, e1, e2 with
      | 0, e1, e2 => cases e1; cases e2; exact .p _ (.sl _ _ (pers_limbs _))
      | 1, e1, e2 => cases e1; cases e2; exact .p _ (.sl _ _ (pers_limbs _))
      | 2, e1, e2 => cases e1; cases e2; exact .p _ (.int _ _)
  refine SCmp.no (eqF (by omega)) ?_
  have hbn0 := mt nlen_zero_iff.1 hb0
  obtain ⟨n, hn⟩ : ∃ n, nlen b = n + 1 := ⟨nlen b - 1, by omega⟩
  have hbl : (nl b).length = n + 1 := hn
  refine SZ.mk ((n + 1 : Nat) : Int) (by simp [hbl]) ?_
  refine SWrap.i64z (n : Int) (by omega) (by omega) ?_
  refine SIdx.lb n rfl (by omega) ?_
  refine SCall.pure (lz32_ok _ (getD_lt (nl_ok b) n)) ?_
  obtain ⟨k, hk⟩ : ∃ k, k = 32 - bitLen ((nl b).getD n 0) := ⟨_, rfl⟩
  rw [← hk]
  obtain ⟨hnv, hk32⟩ := norm_top hn hk
  refine SCall.pure (shl_ok false b k (by omega) (by omega)) ?_
  obtain ⟨v, hv⟩ : ∃ v, v = b * 2 ^ k := ⟨_, rfl⟩
  rw [← hv] at hnv ⊢
  obtain ⟨la, hla⟩ : ∃ x, x = nlen a := ⟨_, rfl⟩
  refine SZ.mk (la : Int) (by simp [hla]) ?_
  refine SWrap.i64z ((la + 1 : Nat) : Int) (by omega) (by omega) ?_
  refine SZ.mk ((la + 1 : Nat) : Int) rfl ?_
  refine SLt.mk (by simp) ?_
  refine SMake.u32 (la + 1) rfl (by omega) ?_
  refine SLt.mk (by simp) ?_
  refine SEs.mk (limbs (dg (la + 1) 0)) (by rw [dg_zero]; simp) ?_
  refine SCall.pure (shl_ok false a k (by omega) (by omega)) ?_
  have hsh : nlen (a * 2 ^ k) ≤ la + 1 := by have := nlen_shl a k; omega
  refine SLt.mk (by simp [dg_length]) ?_
  refine SEs.mk (limbs (dg (la + 1) (a * 2 ^ k))) (by
    rw [dg_zero, nl_le_dg hsh]
    have : (nl (a * 2 ^ k)).length ≤ la + 1 := hsh
    simp [List.take_of_length_le, this, Nat.min_eq_left this]) ?_
  refine SZ.mk ((min (limbs (nl (a * 2 ^ k))).length (la + 1) : Nat) : Int) rfl ?_
  have hab' : nlen b ≤ nlen a := nlen_mono (by omega)
  obtain ⟨mm, hmm⟩ : ∃ x, la = n + 1 + x := ⟨la - (n + 1), by omega⟩
  refine SZ.mk (la : Int) (by simp [hla]) ?_
  refine SZ.mk ((n + 1 : Nat) : Int) (by simp [hbl]) ?_
  refine SWrap.i64z (mm : Int) (by omega) (by omega) ?_
  refine SWrap.i64z ((mm + 1 : Nat) : Int) (by omega) (by omega) ?_
  refine SZ.mk ((mm + 1 : Nat) : Int) rfl ?_
  refine SLt.mk (by simp) ?_
  refine SMake.u32 (mm + 1) rfl (by omega) ?_
  refine SZ.mk (la : Int) (by simp [hla]) ?_
  refine SZ.mk ((n + 1 : Nat) : Int) (by simp [hbl]) ?_
  refine SWrap.i64z (mm : Int) (by omega) (by omega) ?_
  have hvp : 0 < v := by rw [hv]; exact Nat.mul_pos hbp (Nat.two_pow_pos k)
  have hvlt : v < 4294967296 ^ (n + 1) := by have := lt_nlen v; rwa [hnv] at this
  have hR0 : a * 2 ^ k < v * 4294967296 ^ (mm + 1) := by
    have h3 : a < 4294967296 ^ n * 4294967296 ^ (mm + 1) := by
      rw [← Nat.pow_add, show n + (mm + 1) = nlen a by omega]; exact lt_nlen a
    have h4 : 4294967296 ^ n ≤ b := by have := pow_nlen_le hb0; rwa [hn, Nat.add_sub_cancel] at this
    calc a * 2 ^ k < 4294967296 ^ n * 4294967296 ^ (mm + 1) * 2 ^ k := Nat.mul_lt_mul_of_pos_right h3 (Nat.two_pow_pos k)
      _ ≤ b * 4294967296 ^ (mm + 1) * 2 ^ k := Nat.mul_le_mul_right _ (Nat.mul_le_mul_right _ h4)
      _ = v * 4294967296 ^ (mm + 1) := by rw [hv]; grind
  refine SLoop.mk (Nat × Nat × List Nat) (fun (j, R, out) => ([(9, .p (.int .i64 k)), (10, .p (natP v)), (11, .vec 0 1 0 (la + 1)), (12, .vec 1 1 0 (mm + 1)), (13, .p (.int .i64 ((j : Int) - 1)))], [.vec 41 1 (limbs (dg (la + 1) R)), .vec 41 1 (limbs out)]))
    (fun (j, R, out) => j ≤ mm + 1 ∧ R < v * 4294967296 ^ j ∧ out.length = mm + 1 ∧ Lok out ∧ ∃ Q, nv out = Q * 4294967296 ^ j ∧ a * 2 ^ k = Q * 4294967296 ^ j * v + R) (fun x => x.1) (mm + 1, a * 2 ^ k, List.replicate (mm + 1) 0) [0, 1]
    ⟨Nat.le_refl _, hR0, by simp, .replicate _, 0, by simp [nv_replicate], by simp⟩
    ⟨rfl, by simp, rfl, rfl, rfl, ⟨rfl, rfl, rfl, rfl, congrArg (fun z => AV.p (.int .i64 z)) (by omega), trivial⟩, ⟨rfl, congrArg _ (limbs_replicate _).symm, trivial⟩⟩ ?_
  intro ⟨j, R, out⟩ ⟨g1, g2, g3, g4, Q, g5, g6⟩
  have hR : R < 4294967296 ^ (n + j + 1) := by
    refine Nat.lt_trans g2 ?_
    rw [show n + j + 1 = (n + 1) + j by omega, Nat.pow_add]
    exact Nat.mul_lt_mul_of_pos_right hvlt (pow_pos' j)
  by_cases hj : j = 0
  · subst hj
    refine SCmp.no (decide_eq_false (by omega)) ?_
    simp only [Nat.pow_zero, Nat.mul_one] at g2 g5 g6
    refine SView.all (by simpa using g3.symm) ?_
    refine SCall.pure (cut_ok true out g4 (by omega)) ?_
    refine SView.all (by simp [dg_length]) ?_
    refine SCall.pure (cut_ok true (dg (la + 1) R) (dg_ok _ _) (by rw [dg_length]; omega)) ?_
    rw [nv_dg (Nat.lt_of_lt_of_le hR (Nat.pow_le_pow_right (by omega) (by omega)))]
    have hRl : nlen R ≤ n + 1 := nlen_le (by simpa using hR)
    refine SCall.pure (shr_ok false R k (by omega) (by omega)) ?_
    have hq : nv out = a / b := by
      rw [g5]
      have : a * 2 ^ k / (b * 2 ^ k) = Q := by
        rw [← hv, g6, Nat.mul_comm Q v, Nat.mul_add_div hvp, Nat.div_eq_of_lt g2, Nat.add_zero]
      rwa [Nat.mul_div_mul_right _ _ (Nat.two_pow_pos k), eq_comm] at this
    have hr : R / 2 ^ k = a % b := by
      have : a * 2 ^ k % (b * 2 ^ k) = R := by
        rw [← hv, g6, Nat.mul_comm Q v, Nat.mul_add_mod, Nat.mod_eq_of_lt g2]
      rw [Nat.mul_mod_mul_right] at this
      rw [← this, Nat.mul_div_cancel _ (Nat.two_pow_pos k)]
    rw [hq, hr]
    refine SRet.pure ?_
    exact .tup rfl fun i c d e1 e2 => by
      match i, e1, e2 with
      | 0, e1, e2 => cases e1; cases e2; exact .p _ (.sl _ _ (pers_limbs _))
      | 1, e1, e2 => cases e1; cases e2; exact .p _ (.sl _ _ (pers_limbs _))
      | 2, e1, e2 => cases e1; cases e2; exact .p _ (.int _ _)
  · obtain ⟨i, rfl⟩ := Nat.exists_eq_succ_of_ne_zero hj
    rw [Nat.succ_eq_add_one] at g1 g2 g5 g6 hR
    refine SCmp.yes (decide_eq_true (by omega)) ?_
    refine SView.all (by simp [dg_length]) ?_
    have hRL : R < 4294967296 ^ (la + 1) := Nat.lt_of_lt_of_le hR (Nat.pow_le_pow_right (by omega) (by omega))
    have hRw : R < 4294967296 ^ (i + (n + 1) + 1) := by rw [show i + (n + 1) + 1 = n + (i + 1) + 1 by omega]; exact hR
    obtain ⟨q, ⟨q1, q2, q3⟩, hgc⟩ := guess_ok true false (dg (la + 1) R) v i (n + 1) (dg_ok _ _) hnv (by omega) (by rw [dg_length]; omega) (by rw [dg_length]; omega) (by rw [nv_dg hRL]; exact g2) (by rw [nv_dg hRL]; exact hRw)
    rw [nv_dg hRL] at q2 q3
    rw [show (i : Int) = (((i + 1 : Nat) : Int) - 1) by omega] at hgc
    refine SCall.pure hgc ?_
    have htk := take_ok false (la + 1) R v i (n + 1) q hnv (by omega) (by omega) q1 hRw
    rw [show (i : Int) = (((i + 1 : Nat) : Int) - 1) by omega] at htk
    have hup : R < (q + 1) * v * 4294967296 ^ i := by rwa [Nat.div_lt_iff_lt_mul (pow_pos' i)] at q2
    have hlow : (q - 1) * v * 4294967296 ^ i ≤ R := by rwa [Nat.le_div_iff_mul_le (pow_pos' i)] at q3
    by_cases hlt : R < q * v * 4294967296 ^ i
    · rw [if_pos hlt, decide_eq_true hlt] at htk
      refine SCall.vec (h := 0) (by decide) rfl htk rfl (by intro a ha; simp at ha; rcases ha with rfl | rfl | rfl | rfl <;> intro k hk <;> simp only [AV.men] at hk <;> subst hk <;> exact Nat.zero_lt_one) rfl ?_
      refine SCond.mk (fun _ => ?_) (fun h => by cases h)
      obtain ⟨q, rfl⟩ : ∃ q', q = q' + 1 := ⟨q - 1, by
        rcases Nat.eq_zero_or_pos q with h | h
        · rw [h] at hlt; simp at hlt
        · omega⟩
      rw [Nat.add_sub_cancel] at hlow
      refine SWrap.u64z q (by omega) (by omega) ?_
      have hP : (q + 1) * v * 4294967296 ^ i = q * v * 4294967296 ^ i + v * 4294967296 ^ i := by rw [Nat.add_mul, Nat.one_mul, Nat.add_mul]
      have hvP : v * 4294967296 ^ i ≤ 4294967296 ^ (i + (n + 1) + 1) := by
        have : v * 4294967296 ^ i ≤ 4294967296 ^ (n + 1) * 4294967296 ^ i := Nat.mul_le_mul_right _ (Nat.le_of_lt hvlt)
        rw [← Nat.pow_add] at this
        exact Nat.le_trans this (Nat.pow_le_pow_right (by omega) (by omega))
      have hbk := back_ok false (la + 1) (R + 4294967296 ^ (i + (n + 1) + 1) - (q + 1) * v * 4294967296 ^ i) v i (n + 1) hnv (by omega) (by omega) (by omega)
      rw [show (i : Int) = (((i + 1 : Nat) : Int) - 1) by omega] at hbk
      refine SCall.vec (h := 0) (by decide) rfl hbk rfl (by intro a ha; simp at ha; rcases ha with rfl | rfl | rfl <;> intro k hk <;> simp only [AV.men] at hk <;> subst hk <;> exact Nat.zero_lt_one) rfl ?_
      have hU : (R + 4294967296 ^ (i + (n + 1) + 1) - (q + 1) * v * 4294967296 ^ i + v * 4294967296 ^ i) % 4294967296 ^ (i + (n + 1) + 1) = R - q * v * 4294967296 ^ i := by
        rw [show R + 4294967296 ^ (i + (n + 1) + 1) - (q + 1) * v * 4294967296 ^ i + v * 4294967296 ^ i = (R - q * v * 4294967296 ^ i) + 4294967296 ^ (i + (n + 1) + 1) by omega, Nat.add_mod_right]
        exact Nat.mod_eq_of_lt (by omega)
      refine SWrap.u32z q (by omega) ?_
      refine SPos.mk i (by omega) (by omega) ?_
      refine SLt.set (by omega) ?_
      refine SEs.set ?_
      refine SWrap.i64z ((i : Int) - 1) (by omega) (by omega) ?_
      refine ⟨(i, R - q * v * 4294967296 ^ i, out.set i q), [0, 1], ⟨by omega, ?_, by simpa using g3, g4.set (by omega), Q * 4294967296 + q, ?_, ?_⟩, Nat.lt_succ_self i,
        ⟨rfl, by simp, rfl, rfl, rfl, ⟨rfl, rfl, rfl, rfl, rfl, trivial⟩, ⟨congrArg (fun z => Blk.vec 41 1 (limbs (dg (la + 1) z))) hU.symm, rfl, trivial⟩⟩⟩
      · have h7 : R < (q + 1) * v * 4294967296 ^ i := hlt
        rw [Nat.add_mul, Nat.one_mul, Nat.add_mul] at h7
        omega
      · have hs := nv_set out i (q) (by omega)
        have hz : out.getD i 0 = 0 := by
          rw [getD_nv g4, g5, Nat.pow_succ, Nat.mul_comm (4294967296 ^ i), ← Nat.mul_assoc, Nat.mul_div_cancel _ (pow_pos' i), Nat.mul_mod_left]
        rw [hz, Nat.mul_zero, Nat.add_zero, g5, Nat.pow_succ] at hs
        rw [hs]; grind
      · have h8 : q * v * 4294967296 ^ i ≤ R := hlow
        rw [g6, Nat.pow_succ]
        have e : (Q * 4294967296 + q) * 4294967296 ^ i * v = Q * (4294967296 ^ i * 4294967296) * v + q * v * 4294967296 ^ i := by grind
        rw [e]; omega
    · rw [if_neg hlt, decide_eq_false hlt] at htk
      refine SCall.vec (h := 0) (by decide) rfl htk rfl (by intro a ha; simp at ha; rcases ha with rfl | rfl | rfl | rfl <;> intro k hk <;> simp only [AV.men] at hk <;> subst hk <;> exact Nat.zero_lt_one) rfl ?_
      refine SCond.mk (fun h => by cases h) (fun _ => ?_)
      refine SWrap.u32z q (by omega) ?_
      refine SPos.mk i (by omega) (by omega) ?_
      refine SLt.set (by omega) ?_
      refine SEs.set ?_
      refine SWrap.i64z ((i : Int) - 1) (by omega) (by omega) ?_
      refine ⟨(i, R - q * v * 4294967296 ^ i, out.set i q), [0, 1], ⟨by omega, ?_, by simpa using g3, g4.set (by omega), Q * 4294967296 + q, ?_, ?_⟩, Nat.lt_succ_self i,
        ⟨rfl, by simp, rfl, rfl, rfl, ⟨rfl, rfl, rfl, rfl, rfl, trivial⟩, ⟨rfl, rfl, trivial⟩⟩⟩
      · have h7 : R < (q + 1) * v * 4294967296 ^ i := hup
        rw [Nat.add_mul, Nat.one_mul, Nat.add_mul] at h7
        omega
      · have hs := nv_set out i (q) (by omega)
        have hz : out.getD i 0 = 0 := by
          rw [getD_nv g4, g5, Nat.pow_succ, Nat.mul_comm (4294967296 ^ i), ← Nat.mul_assoc, Nat.mul_div_cancel _ (pow_pos' i), Nat.mul_mod_left]
        rw [hz, Nat.mul_zero, Nat.add_zero, g5, Nat.pow_succ] at hs
        rw [hs]; grind
      · have h8 : q * v * 4294967296 ^ i ≤ R := (by omega)
        rw [g6, Nat.pow_succ]
        have e : (Q * 4294967296 + q) * 4294967296 ^ i * v = Q * (4294967296 ^ i * 4294967296) * v + q * v * 4294967296 ^ i := by grind
        rw [e]; omega
end Go.Proofs.YtnilcfiemgmfdaaGreat
namespace Go.Proofs.YtnilcfiemgmfdaaGreat
open Go
set_option linter.unusedVariables false
set_option maxRecDepth 10000
theorem gcd_ok (m m' : Bool) (a b : Nat) (ha : nlen a ≤ 137438953472) (hb : nlen b ≤ 137438953472) : CallP Tryz.prog 101 [natM m a, natM m' b] (.p (natP (Nat.gcd a b))) [] := by
  refine callG_of_vc (wr := wr0) Γok mixed Tryz.func101 (by kernel_rfl) rfl (by kernel_rfl) (le_of_ble rfl) (by simp) ?_
  refine SCall.pure (cutn_ok m a (by omega)) ?_
  refine SCall.pure (cutn_ok m' b (by omega)) ?_
  refine SLoop.mk (Nat × Nat) (fun (x, y) => ([(0, .p (natP x)), (1, .p (natP y))], [])) (fun (x, y) => nlen x ≤ 137438953472 ∧ nlen y ≤ 137438953472 ∧ Nat.gcd x y = Nat.gcd a b) (fun x => x.2) (a, b) []
    ⟨ha, hb, rfl⟩ ⟨rfl, .nil, rfl, rfl, rfl, ⟨rfl, rfl, trivial⟩, trivial⟩ ?_
  intro ⟨x, y⟩ ⟨h1, h2, h3⟩
  refine SZ.mk (nlen y : Int) (by simp) ?_
  by_cases hy : y = 0
  · subst hy
    refine SCmp.no (decide_eq_false (by rw [nlen_zero_iff.2 rfl]; decide)) ?_
    refine SCall.pure (cutn_ok false x (by omega)) ?_
    rw [← h3, Nat.gcd_zero_right]
    exact SRet.pure (.p _ (.sl _ _ (pers_limbs _)))
  · have hn := mt nlen_zero_iff.1 hy
    refine SCmp.yes (decide_eq_true (by omega)) ?_
    have hd := div_ok false false x y h1 h2
    rw [if_neg hy] at hd
    refine SCall.pureT hd (fun _ => rfl) ?_
    have hr : x % y < y := Nat.mod_lt _ (by omega)
    exact ⟨(y, x % y), [], ⟨h2, Nat.le_trans (nlen_mono (Nat.le_of_lt hr)) h2, by rw [← h3, Nat.gcd_comm, ← Nat.gcd_rec, Nat.gcd_comm]⟩, hr, ⟨rfl, .nil, rfl, rfl, rfl, ⟨rfl, rfl, trivial⟩, trivial⟩⟩
end Go.Proofs.YtnilcfiemgmfdaaGreat

namespace Go.Proofs.YtnilcfiemgmfdaaGreat
open Go
set_option linter.unusedVariables false
set_option maxRecDepth 10000
def sgn (neg : Bool) (n : Nat) : Int := if neg then -(n : Int) else n
abbrev ratP (q : Rat) : PV := .agg [.bool (decide (q.num < 0)), natP q.num.natAbs, natP q.den]
def mkQ (neg : Bool) (n d : Nat) : Rat := mkRat (sgn neg n) d
theorem sgn_natAbs (neg : Bool) (n : Nat) : (sgn neg n).natAbs = n := by cases neg <;> simp [sgn]
theorem pers_rat (b : Bool) (x y : Nat) : Pers (.agg [.bool b, natP x, natP y]) := .agg _ fun c hc => by
  simp at hc
  rcases hc with rfl | rfl | rfl
  · exact .bool _
  · exact .sl _ _ (pers_limbs _)
  · exact .sl _ _ (pers_limbs _)
theorem natP_zero : natP 0 = .sl false 1 [] := by simp [nl_zero]
theorem ratP_zero : ratP 0 = .agg [.bool false, .sl false 1 [], natP 1] := by
  show PV.agg [.bool (decide ((0 : Int) < 0)), natP (0 : Int).natAbs, natP 1] = _
  rw [show (0 : Int).natAbs = 0 from rfl, natP_zero]; rfl
theorem mkQ_num {neg : Bool} {n d : Nat} (hd : d ≠ 0) : (mkQ neg n d).num.natAbs = n / Nat.gcd n d ∧ (mkQ neg n d).den = d / Nat.gcd n d ∧ (n ≠ 0 → ((mkQ neg n d).num < 0 ↔ neg = true)) := by
  have e : mkQ neg n d = Rat.normalize (sgn neg n) d hd := by simp [mkQ, mkRat, hd]
  rw [e, Rat.normalize_eq]
  simp only [sgn_natAbs]
  have hg : 0 < Nat.gcd n d := Nat.gcd_pos_of_pos_right _ (by omega)
  have hdv : Nat.gcd n d ∣ n := Nat.gcd_dvd_left n d
  have key : sgn neg n / ((Nat.gcd n d : Nat) : Int) = sgn neg (n / Nat.gcd n d) := by
    cases neg
    · simp [sgn]
    · simp only [sgn, if_true]
      rw [Int.neg_ediv_of_dvd (Int.natCast_dvd_natCast.2 hdv)]
      simp
  simp only [key]
  refine ⟨sgn_natAbs _ _, trivial, fun hn => ?_⟩
  have hp : 0 < n / Nat.gcd n d := Nat.div_pos (Nat.le_of_dvd (by omega) hdv) hg
  cases neg
  · simp only [sgn, Bool.false_eq_true, if_false, iff_false]; omega
  · simp only [sgn, if_true, iff_true]; omega
theorem ratP_mkQ {neg : Bool} {n d : Nat} (hd : d ≠ 0) (hn : n ≠ 0) : ratP (mkQ neg n d) = .agg [.bool neg, natP (n / Nat.gcd n d), natP (d / Nat.gcd n d)] := by
  obtain ⟨h1, h2, h3⟩ := mkQ_num (neg := neg) (n := n) hd
  simp only [ratP, h1, h2]
  congr 3
  have h3 := h3 hn
  cases neg <;> simp at h3 ⊢ <;> omega
theorem one_ok : CallP Tryz.prog 100 [] (.p (natP 1)) [] := by
  refine callG_of_vc (wr := wr0) Γok mixed Tryz.func100 (by kernel_rfl) rfl (by kernel_rfl) (le_of_ble rfl) (by simp) ?_
  refine SCall.pure (pvs := [.int .u64 1]) (of_ok 1 (by omega)) ?_
  exact SRet.pure (.p _ (.sl _ _ (pers_limbs _)))
theorem zero_ok : CallP Tryz.prog 172 [] (.p (ratP 0)) [] := by
  refine callG_of_vc (wr := wr0) Γok mixed Tryz.func172 (by kernel_rfl) rfl (by kernel_rfl) (le_of_ble rfl) (by simp) ?_
  refine SCall.pure one_ok ?_
  refine SRet.pure ?_
  rw [ratP_zero]
  refine .p _ ?_
  have := pers_rat false 0 1
  rwa [natP_zero] at this
theorem low_ok (neg : Bool) (m m' : Bool) (n d : Nat) (hd : d ≠ 0) (hn' : nlen n ≤ 137438953472) (hd' : nlen d ≤ 137438953472) :
    CallP Tryz.prog 119 [.bool neg, natM m n, natM m' d] (.p (ratP (mkQ neg n d))) [] := by
  refine callG_of_vc (wr := wr0) Γok mixed Tryz.func119 (by kernel_rfl) rfl (by kernel_rfl) (le_of_ble rfl) (by simp) ?_
  refine SZ.mk (nlen n : Int) (by simp) ?_
  by_cases hn : n = 0
  · subst hn
    refine SCmp.yes (eqT (by rw [nlen_zero_iff.2 rfl]; rfl)) ?_
    refine SCall.pure zero_ok ?_
    refine SRet.pure ?_
    rw [show mkQ neg 0 d = 0 by cases neg <;> simp [mkQ, sgn]]
    exact .p _ (pers_rat _ _ _)
  · refine SCmp.no (eqF (by have := mt nlen_zero_iff.1 hn; omega)) ?_
    have hg : 0 < Nat.gcd n d := Nat.gcd_pos_of_pos_right _ (by omega)
    have hgl : nlen (Nat.gcd n d) ≤ 137438953472 := Nat.le_trans (nlen_mono (Nat.gcd_le_right _ (by omega))) hd'
    refine SCall.pure (gcd_ok m m' n d hn' hd') ?_
    have h1 := div_ok m false n (Nat.gcd n d) hn' hgl
    have h2 := div_ok m' false d (Nat.gcd n d) hd' hgl
    rw [if_neg (by omega)] at h1 h2
    refine SCall.pureT h1 (fun _ => rfl) ?_
    refine SCall.pureT h2 (fun _ => rfl) ?_
    refine SRet.pure ?_
    rw [ratP_mkQ hd hn]
    exact .p _ (pers_rat _ _ _)
theorem make_ok (neg : Bool) (m m' : Bool) (n d : Nat) (hd : d ≠ 0) (hn' : nlen n ≤ 137438953472) (hd' : nlen d ≤ 137438953472) :
    CallP Tryz.prog 51 [.bool neg, natM m n, natM m' d] (.tup [.p (ratP (mkQ neg n d)), .p (.int .i64 0)]) [] := by
  refine callG_of_vc (wr := wr0) Γok mixed Tryz.func51 (by kernel_rfl) rfl (by kernel_rfl) (le_of_ble rfl) (by simp) ?_
  refine SZ.mk (nlen d : Int) (by simp) ?_
  refine SCmp.no (eqF (by have := mt nlen_zero_iff.1 hd; omega)) ?_
  refine SCall.pure (low_ok neg m m' n d hd hn' hd') ?_
  refine SRet.pure ?_
  exact .tup rfl fun i c d e1 e2 => by
    match i, e1, e2 with
    | 0, e1, e2 => cases e1; cases e2; exact .p _ (pers_rat _ _ _)
    | 1, e1, e2 => cases e1; cases e2; exact .p _ (.int _ _)
theorem own_ok (b : Bool) (x y : Nat) (hx : nlen x ≤ 1099511627776) (hy : nlen y ≤ 1099511627776) : CallP Tryz.prog 173 [.agg [.bool b, natP x, natP y]] (.p (.agg [.bool b, natP x, natP y])) [] := by
  refine callG_of_vc (wr := wr0) Γok mixed Tryz.func173 (by kernel_rfl) rfl (by kernel_rfl) (le_of_ble rfl) (by simp) ?_
  refine SDraw.mk (by kernel_rfl) ?_
  iterate 2 refine SOp.mk _ _ (And.intro rfl rfl) rfl ?_
  refine SOp.mk _ _ (SCall.pure (clone_ok false (nl x) hx) (And.intro rfl rfl)) rfl ?_
  iterate 2 refine SOp.mk _ _ (And.intro rfl rfl) rfl ?_
  refine SOp.mk _ _ (SCall.pure (clone_ok false (nl y) hy) (And.intro rfl rfl)) rfl ?_
  iterate 4 refine SOp.mk _ _ (And.intro rfl rfl) rfl ?_
  refine SRet.pure ?_
  exact .p _ (pers_rat _ _ _)
theorem abs_ok (q : Rat) (hx : nlen q.num.natAbs ≤ 1099511627776) (hy : nlen q.den ≤ 1099511627776) : CallP Tryz.prog 121 [ratP q] (.p (.agg [.bool false, natP q.num.natAbs, natP q.den])) [] := by
  refine callG_of_vc (wr := wr0) Γok mixed Tryz.func121 (by kernel_rfl) rfl (by kernel_rfl) (le_of_ble rfl) (by simp) ?_
  refine SCall.pure (own_ok _ _ _ hx hy) ?_
  refine SRet.pure ?_
  exact .p _ (pers_rat _ _ _)
theorem neg_ok (q : Rat) (hx : nlen q.num.natAbs ≤ 1099511627776) (hy : nlen q.den ≤ 1099511627776) : CallP Tryz.prog 134 [ratP q] (.p (ratP (-q))) [] := by
  refine callG_of_vc (wr := wr0) Γok mixed Tryz.func134 (by kernel_rfl) rfl (by kernel_rfl) (le_of_ble rfl) (by simp) ?_
  refine SCall.pure (own_ok _ _ _ hx hy) ?_
  have hn : ratP (-q) = .agg [.bool (decide (0 < q.num)), natP q.num.natAbs, natP q.den] := by
    simp only [ratP, Rat.neg_num, Rat.neg_den, Int.natAbs_neg]
    congr 3
    by_cases h : 0 < q.num <;> simp [h] <;> omega
  rw [hn]
  by_cases h : q.num < 0
  · refine SCmp.no (by simp [h]) ?_
    refine SRet.pure ?_
    rw [decide_eq_false (by omega)]
    exact .p _ (pers_rat _ _ _)
  · refine SCmp.yes (by simp [h]) ?_
    refine SZ.mk (nlen q.num.natAbs : Int) (by simp) ?_
    have h0 := nlen_zero_iff (n := q.num.natAbs)
    by_cases hz : q.num = 0
    · refine SCmp.no (decide_eq_false (by rw [h0.2 (by omega)]; decide)) ?_
      refine SRet.pure ?_
      rw [decide_eq_false (by omega)]
      exact .p _ (pers_rat _ _ _)
    · refine SCmp.yes (decide_eq_true (by have := mt h0.1 (by omega); omega)) ?_
      refine SRet.pure ?_
      rw [decide_eq_true (by omega)]
      exact .p _ (pers_rat _ _ _)
end Go.Proofs.YtnilcfiemgmfdaaGreat
namespace Go.Proofs.YtnilcfiemgmfdaaGreat
open Go
set_option linter.unusedVariables false
set_option maxRecDepth 10000
/-- No part has more limbs than k. -/
structure Sz (q : Rat) (k : Nat) : Prop where
  n : nlen q.num.natAbs ≤ k
  d : nlen q.den ≤ k
theorem sgn_num (q : Rat) : sgn (decide (q.num < 0)) q.num.natAbs = q.num := by
  by_cases h : q.num < 0
  · simp only [sgn, decide_eq_true h, if_true]; omega
  · simp only [sgn, decide_eq_false h, Bool.false_eq_true, if_false]; omega
theorem sgn_mul (a b : Bool) (x y : Nat) : sgn (a != b) (x * y) = sgn a x * sgn b y := by
  cases a <;> cases b <;> simp [sgn] <;> grind
theorem sgn_add (a : Bool) (x y : Nat) : sgn a (x + y) = sgn a x + sgn a y := by
  cases a <;> simp [sgn] <;> grind
theorem sgn_sub {a b : Bool} (hab : a ≠ b) {x y : Nat} (h : y ≤ x) : sgn a (x - y) = sgn a x + sgn b y := by
  cases a <;> cases b <;> simp [sgn] at hab ⊢ <;> omega
theorem mul_eq (p q : Rat) : p * q = mkQ (decide (p.num < 0) != decide (q.num < 0)) (p.num.natAbs * q.num.natAbs) (p.den * q.den) := by
  rw [Rat.mul_def, mkQ, Rat.normalize_eq_mkRat, sgn_mul, sgn_num, sgn_num]
theorem add_eq (p q : Rat) : p + q = mkRat (p.num * q.den + q.num * p.den) (p.den * q.den) := by
  rw [Rat.add_def, Rat.normalize_eq_mkRat]
theorem sgn_times (a : Bool) (x y : Nat) : sgn a (x * y) = sgn a x * (y : Int) := by
  cases a <;> simp [sgn] <;> grind
theorem num_x (p q : Rat) : p.num * (q.den : Int) = sgn (decide (p.num < 0)) (p.num.natAbs * q.den) := by
  rw [sgn_times, sgn_num]
theorem quo_eq (p q : Rat) (hq : q ≠ 0) : p / q = mkQ (decide (p.num < 0) != decide (q.num < 0)) (p.num.natAbs * q.den) (p.den * q.num.natAbs) := by
  have hqn : q.num ≠ 0 := by intro h; exact hq (Rat.num_eq_zero.1 h)
  have e1 : p = (p.num : Rat) / (p.den : Rat) := by rw [← Rat.mkRat_eq_div, Rat.mkRat_self]
  have e2 : q = (q.num : Rat) / (q.den : Rat) := by rw [← Rat.mkRat_eq_div, Rat.mkRat_self]
  have hpd : (p.den : Rat) ≠ 0 := by have := p.den_nz; exact_mod_cast this
  have hqd : (q.den : Rat) ≠ 0 := by have := q.den_nz; exact_mod_cast this
  rw [mkQ, Rat.mkRat_eq_div]
  conv => lhs; rw [e1, e2]
  generalize hN : p.num = pn
  generalize hM : q.num = qn at *
  generalize p.den = pd at *
  generalize q.den = qd at *
  have hs : sgn (decide (pn < 0) != decide (qn < 0)) (pn.natAbs * qd) * qn = pn * qd * (qn.natAbs : Int) := by
    by_cases h1 : pn < 0 <;> by_cases h2 : qn < 0 <;> simp [sgn, h1, h2] <;> grind
  have hs' : (sgn (decide (pn < 0) != decide (qn < 0)) (pn.natAbs * qd) : Rat) * (qn : Rat) = (pn : Rat) * (qd : Rat) * (qn.natAbs : Rat) := by exact_mod_cast hs
  have hqn' : (qn : Rat) ≠ 0 := by exact_mod_cast hqn
  have hqa : ((qn.natAbs : Nat) : Rat) ≠ 0 := by
    have : qn.natAbs ≠ 0 := by omega
    exact_mod_cast this
  rw [Rat.natCast_mul]
  grind
theorem nlen_add' {a b k : Nat} (ha : nlen a ≤ k) (hb : nlen b ≤ k) : nlen (a + b) ≤ k + 1 := by have := nlen_add a b; omega
theorem nlen_mul' {a b j k : Nat} (ha : nlen a ≤ j) (hb : nlen b ≤ k) : nlen (a * b) ≤ j + k := by have := nlen_mul a b; omega
theorem Sz.neg {p : Rat} {k : Nat} (hp : Sz p k) : Sz (-p) k := ⟨by rw [Rat.neg_num, Int.natAbs_neg]; exact hp.n, hp.d⟩
theorem ratmul_ok (p q : Rat) {j k : Nat} (hp : Sz p j) (hq : Sz q k) (h : j + k ≤ 137438953472) : CallP Tryz.prog 64 [ratP p, ratP q] (.p (ratP (p * q))) [] := by
  refine callG_of_vc (wr := wr0) Γok mixed Tryz.func64 (by kernel_rfl) rfl (by kernel_rfl) (le_of_ble rfl) (by simp) ?_
  have h1 := hp.n
  have h2 := hp.d
  have h3 := hq.n
  have h4 := hq.d
  have hl := low_ok (decide (p.num < 0) != decide (q.num < 0)) false false (p.num.natAbs * q.num.natAbs) (p.den * q.den) (Nat.mul_ne_zero p.den_nz q.den_nz) (Nat.le_trans (nlen_mul' h1 h3) h) (Nat.le_trans (nlen_mul' h2 h4) h)
  rw [← mul_eq] at hl
  refine SDraw.mk (by kernel_rfl) ?_
  iterate 4 refine SOp.mk _ _ (And.intro rfl rfl) rfl ?_
  refine SOp.mk _ _ (SCmp.sym (And.intro rfl rfl)) rfl ?_
  iterate 4 refine SOp.mk _ _ (And.intro rfl rfl) rfl ?_
  refine SOp.mk _ _ (SCall.pure (mul_ok false false p.num.natAbs q.num.natAbs (by omega) (by omega)) (And.intro rfl rfl)) rfl ?_
  iterate 4 refine SOp.mk _ _ (And.intro rfl rfl) rfl ?_
  refine SOp.mk _ _ (SCall.pure (mul_ok false false p.den q.den (by omega) (by omega)) (And.intro rfl rfl)) rfl ?_
  refine SOp.mk _ _ (SCall.pure hl (And.intro rfl rfl)) rfl ?_
  iterate 1 refine SOp.mk _ _ (And.intro rfl rfl) rfl ?_
  exact SRet.pure (.p _ (pers_rat _ _ _))
theorem quo_ok (p q : Rat) (hq0 : q ≠ 0) {j k : Nat} (hp : Sz p j) (hq : Sz q k) (h : j + k ≤ 137438953472) : CallP Tryz.prog 62 [ratP p, ratP q] (.tup [.p (ratP (p / q)), .p (.int .i64 0)]) [] := by
  refine callG_of_vc (wr := wr0) Γok mixed Tryz.func62 (by kernel_rfl) rfl (by kernel_rfl) (le_of_ble rfl) (by simp) ?_
  have h1 := hp.n
  have h2 := hp.d
  have h3 := hq.n
  have h4 := hq.d
  have hqn : q.num.natAbs ≠ 0 := by intro e; exact hq0 (Rat.num_eq_zero.1 (by omega))
  have hl := make_ok (decide (p.num < 0) != decide (q.num < 0)) false false (p.num.natAbs * q.den) (p.den * q.num.natAbs) (Nat.mul_ne_zero p.den_nz hqn) (Nat.le_trans (nlen_mul' h1 h4) h) (Nat.le_trans (nlen_mul' h2 h3) h)
  rw [← quo_eq p q hq0] at hl
  refine SDraw.mk (by kernel_rfl) ?_
  iterate 4 refine SOp.mk _ _ (And.intro rfl rfl) rfl ?_
  refine SOp.mk _ _ (SCmp.sym (And.intro rfl rfl)) rfl ?_
  iterate 4 refine SOp.mk _ _ (And.intro rfl rfl) rfl ?_
  refine SOp.mk _ _ (SCall.pure (mul_ok false false p.num.natAbs q.den (by omega) (by omega)) (And.intro rfl rfl)) rfl ?_
  iterate 4 refine SOp.mk _ _ (And.intro rfl rfl) rfl ?_
  refine SOp.mk _ _ (SCall.pure (mul_ok false false p.den q.num.natAbs (by omega) (by omega)) (And.intro rfl rfl)) rfl ?_
  refine SOp.mk _ _ (SCall.pureT hl (fun _ => rfl) (And.intro rfl rfl)) rfl ?_
  iterate 4 refine SOp.mk _ _ (And.intro rfl rfl) rfl ?_
  refine SRet.pure ?_
  exact .tup rfl fun i c d e1 e2 => by
    match i, e1, e2 with
    | 0, e1, e2 => cases e1; cases e2; exact .p _ (pers_rat _ _ _)
    | 1, e1, e2 => cases e1; cases e2; exact .p _ (.int _ _)
theorem add_same {p q : Rat} (h : decide (p.num < 0) = decide (q.num < 0)) : p + q = mkQ (decide (p.num < 0)) (p.num.natAbs * q.den + q.num.natAbs * p.den) (p.den * q.den) := by
  rw [add_eq, mkQ, sgn_add, num_x, num_x, h]
theorem add_diff1 {p q : Rat} (h : decide (p.num < 0) ≠ decide (q.num < 0)) (hle : q.num.natAbs * p.den ≤ p.num.natAbs * q.den) : p + q = mkQ (decide (p.num < 0)) (p.num.natAbs * q.den - q.num.natAbs * p.den) (p.den * q.den) := by
  rw [add_eq, mkQ, sgn_sub h hle, num_x, num_x]
theorem add_diff2 {p q : Rat} (h : decide (p.num < 0) ≠ decide (q.num < 0)) (hle : p.num.natAbs * q.den ≤ q.num.natAbs * p.den) : p + q = mkQ (decide (q.num < 0)) (q.num.natAbs * p.den - p.num.natAbs * q.den) (p.den * q.den) := by
  rw [add_eq, mkQ, sgn_sub (Ne.symm h) hle, num_x, num_x, Int.add_comm]
theorem ratadd_ok (p q : Rat) {j k : Nat} (hp : Sz p j) (hq : Sz q k) (h : j + k + 1 ≤ 137438953472) : CallP Tryz.prog 63 [ratP p, ratP q] (.p (ratP (p + q))) [] := by
  refine callG_of_vc (wr := wr0) Γok mixed Tryz.func63 (by kernel_rfl) rfl (by kernel_rfl) (le_of_ble rfl) (by simp) ?_
  have h1 := hp.n
  have h2 := hp.d
  have h3 := hq.n
  have h4 := hq.d
  have hd := Nat.mul_ne_zero p.den_nz q.den_nz
  obtain ⟨x, hx⟩ : ∃ x, x = p.num.natAbs * q.den := ⟨_, rfl⟩
  obtain ⟨y, hy⟩ : ∃ y, y = q.num.natAbs * p.den := ⟨_, rfl⟩
  obtain ⟨d, hdd⟩ : ∃ d, d = p.den * q.den := ⟨_, rfl⟩
  have hxl : nlen x ≤ j + k := by rw [hx]; exact nlen_mul' h1 h4
  have hyl : nlen y ≤ j + k := by rw [hy, Nat.add_comm]; exact nlen_mul' h3 h2
  have hdl : nlen d ≤ j + k := by rw [hdd]; exact nlen_mul' h2 h4
  have m1 := mul_ok false false p.num.natAbs q.den (by omega) (by omega)
  have m2 := mul_ok false false q.num.natAbs p.den (by omega) (by omega)
  have m3 := mul_ok false false p.den q.den (by omega) (by omega)
  rw [← hx] at m1
  rw [← hy] at m2
  rw [← hdd] at m3 hd
  refine SDraw.mk (by kernel_rfl) ?_
  iterate 4 refine SOp.mk _ _ (And.intro rfl rfl) rfl ?_
  refine SOp.mk _ _ (SCall.pure m1 (And.intro rfl rfl)) rfl ?_
  iterate 4 refine SOp.mk _ _ (And.intro rfl rfl) rfl ?_
  refine SOp.mk _ _ (SCall.pure m2 (And.intro rfl rfl)) rfl ?_
  iterate 4 refine SOp.mk _ _ (And.intro rfl rfl) rfl ?_
  refine SOp.mk _ _ (SCall.pure m3 (And.intro rfl rfl)) rfl ?_
  iterate 3 refine SOp.mk _ _ (And.intro rfl rfl) rfl ?_
  by_cases hs : decide (p.num < 0) = decide (q.num < 0)
  · refine SCmp.yes (beq_iff_eq.2 hs) ?_
    have hl := low_ok (decide (p.num < 0)) false false (x + y) d hd (Nat.le_trans (nlen_add' hxl hyl) (by omega)) (by omega)
    rw [hx, hy, hdd, ← add_same hs] at hl
    have hA := add_ok false false x y (by omega) (by omega)
    rw [hx, hy] at hA
    rw [hx, hy, hdd]
    refine SDraw.mk (by kernel_rfl) ?_
    iterate 4 refine SOp.mk _ _ (And.intro rfl rfl) rfl ?_
    refine SOp.mk _ _ (SCall.pure hA (And.intro rfl rfl)) rfl ?_
    iterate 1 refine SOp.mk _ _ (And.intro rfl rfl) rfl ?_
    refine SOp.mk _ _ (SCall.pure hl (And.intro rfl rfl)) rfl ?_
    iterate 1 refine SOp.mk _ _ (And.intro rfl rfl) rfl ?_
    exact SRet.pure (.p _ (pers_rat _ _ _))
  · refine SCmp.no (beq_eq_false_iff_ne.2 hs) ?_
    have hS := sub_ok false false x y (by omega) (by omega)
    by_cases hle : y ≤ x
    · rw [if_pos hle] at hS
      have hl := low_ok (decide (p.num < 0)) false false (x - y) d hd (Nat.le_trans (nlen_mono (Nat.sub_le _ _)) (by omega)) (by omega)
      rw [hx, hy] at hle
      rw [hx, hy, hdd, ← add_diff1 hs hle] at hl
      rw [hx, hy] at hS
      rw [hx, hy, hdd]
      refine SCall.pureT hS (fun _ => rfl) ?_
      refine SCmp.yes rfl ?_
      refine SCall.pure hl ?_
      exact SRet.pure (.p _ (pers_rat _ _ _))
    · rw [if_neg hle] at hS
      have hle' : x ≤ y := by omega
      have hS2 := sub_ok false false y x (by omega) (by omega)
      rw [if_pos hle'] at hS2
      have hl := low_ok (decide (q.num < 0)) false false (y - x) d hd (Nat.le_trans (nlen_mono (Nat.sub_le _ _)) (by omega)) (by omega)
      rw [hx, hy] at hle'
      rw [hx, hy, hdd, ← add_diff2 hs hle'] at hl
      rw [hx, hy] at hS hS2
      rw [hx, hy, hdd]
      refine SCall.pureT hS (fun _ => rfl) ?_
      refine SCmp.no rfl ?_
      refine SCall.pureT hS2 (fun _ => rfl) ?_
      refine SCall.pure hl ?_
      exact SRet.pure (.p _ (pers_rat _ _ _))
theorem ratsub_ok (p q : Rat) {j k : Nat} (hp : Sz p j) (hq : Sz q k) (h : j + k + 1 ≤ 137438953472) : CallP Tryz.prog 60 [ratP p, ratP q] (.p (ratP (p - q))) [] := by
  refine callG_of_vc (wr := wr0) Γok mixed Tryz.func60 (by kernel_rfl) rfl (by kernel_rfl) (le_of_ble rfl) (by simp) ?_
  have h3 := hq.n
  have h4 := hq.d
  have hA := ratadd_ok p (-q) hp hq.neg h
  rw [← Rat.sub_eq_add_neg] at hA
  refine SDraw.mk (by kernel_rfl) ?_
  iterate 2 refine SOp.mk _ _ (And.intro rfl rfl) rfl ?_
  refine SOp.mk _ _ (SCall.pure (neg_ok q (by omega) (by omega)) (And.intro rfl rfl)) rfl ?_
  refine SOp.mk _ _ (SCall.pure hA (And.intro rfl rfl)) rfl ?_
  iterate 1 refine SOp.mk _ _ (And.intro rfl rfl) rfl ?_
  exact SRet.pure (.p _ (pers_rat _ _ _))
end Go.Proofs.YtnilcfiemgmfdaaGreat
namespace Go.Proofs.YtnilcfiemgmfdaaGreat
open Go
set_option linter.unusedVariables false
set_option maxRecDepth 10000
abbrev markP (q : Rat) : PV := .agg [.bool (decide (q.num < 0)), .bool (decide (q.num = 0))]
theorem pers_mark (a b : Bool) : Pers (.agg [.bool a, .bool b]) := .agg _ fun c hc => by
  simp at hc
  rcases hc with rfl | rfl <;> exact .bool _
theorem mark_ok (q : Rat) : CallP Tryz.prog 123 [ratP q] (.p (markP q)) [] := by
  refine callG_of_vc (wr := wr0) Γok mixed Tryz.func123 (by kernel_rfl) rfl (by kernel_rfl) (le_of_ble rfl) (by simp) ?_
  have h0 := nlen_zero_iff (n := q.num.natAbs)
  by_cases h : q.num < 0
  · rw [ratP, markP, decide_eq_true h, decide_eq_false (show ¬ q.num = 0 by omega)]
    refine SCond.mk (fun _ => ?_) (fun h => by cases h)
    refine SZ.mk (nlen q.num.natAbs : Int) (by simp) ?_
    have hp := mt h0.1 (by omega)
    refine SCmp.yes (decide_eq_true (by omega)) ?_
    refine SZ.mk (nlen q.num.natAbs : Int) (by simp) ?_
    refine SCmp.no (eqF (by omega)) ?_
    exact SRet.pure (.p _ (pers_mark _ _))
  · rw [ratP, markP, decide_eq_false h]
    refine SCond.mk (fun h => by cases h) (fun _ => ?_)
    refine SZ.mk (nlen q.num.natAbs : Int) (by simp) ?_
    by_cases hz : q.num = 0
    · have hp := h0.2 (by omega)
      refine SCmp.yes (eqT (by omega)) ?_
      rw [decide_eq_true hz]
      exact SRet.pure (.p _ (pers_mark _ _))
    · have hp := mt h0.1 (by omega)
      refine SCmp.no (eqF (by omega)) ?_
      rw [decide_eq_false hz]
      exact SRet.pure (.p _ (pers_mark _ _))
end Go.Proofs.YtnilcfiemgmfdaaGreat
namespace Go.Proofs.YtnilcfiemgmfdaaGreat
open Go
set_option linter.unusedVariables false
set_option linter.unusedSimpArgs false
set_option maxRecDepth 10000
def cmpQ (p q : Rat) : Int := if p < q then -1 else if p = q then 0 else 1
theorem lt_num {p q : Rat} : p < q ↔ p.num * (q.den : Int) < q.num * (p.den : Int) := Rat.lt_iff p q
theorem eq_num {p q : Rat} : p = q ↔ p.num * (q.den : Int) = q.num * (p.den : Int) := by
  constructor
  · intro h; rw [h]
  · intro h
    have h1 := (Rat.le_iff p q).2 (by omega)
    have h2 := (Rat.le_iff q p).2 (by omega)
    exact Rat.le_antisymm h1 h2
theorem cmpQ_eq (p q : Rat) : cmpQ p q = if p.num * (q.den : Int) < q.num * (p.den : Int) then -1 else if p.num * (q.den : Int) = q.num * (p.den : Int) then 0 else 1 := by
  simp only [cmpQ, lt_num, eq_num]
theorem ratcmp_ok (p q : Rat) {j k : Nat} (hp : Sz p j) (hq : Sz q k) (h : j + k ≤ 137438953472) : CallP Tryz.prog 55 [ratP p, ratP q] (.p (.int .i64 (cmpQ p q))) [] := by
  refine callG_of_vc (wr := wr0) Γok mixed Tryz.func55 (by kernel_rfl) rfl (by kernel_rfl) (le_of_ble rfl) (by simp) ?_
  refine SDraw.mk (by kernel_rfl) ?_
  refine SOp.mk _ _ (And.intro rfl rfl) rfl ?_
  refine SOp.mk _ _ (SCall.pure (mark_ok p) (And.intro rfl rfl)) rfl ?_
  refine SOp.mk _ _ (And.intro rfl rfl) rfl ?_
  refine SOp.mk _ _ (SCall.pure (mark_ok q) (And.intro rfl rfl)) rfl ?_
  iterate 4 refine SOp.mk _ _ (And.intro rfl rfl) rfl ?_
  have hpd : (0 : Int) < (p.den : Int) := by have := p.den_nz; omega
  have hqd : (0 : Int) < (q.den : Int) := by have := q.den_nz; omega
  have h1 := hp.n
  have h2 := hp.d
  have h3 := hq.n
  have h4 := hq.d
  have hP : p.num * (q.den : Int) = sgn (decide (p.num < 0)) (p.num.natAbs * q.den) := num_x p q
  have hQ : q.num * (p.den : Int) = sgn (decide (q.num < 0)) (q.num.natAbs * p.den) := num_x q p
  have m1 := mul_ok false false p.num.natAbs q.den (by omega) (by omega)
  have m2 := mul_ok false false q.num.natAbs p.den (by omega) (by omega)
  have x0 : p.num ≠ 0 → 0 < p.num.natAbs * q.den := fun h => Nat.mul_pos (by omega) (by omega)
  have y0 : q.num ≠ 0 → 0 < q.num.natAbs * p.den := fun h => Nat.mul_pos (by omega) (by omega)
  have xz : p.num = 0 → p.num.natAbs * q.den = 0 := fun h => by rw [h]; simp
  have yz : q.num = 0 → q.num.natAbs * p.den = 0 := fun h => by rw [h]; simp
  have hxl : nlen (p.num.natAbs * q.den) ≤ j + k := nlen_mul' h1 h4
  have hyl : nlen (q.num.natAbs * p.den) ≤ j + k := by rw [Nat.add_comm]; exact nlen_mul' h3 h2
  have m3 := cmp_ok false false (p.num.natAbs * q.den) (q.num.natAbs * p.den) (by omega) (by omega)
  rw [cmpQ_eq, hP, hQ]
  generalize hx : p.num.natAbs * q.den = x at *
  generalize hy : q.num.natAbs * p.den = y at *
  by_cases p1 : p.num < 0
  · have p2 : ¬ p.num = 0 := by omega
    have x1 := x0 p2
    rw [decide_eq_true p1, decide_eq_false p2]
    by_cases q1 : q.num < 0
    · have q2 : ¬ q.num = 0 := by omega
      rw [decide_eq_true q1, decide_eq_false q2]
      refine SCmp.no rfl ?_
      refine SDraw.mk (by kernel_rfl) ?_
      iterate 4 refine SOp.mk _ _ (And.intro rfl rfl) rfl ?_
      refine SOp.mk _ _ (SCall.pure m1 (And.intro rfl rfl)) rfl ?_
      iterate 4 refine SOp.mk _ _ (And.intro rfl rfl) rfl ?_
      refine SOp.mk _ _ (SCall.pure m2 (And.intro rfl rfl)) rfl ?_
      refine SOp.mk _ _ (SCall.pure m3 (And.intro rfl rfl)) rfl ?_
      iterate 1 refine SOp.mk _ _ (And.intro rfl rfl) rfl ?_
      refine SCond.mk (fun _ => ?_) (fun h => by cases h)
      refine SWrap.i64z (0 - cmpZ x y) rfl (by simp only [cmpZ]; split <;> (try split) <;> omega) ?_
      refine SRet.pure ?_
      rw [show (if sgn true x < sgn true y then (-1 : Int) else if sgn true x = sgn true y then 0 else 1) = 0 - cmpZ x y by
        simp only [sgn, if_true, cmpZ]
        rcases Nat.lt_trichotomy x y with h | h | h
        · rw [if_neg (by omega), if_neg (by omega), if_pos h]; rfl
        · rw [if_neg (by omega), if_pos (by omega), if_neg (by omega), if_pos h]; rfl
        · rw [if_pos (by omega), if_neg (by omega), if_neg (by omega)]; rfl]
      exact .p _ (.int _ _)
    · rw [decide_eq_false q1]
      by_cases q2 : q.num = 0
      · rw [decide_eq_true q2]
        refine SCmp.yes rfl ?_
        refine SCond.mk (fun _ => ?_) (fun h => by cases h)
        refine SRet.pure ?_
        rw [show (if sgn true x < sgn false y then (-1 : Int) else if sgn true x = sgn false y then 0 else 1) = -1 by
          simp only [sgn, if_true, Bool.false_eq_true, if_false]
          rw [if_pos (by omega)]]
        exact .p _ (.int _ _)
      · rw [decide_eq_false q2]
        refine SCmp.yes rfl ?_
        refine SCond.mk (fun _ => ?_) (fun h => by cases h)
        refine SRet.pure ?_
        rw [show (if sgn true x < sgn false y then (-1 : Int) else if sgn true x = sgn false y then 0 else 1) = -1 by
          simp only [sgn, if_true, Bool.false_eq_true, if_false]
          rw [if_pos (by omega)]]
        exact .p _ (.int _ _)
  · rw [decide_eq_false p1]
    by_cases p2 : p.num = 0
    · have x1 := xz p2
      rw [decide_eq_true p2]
      by_cases q1 : q.num < 0
      · have q2 : ¬ q.num = 0 := by omega
        have y1 := y0 q2
        rw [decide_eq_true q1, decide_eq_false q2]
        refine SCmp.yes rfl ?_
        refine SCond.mk (fun h => by cases h) (fun _ => ?_)
        refine SCond.mk (fun _ => ?_) (fun h => by cases h)
        refine SCmp.no rfl ?_
        refine SRet.pure ?_
        rw [show (if sgn false x < sgn true y then (-1 : Int) else if sgn false x = sgn true y then 0 else 1) = 1 by
          simp only [sgn, if_true, Bool.false_eq_true, if_false]
          rw [if_neg (by omega), if_neg (by omega)]]
        exact .p _ (.int _ _)
      · rw [decide_eq_false q1]
        by_cases q2 : q.num = 0
        · rw [decide_eq_true q2]
          refine SCmp.no rfl ?_
          refine SDraw.mk (by kernel_rfl) ?_
          iterate 4 refine SOp.mk _ _ (And.intro rfl rfl) rfl ?_
          refine SOp.mk _ _ (SCall.pure m1 (And.intro rfl rfl)) rfl ?_
          iterate 4 refine SOp.mk _ _ (And.intro rfl rfl) rfl ?_
          refine SOp.mk _ _ (SCall.pure m2 (And.intro rfl rfl)) rfl ?_
          refine SOp.mk _ _ (SCall.pure m3 (And.intro rfl rfl)) rfl ?_
          iterate 1 refine SOp.mk _ _ (And.intro rfl rfl) rfl ?_
          refine SCond.mk (fun h => by cases h) (fun _ => ?_)
          refine SRet.pure ?_
          rw [show (if sgn false x < sgn false y then (-1 : Int) else if sgn false x = sgn false y then 0 else 1) = cmpZ x y by
            simp only [sgn, Bool.false_eq_true, if_false, cmpZ]
            rcases Nat.lt_trichotomy x y with h | h | h
            · rw [if_pos (by omega), if_pos h]
            · rw [if_neg (by omega), if_pos (by omega), if_neg (by omega), if_pos h]
            · rw [if_neg (by omega), if_neg (by omega), if_neg (by omega), if_neg (by omega)]]
          exact .p _ (.int _ _)
        · have y1 := y0 q2
          rw [decide_eq_false q2]
          refine SCmp.yes rfl ?_
          refine SCond.mk (fun h => by cases h) (fun _ => ?_)
          refine SCond.mk (fun _ => ?_) (fun h => by cases h)
          refine SCmp.yes rfl ?_
          refine SRet.pure ?_
          rw [show (if sgn false x < sgn false y then (-1 : Int) else if sgn false x = sgn false y then 0 else 1) = -1 by
            simp only [sgn, if_true, Bool.false_eq_true, if_false]
            rw [if_pos (by omega)]]
          exact .p _ (.int _ _)
    · have x1 := x0 p2
      rw [decide_eq_false p2]
      by_cases q1 : q.num < 0
      · have q2 : ¬ q.num = 0 := by omega
        have y1 := y0 q2
        rw [decide_eq_true q1, decide_eq_false q2]
        refine SCmp.yes rfl ?_
        refine SCond.mk (fun h => by cases h) (fun _ => ?_)
        refine SCond.mk (fun h => by cases h) (fun _ => ?_)
        refine SRet.pure ?_
        rw [show (if sgn false x < sgn true y then (-1 : Int) else if sgn false x = sgn true y then 0 else 1) = 1 by
          simp only [sgn, if_true, Bool.false_eq_true, if_false]
          rw [if_neg (by omega), if_neg (by omega)]]
        exact .p _ (.int _ _)
      · rw [decide_eq_false q1]
        by_cases q2 : q.num = 0
        · have y1 := yz q2
          rw [decide_eq_true q2]
          refine SCmp.yes rfl ?_
          refine SCond.mk (fun h => by cases h) (fun _ => ?_)
          refine SCond.mk (fun h => by cases h) (fun _ => ?_)
          refine SRet.pure ?_
          rw [show (if sgn false x < sgn false y then (-1 : Int) else if sgn false x = sgn false y then 0 else 1) = 1 by
            simp only [sgn, if_true, Bool.false_eq_true, if_false]
            rw [if_neg (by omega), if_neg (by omega)]]
          exact .p _ (.int _ _)
        · have y1 := y0 q2
          rw [decide_eq_false q2]
          refine SCmp.no rfl ?_
          refine SDraw.mk (by kernel_rfl) ?_
          iterate 4 refine SOp.mk _ _ (And.intro rfl rfl) rfl ?_
          refine SOp.mk _ _ (SCall.pure m1 (And.intro rfl rfl)) rfl ?_
          iterate 4 refine SOp.mk _ _ (And.intro rfl rfl) rfl ?_
          refine SOp.mk _ _ (SCall.pure m2 (And.intro rfl rfl)) rfl ?_
          refine SOp.mk _ _ (SCall.pure m3 (And.intro rfl rfl)) rfl ?_
          iterate 1 refine SOp.mk _ _ (And.intro rfl rfl) rfl ?_
          refine SCond.mk (fun h => by cases h) (fun _ => ?_)
          refine SRet.pure ?_
          rw [show (if sgn false x < sgn false y then (-1 : Int) else if sgn false x = sgn false y then 0 else 1) = cmpZ x y by
            simp only [sgn, Bool.false_eq_true, if_false, cmpZ]
            rcases Nat.lt_trichotomy x y with h | h | h
            · rw [if_pos (by omega), if_pos h]
            · rw [if_neg (by omega), if_pos (by omega), if_neg (by omega), if_pos h]
            · rw [if_neg (by omega), if_neg (by omega), if_neg (by omega), if_neg (by omega)]]
          exact .p _ (.int _ _)
theorem ratsame_ok (p q : Rat) {j k : Nat} (hp : Sz p j) (hq : Sz q k) (h : j + k ≤ 137438953472) : CallP Tryz.prog 97 [ratP p, ratP q] (.p (.bool (decide (p = q)))) [] := by
  refine callG_of_vc (wr := wr0) Γok mixed Tryz.func97 (by kernel_rfl) rfl (by kernel_rfl) (le_of_ble rfl) (by simp) ?_
  refine SCall.pure (ratcmp_ok p q hp hq h) ?_
  by_cases e : p = q
  · have hz : cmpQ p q = 0 := by subst e; simp [cmpQ, Rat.lt_irrefl]
    rw [hz, decide_eq_true e]
    refine SCmp.yes rfl ?_
    exact SRet.pure (.tf true)
  · have hz : cmpQ p q ≠ 0 := by simp only [cmpQ, if_neg e]; split <;> decide
    rw [decide_eq_false e]
    refine SCmp.no (eqF hz) ?_
    exact SRet.pure (.tf false)
end Go.Proofs.YtnilcfiemgmfdaaGreat
namespace Go.Proofs.YtnilcfiemgmfdaaGreat
open Go
set_option linter.unusedVariables false
set_option maxRecDepth 10000
theorem rtrim_ok (m : Bool) (l : List Nat) (h : Lok l) (hl : l.length ≤ 1099511627776) : CallP Tryz.prog 139 [.sl m 1 (limbs l)] (.p (natP (nv l))) [] := by
  refine callG_of_vc (wr := wr0) Γok mixed Tryz.func139 (by kernel_rfl) rfl (by kernel_rfl) (le_of_ble rfl) (by simp) ?_
  refine SZ.mk l.length (by simp) ?_
  refine SLoop.mk Nat (fun n => ([(0, .p (.sl m 1 (limbs l))), (3, .p (.int .i64 n))], [])) (fun n => n ≤ l.length ∧ nv (l.take n) = nv l) id l.length [] ⟨Nat.le_refl _, by simp⟩
    ⟨rfl, .nil, rfl, rfl, rfl, ⟨rfl, rfl, trivial⟩, trivial⟩ ?_
  intro n ⟨hn, hv⟩
  have done : (n = 0 ∨ l.getD (n - 1) 0 ≠ 0) → _ := fun h2 => nl_take h hn hv h2
  by_cases h0 : n = 0
  · refine SCmp.no (decide_eq_false (by omega)) ?_
    refine SZ.mk n rfl ?_
    refine SLt.mk (by simp) ?_
    refine SCut.mk 0 n rfl rfl (by omega) (by simp; omega) ?_
    have e := done (.inl h0)
    have hl2 : (nl (nv l)).length ≤ 1099511627776 := by rw [← e, List.length_take]; omega
    refine SEs.mk (limbs (nl (nv l))) (by rw [← e]; simp [List.map_take]) ?_
    refine SRoom.mk (by simp; omega) (by simp; omega) ?_
    exact SRet.pure (frz0 rfl (by simp))
  · refine SCmp.yes (decide_eq_true (by omega)) ?_
    refine SWrap.i64z ((n - 1 : Nat) : Int) (by omega) (by omega) ?_
    refine SIdx.lb (n - 1) rfl (by omega) ?_
    by_cases h1 : l.getD (n - 1) 0 = 0
    · refine SCmp.yes (eqT (by omega)) ?_
      refine SWrap.i64z ((n - 1 : Nat) : Int) (by omega) (by omega) ?_
      exact ⟨n - 1, [], ⟨by omega, (nv_take_pred h0 hn h1).trans hv⟩, by simp; omega, ⟨rfl, .nil, rfl, rfl, rfl, ⟨rfl, rfl, trivial⟩, trivial⟩⟩
    · refine SCmp.no (eqF (by omega)) ?_
      refine SZ.mk n rfl ?_
      refine SLt.mk (by simp) ?_
      refine SCut.mk 0 n rfl rfl (by omega) (by simp; omega) ?_
      have e := done (.inr h1)
      have hl2 : (nl (nv l)).length ≤ 1099511627776 := by rw [← e, List.length_take]; omega
      refine SEs.mk (limbs (nl (nv l))) (by rw [← e]; simp [List.map_take]) ?_
      refine SRoom.mk (by simp; omega) (by simp; omega) ?_
      exact SRet.pure (frz0 rfl (by simp))
theorem rtrimn_ok (m : Bool) (a : Nat) (ha : nlen a ≤ 1099511627776) : CallP Tryz.prog 139 [natM m a] (.p (natP a)) [] := by
  have := rtrim_ok m (nl a) (nl_ok a) ha
  rwa [nv_nl] at this
theorem rof_ok (v : Nat) (hv : v < 18446744073709551616) : CallP Tryz.prog 106 [.int .u64 v] (.p (natP v)) [] := by
  refine callG_of_vc (wr := wr0) Γok mixed Tryz.func106 (by kernel_rfl) rfl (by kernel_rfl) (le_of_ble rfl) (by simp) ?_
  refine SWrap.u32z (v % 4294967296) (by omega) ?_
  refine SShr32 ?_
  refine SWrap.u32z (v / 4294967296) (by omega) ?_
  refine SView.all rfl ?_
  refine SCall.pure (rtrim_ok true [v % 4294967296, v / 4294967296] (.cons (by omega) (.cons (by omega) .nil)) (by simp)) ?_
  have : nv [v % 4294967296, v / 4294967296] = v := by simp only [nv]; omega
  rw [this]
  exact SRet.pure (.p _ (.sl _ _ (pers_limbs _)))
theorem rat_ok (m : Bool) (l : List Nat) (h : Lok l) (i : Nat) : CallP Tryz.prog 144 [.sl m 1 (limbs l), .int .i64 i] (.p (.int .u64 ((l.getD i 0 : Nat) : Int))) [] := by
  refine callG_of_vc (wr := wr0) Γok mixed Tryz.func144 (by kernel_rfl) rfl (by kernel_rfl) (le_of_ble rfl) (by simp) ?_
  refine SZ.mk l.length (by simp) ?_
  by_cases h2 : i < l.length
  · refine SCmp.yes (decide_eq_true (by omega)) ?_
    refine SIdx.lb i rfl (by omega) ?_
    have := getD_lt h i
    refine SWrap.u64 (by omega) ?_
    exact SRet.pure (.p _ (.int _ _))
  · refine SCmp.no (decide_eq_false (by omega)) ?_
    rw [getD_ge l 0 (by omega)]
    exact SRet.pure (.p _ (.int _ _))
theorem rcmp_ok (m m' : Bool) (a b : Nat) (ha : nlen a ≤ 549755813888) (hb : nlen b ≤ 549755813888) : CallP Tryz.prog 50 [natM m a, natM m' b] (.p (.int .i64 (cmpZ a b))) [] := by
  refine callG_of_vc (wr := wr0) Γok mixed Tryz.func50 (by kernel_rfl) rfl (by kernel_rfl) (le_of_ble rfl) (by simp) ?_
  refine SZ.mk (nlen a) (by simp) ?_
  refine SZ.mk (nlen b) (by simp) ?_
  by_cases hne : nlen a = nlen b
  · refine SCmp.no (neF (by omega)) ?_
    refine SZ.mk (nlen a) (by simp) ?_
    refine SLoop.mk Nat (fun i => ([(0, .p (natM m a)), (1, .p (natM m' b)), (5, .p (.int .i64 i))], [])) (fun i => i ≤ nlen a ∧ a / 4294967296 ^ i = b / 4294967296 ^ i) id (nlen a) []
      ⟨Nat.le_refl _, by rw [Nat.div_eq_of_lt (lt_nlen a), hne, Nat.div_eq_of_lt (lt_nlen b)]⟩ ⟨rfl, .nil, rfl, rfl, rfl, ⟨rfl, rfl, rfl, trivial⟩, trivial⟩ ?_
    intro i ⟨h1, h2⟩
    by_cases h0 : i = 0
    · refine SCmp.no (decide_eq_false (by omega)) ?_
      subst h0
      have : a = b := by simpa using h2
      refine SRet.pure ?_
      rw [show cmpZ a b = 0 by simp [cmpZ, this]]
      exact .p _ (.int _ _)
    · refine SCmp.yes (decide_eq_true (by omega)) ?_
      obtain ⟨i, rfl⟩ := Nat.exists_eq_succ_of_ne_zero h0
      refine SDraw.mk (by kernel_rfl) ?_
      have e1 := nl_getD a i
      have e2 := nl_getD b i
      have q1 : (nl a).length = nlen a := rfl
      have q2 : (nl b).length = nlen b := rfl
      repeat refine SOp.mk _ _ (And.intro rfl rfl) rfl ?_
      refine SOp.mk _ _ (SWrap.i64z (i : Int) (by omega) (by omega) (And.intro rfl rfl)) rfl ?_
      refine SOp.mk _ _ (SIdx.lb i rfl (by omega) (And.intro rfl rfl)) rfl ?_
      repeat refine SOp.mk _ _ (And.intro rfl rfl) rfl ?_
      refine SOp.mk _ _ (SWrap.i64z (i : Int) (by omega) (by omega) (And.intro rfl rfl)) rfl ?_
      refine SOp.mk _ _ (SIdx.lb i rfl (by omega) (And.intro rfl rfl)) rfl ?_
      repeat refine SOp.mk _ _ (And.intro rfl rfl) rfl ?_
      generalize hx : (nl a).getD i 0 = x at e1 ⊢
      generalize hy : (nl b).getD i 0 = y at e2 ⊢
      by_cases hlt : x < y
      · refine SOp.mk _ _ (SCmp.yes (decide_eq_true (by omega)) (And.intro rfl rfl)) rfl ?_
        refine SRet.pure ?_
        rw [show cmpZ a b = -1 by simp [cmpZ, cmp_high h2 (by rw [← e1, ← e2]; exact hlt)]]
        exact .p _ (.int _ _)
      · refine SOp.mk _ _ (SCmp.no (decide_eq_false (by omega)) (And.intro rfl rfl)) rfl ?_
        refine SDraw.mk (by kernel_rfl) ?_
        repeat refine SOp.mk _ _ (And.intro rfl rfl) rfl ?_
        refine SOp.mk _ _ (SWrap.i64z (i : Int) (by omega) (by omega) (And.intro rfl rfl)) rfl ?_
        refine SOp.mk _ _ (SIdx.lb i rfl (by omega) (And.intro rfl rfl)) rfl ?_
        repeat refine SOp.mk _ _ (And.intro rfl rfl) rfl ?_
        refine SOp.mk _ _ (SWrap.i64z (i : Int) (by omega) (by omega) (And.intro rfl rfl)) rfl ?_
        refine SOp.mk _ _ (SIdx.lb i rfl (by omega) (And.intro rfl rfl)) rfl ?_
        repeat refine SOp.mk _ _ (And.intro rfl rfl) rfl ?_
        rw [hx, hy]
        by_cases hxy : x = y
        · refine SOp.mk _ _ (SCmp.no (decide_eq_false (by omega)) (And.intro rfl rfl)) rfl ?_
          refine SWrap.i64z (i : Int) (by omega) (by omega) ?_
          exact ⟨i, [], ⟨by omega, div_step h2 (by rw [← e1, ← e2]; exact hxy)⟩, Nat.lt_succ_self i, ⟨rfl, .nil, rfl, rfl, rfl, ⟨rfl, rfl, rfl, trivial⟩, trivial⟩⟩
        · refine SOp.mk _ _ (SCmp.yes (decide_eq_true (by omega)) (And.intro rfl rfl)) rfl ?_
          refine SRet.pure ?_
          have : b < a := cmp_high h2.symm (by rw [← e1, ← e2]; omega)
          rw [show cmpZ a b = 1 by simp [cmpZ, show ¬ a < b by omega, show a ≠ b by omega]]
          exact .p _ (.int _ _)
  · refine SCmp.yes (neT (by omega)) ?_
    refine SZ.mk (nlen a) (by simp) ?_
    refine SZ.mk (nlen b) (by simp) ?_
    by_cases hlt : nlen a < nlen b
    · refine SCmp.yes (decide_eq_true (by omega)) ?_
      refine SRet.pure ?_
      rw [show cmpZ a b = -1 by simp [cmpZ, lt_of_nlen hlt]]
      exact .p _ (.int _ _)
    · refine SCmp.no (decide_eq_false (by omega)) ?_
      refine SRet.pure ?_
      have : b < a := lt_of_nlen (by omega)
      rw [show cmpZ a b = 1 by simp [cmpZ, show ¬ a < b by omega, show a ≠ b by omega]]
      exact .p _ (.int _ _)
theorem radd_ok (m m' : Bool) (a b : Nat) (ha : nlen a ≤ 549755813887) (hb : nlen b ≤ 549755813887) : CallP Tryz.prog 74 [natM m a, natM m' b] (.p (natP (a + b))) [] := by
  refine callG_of_vc (wr := wr0) Γok mixed Tryz.func74 (by kernel_rfl) rfl (by kernel_rfl) (le_of_ble rfl) (by simp) ?_
  obtain ⟨L, hL⟩ : ∃ L, L = max (nlen a) (nlen b) + 1 := ⟨_, rfl⟩
  refine SZ.mk (nlen a) (by simp) ?_
  refine SZ.mk (nlen b) (by simp) ?_
  refine SZ.mk ((max (nlen a) (nlen b) : Nat) : Int) (by show (if ((nlen b : Nat) : Int) > ((nlen a : Nat) : Int) then _ else _) = _; split <;> omega) ?_
  refine SWrap.i64z (L : Int) (by omega) (by omega) ?_
  refine SZ.mk L rfl ?_
  refine SLt.mk (by simp) ?_
  refine SMake.u32 L rfl (by omega) ?_
  refine SLoop.mk (Nat × Nat × List Nat) (fun (i, c, out) => ([(0, .p (natM m a)), (1, .p (natM m' b)), (5, .vec 0 1 0 L), (6, .p (.int .u64 c)), (7, .p (.int .i64 i))], [.vec 41 1 (limbs out)]))
    (fun (i, c, out) => i ≤ L ∧ c ≤ 1 ∧ out.length = L ∧ Lok out ∧ nv (out.take i) + c * 4294967296 ^ i = a % 4294967296 ^ i + b % 4294967296 ^ i) (fun x => L - x.1) (0, 0, List.replicate L 0) [0]
    ⟨Nat.zero_le _, by simp, by simp, .replicate _, by simp [nv, Nat.mod_one]⟩
    ⟨rfl, by simp, rfl, rfl, rfl, ⟨rfl, rfl, rfl, rfl, rfl, trivial⟩, ⟨congrArg _ (limbs_replicate L).symm, trivial⟩⟩ ?_
  intro ⟨i, c, out⟩ ⟨h1, h2, h3, h4, h5⟩
  refine SZ.mk L rfl ?_
  by_cases hi : i < L
  · refine SCmp.yes (decide_eq_true (by omega)) ?_
    refine SCall.pure (rat_ok m (nl a) (nl_ok a) i) ?_
    have e1 := nl_getD a i
    have e2 := nl_getD b i
    have l1 : (nl a).getD i 0 < 4294967296 := getD_lt (nl_ok a) i
    have l2 : (nl b).getD i 0 < 4294967296 := getD_lt (nl_ok b) i
    generalize hx : (nl a).getD i 0 = x at e1 l1 ⊢
    refine SWrap.u64z (c + x) (by omega) (by omega) ?_
    refine SCall.pure (rat_ok m' (nl b) (nl_ok b) i) ?_
    generalize hy : (nl b).getD i 0 = y at e2 l2 ⊢
    refine SWrap.u64z (c + (x + y)) (by omega) (by omega) ?_
    refine SWrap.u32z ((c + (x + y)) % 4294967296) (by omega) ?_
    refine SPos.mk i rfl hi ?_
    refine SLt.set (by omega) ?_
    refine SEs.set ?_
    refine SShr32 ?_
    refine SWrap.i64z ((i + 1 : Nat) : Int) (by omega) (by omega) ?_
    refine ⟨(i + 1, (c + (x + y)) / 4294967296, out.set i ((c + (x + y)) % 4294967296)), [0], ⟨hi, by omega, by simpa using h3, h4.set (Nat.mod_lt _ (by omega)), ?_⟩, by show L - (i + 1) < L - i; omega, ⟨rfl, by simp, rfl, rfl, rfl, ⟨rfl, rfl, rfl, rfl, rfl, trivial⟩, ⟨rfl, trivial⟩⟩⟩
    rw [nv_set_take (by omega), Nat.pow_succ]
    exact add_step h5 (by rw [← e1, ← e2]; omega)
  · refine SCmp.no (decide_eq_false (by omega)) ?_
    have hiL : i = L := by omega
    subst hiL
    have hlt : a + b < 4294967296 ^ i := by
      have := lt_nlen (a + b)
      have h := nlen_add a b
      exact Nat.lt_of_lt_of_le this (Nat.pow_le_pow_right (by omega) (by omega))
    rw [mod_big a i (by omega), mod_big b i (by omega), List.take_of_length_le (by omega)] at h5
    have hc : c = 0 := by
      rcases Nat.eq_zero_or_pos c with h | h
      · exact h
      · have : 1 * 4294967296 ^ i ≤ c * 4294967296 ^ i := Nat.mul_le_mul_right _ h
        omega
    subst hc
    have hv : nv out = a + b := by omega
    refine SView.all (by simpa using h3.symm) ?_
    refine SCall.pure (rtrim_ok true out h4 (by omega)) ?_
    rw [hv]
    exact SRet.pure (.p _ (.sl _ _ (pers_limbs _)))
theorem rless_ok (m m' : Bool) (a b : Nat) (ha : nlen a ≤ 549755813888) (hba : b ≤ a) : CallP Tryz.prog 145 [natM m a, natM m' b] (.p (natP (a - b))) [] := by
  refine callG_of_vc (wr := wr0) Γok mixed Tryz.func145 (by kernel_rfl) rfl (by kernel_rfl) (le_of_ble rfl) (by simp) ?_
  obtain ⟨L, hL⟩ : ∃ L, L = nlen a := ⟨_, rfl⟩
  refine SZ.mk L (by simp [hL]) ?_
  refine SZ.mk L rfl ?_
  refine SLt.mk (by simp) ?_
  refine SMake.u32 L rfl (by omega) ?_
  refine SLoop.mk (Nat × Nat × List Nat) (fun (i, c, out) => ([(0, .p (natM m a)), (1, .p (natM m' b)), (5, .vec 0 1 0 L), (6, .p (.int .u64 c)), (7, .p (.int .i64 i))], [.vec 41 1 (limbs out)]))
    (fun (i, c, out) => i ≤ L ∧ c ≤ 1 ∧ out.length = L ∧ Lok out ∧ nv (out.take i) + b % 4294967296 ^ i = a % 4294967296 ^ i + c * 4294967296 ^ i) (fun x => L - x.1) (0, 0, List.replicate L 0) [0]
    ⟨Nat.zero_le _, by simp, by simp, .replicate _, by simp [nv, Nat.mod_one]⟩
    ⟨rfl, by simp, rfl, rfl, rfl, ⟨rfl, rfl, rfl, rfl, rfl, trivial⟩, ⟨congrArg _ (limbs_replicate L).symm, trivial⟩⟩ ?_
  intro ⟨i, c, out⟩ ⟨h1, h2, h3, h4, h5⟩
  refine SZ.mk L (by simp [hL]) ?_
  by_cases hi : i < L
  · refine SCmp.yes (decide_eq_true (by omega)) ?_
    refine SCall.pure (rat_ok m (nl a) (nl_ok a) i) ?_
    refine SCall.pure (rat_ok m' (nl b) (nl_ok b) i) ?_
    have e1 := nl_getD a i
    have e2 := nl_getD b i
    have l1 : (nl a).getD i 0 < 4294967296 := getD_lt (nl_ok a) i
    have l2 : (nl b).getD i 0 < 4294967296 := getD_lt (nl_ok b) i
    generalize hx : (nl a).getD i 0 = x at e1 l1 ⊢
    generalize hy : (nl b).getD i 0 = y at e2 l2 ⊢
    refine SWrap.u64m ?_
    refine SWrap.u64w ((x + 36893488147419103232 - y - c) % 18446744073709551616) (by omega) ?_
    obtain ⟨d, hd⟩ : ∃ d, d = (x + 36893488147419103232 - y - c) % 18446744073709551616 := ⟨_, rfl⟩
    rw [← hd]
    have hs : x + 4294967296 * (d / 9223372036854775808) = d % 4294967296 + y + c := by omega
    have hc' : d / 9223372036854775808 ≤ 1 := by omega
    refine SWrap.u32z (d % 4294967296) (by omega) ?_
    refine SPos.mk i rfl hi ?_
    refine SLt.set (by omega) ?_
    refine SEs.set ?_
    refine SShr63 ?_
    refine SWrap.i64z ((i + 1 : Nat) : Int) (by omega) (by omega) ?_
    refine ⟨(i + 1, d / 9223372036854775808, out.set i (d % 4294967296)), [0], ⟨hi, hc', by simpa using h3, h4.set (Nat.mod_lt _ (by omega)), ?_⟩, by show L - (i + 1) < L - i; omega, ⟨rfl, by simp, rfl, rfl, rfl, ⟨rfl, rfl, rfl, rfl, rfl, trivial⟩, ⟨rfl, trivial⟩⟩⟩
    rw [nv_set_take (by omega), Nat.pow_succ]
    exact sub_step e1.symm e2.symm h5 hs
  · refine SCmp.no (decide_eq_false (by omega)) ?_
    have hiL : i = L := by omega
    subst hiL
    have hba' : nlen b ≤ nlen a := nlen_mono (by omega)
    rw [mod_big a i (by omega), mod_big b i (by omega), List.take_of_length_le (by omega)] at h5
    have hc : c = 0 := by
      rcases Nat.eq_zero_or_pos c with h | h
      · exact h
      · have h6 : 1 * 4294967296 ^ i ≤ c * 4294967296 ^ i := Nat.mul_le_mul_right _ h
        have h7 := nv_lt h4
        rw [h3] at h7
        omega
    subst hc
    have hv : nv out = a - b := by omega
    refine SView.all (by simpa using h3.symm) ?_
    refine SCall.pure (rtrim_ok true out h4 (by omega)) ?_
    rw [hv]
    exact SRet.pure (.p _ (.sl _ _ (pers_limbs _)))
end Go.Proofs.YtnilcfiemgmfdaaGreat
namespace Go.Proofs.YtnilcfiemgmfdaaGreat
open Go
set_option linter.unusedVariables false
set_option maxRecDepth 10000
theorem bitLen_lt (n : Nat) : n < 2 ^ bitLen n := (bitLen_spec n).1
theorem bitLen_le {n k : Nat} (h : n < 2 ^ k) : bitLen n ≤ k := by
  by_cases h0 : n = 0
  · subst h0; simp [bitLen]
  · have h1 := (bitLen_spec n).2 h0
    rcases Nat.lt_or_ge k (bitLen n) with h2 | h2
    · have : 2 ^ k ≤ 2 ^ (bitLen n - 1) := Nat.pow_le_pow_right (by omega) (by omega)
      omega
    · exact h2
theorem bitLen_mono {a b : Nat} (h : a ≤ b) : bitLen a ≤ bitLen b := bitLen_le (Nat.lt_of_le_of_lt h (bitLen_lt b))
theorem bitLen_mul (a b : Nat) : bitLen (a * b) ≤ bitLen a + bitLen b := bitLen_le (by
  rw [Nat.pow_add]; exact Nat.mul_lt_mul'' (bitLen_lt a) (bitLen_lt b))
theorem bitLen_add (a b : Nat) : bitLen (a + b) ≤ max (bitLen a) (bitLen b) + 1 := bitLen_le (by
  have h1 := bitLen_lt a
  have h2 := bitLen_lt b
  have m1 : 2 ^ bitLen a ≤ 2 ^ max (bitLen a) (bitLen b) := Nat.pow_le_pow_right (by omega) (Nat.le_max_left _ _)
  have m2 : 2 ^ bitLen b ≤ 2 ^ max (bitLen a) (bitLen b) := Nat.pow_le_pow_right (by omega) (Nat.le_max_right _ _)
  rw [Nat.pow_succ]
  omega)
theorem nlen_bitLen (n : Nat) : nlen n ≤ bitLen n := nlen_le (Nat.lt_of_lt_of_le (bitLen_lt n) (Nat.pow_le_pow_left (by omega) _))
theorem bitLen_zero_iff {n : Nat} : bitLen n = 0 ↔ n = 0 := by
  constructor
  · intro h; have := bitLen_lt n; rw [h] at this; simpa using this
  · intro h; subst h; simp [bitLen]
theorem bitLen_half {x : Nat} (h : x ≠ 0) : bitLen x = bitLen (x / 2) + 1 := by
  by_cases h1 : x / 2 = 0
  · have : x = 1 := by omega
    subst this; decide
  · have := bitLen_shift x 1 (by simpa using h1)
    rw [this]; simp; omega
theorem bitLen_pos {n : Nat} (h : n ≠ 0) : 2 ^ (bitLen n - 1) ≤ n := (bitLen_spec n).2 h
theorem lt_of_bitLen {a b : Nat} (h : bitLen a < bitLen b) : a < b := by
  rcases Nat.lt_or_ge a b with h1 | h1
  · exact h1
  · have := bitLen_mono h1; omega
theorem rmul_ok (m m' : Bool) (a b : Nat) (ha : nlen a ≤ 274877906944) (hb : nlen b ≤ 274877906944) : CallP Tryz.prog 66 [natM m a, natM m' b] (.p (natP (a * b))) [] := by
  refine callG_of_vc (wr := wr0) Γok mixed Tryz.func66 (by kernel_rfl) rfl (by kernel_rfl) (le_of_ble rfl) (by simp) ?_
  obtain ⟨la, hla⟩ : ∃ L, L = nlen a := ⟨_, rfl⟩
  obtain ⟨lb, hlb⟩ : ∃ L, L = nlen b := ⟨_, rfl⟩
  have ha' : (nl a).length = la := hla.symm
  have hb' : (nl b).length = lb := hlb.symm
  refine SZ.mk la (by simp [hla]) ?_
  refine SZ.mk lb (by simp [hlb]) ?_
  refine SWrap.i64z ((la + lb : Nat) : Int) (by omega) (by omega) ?_
  refine SZ.mk ((la + lb : Nat) : Int) rfl ?_
  refine SLt.mk (by simp) ?_
  refine SMake.u32 (la + lb) rfl (by omega) ?_
  refine SLoop.mk (Nat × List Nat) (fun (i, out) => ([(0, .p (natM m a)), (1, .p (natM m' b)), (5, .vec 0 1 0 (la + lb)), (6, .p (.int .i64 i))], [.vec 41 1 (limbs out)]))
    (fun (i, out) => i ≤ la ∧ out.length = la + lb ∧ Lok out ∧ nv (out.take (i + lb)) = a % 4294967296 ^ i * b) (fun x => la - x.1) (0, List.replicate (la + lb) 0) [0]
    ⟨Nat.zero_le _, by simp, .replicate _, by simp [nv_replicate, Nat.mod_one]⟩
    ⟨rfl, by simp, rfl, rfl, rfl, ⟨rfl, rfl, rfl, rfl, trivial⟩, ⟨congrArg _ (limbs_replicate _).symm, trivial⟩⟩ ?_
  intro ⟨i, out⟩ ⟨h1, h3, h4, h5⟩
  refine SZ.mk la (by simp [hla]) ?_
  by_cases hi : i < la
  · refine SCmp.yes (decide_eq_true (by omega)) ?_
    have e1 := nl_getD a i
    have l1 : (nl a).getD i 0 < 4294967296 := getD_lt (nl_ok a) i
    obtain ⟨x, hx⟩ : ∃ x, x = (nl a).getD i 0 := ⟨_, rfl⟩
    rw [← hx] at e1 l1
    refine SLoop.mk (Nat × Nat × List Nat) (fun (k, c, out) => ([(0, .p (natM m a)), (1, .p (natM m' b)), (5, .vec 0 1 0 (la + lb)), (6, .p (.int .i64 i)), (7, .p (.int .u64 c)), (8, .p (.int .i64 k))], [.vec 41 1 (limbs out)]))
      (fun (k, c, out) => k ≤ lb ∧ c < 4294967296 ∧ out.length = la + lb ∧ Lok out ∧ nv (out.take (i + lb)) + c * (4294967296 ^ i * 4294967296 ^ k) = a % 4294967296 ^ i * b + x * 4294967296 ^ i * (b % 4294967296 ^ k)) (fun x => lb - x.1) (0, 0, out) [0]
      ⟨Nat.zero_le _, by simp, h3, h4, by simp [h5, Nat.mod_one]⟩
      ⟨rfl, by simp, rfl, rfl, rfl, ⟨rfl, rfl, rfl, rfl, rfl, rfl, trivial⟩, ⟨rfl, trivial⟩⟩ ?_
    intro ⟨k, c, out⟩ ⟨g1, g2, g3, g4, g5⟩
    refine SZ.mk lb (by simp [hlb]) ?_
    by_cases hk : k < lb
    · refine SCmp.yes (decide_eq_true (by omega)) ?_
      refine SDraw.mk (by kernel_rfl) ?_
      have e2 := nl_getD b k
      have l2 : (nl b).getD k 0 < 4294967296 := getD_lt (nl_ok b) k
      have l3 : out.getD (i + k) 0 < 4294967296 := getD_lt g4 (i + k)
      repeat refine SOp.mk _ _ (And.intro rfl rfl) rfl ?_
      refine SOp.mk _ _ (SIdx.lb i rfl (by omega) (And.intro rfl rfl)) rfl ?_
      repeat refine SOp.mk _ _ (And.intro rfl rfl) rfl ?_
      rw [← hx]
      refine SOp.mk _ _ (SWrap.u64z x rfl (by omega) (And.intro rfl rfl)) rfl ?_
      repeat refine SOp.mk _ _ (And.intro rfl rfl) rfl ?_
      refine SOp.mk _ _ (SIdx.lb k rfl (by omega) (And.intro rfl rfl)) rfl ?_
      repeat refine SOp.mk _ _ (And.intro rfl rfl) rfl ?_
      generalize hy : (nl b).getD k 0 = y at e2 l2 ⊢
      have hxy := mul_le l1 l2
      refine SOp.mk _ _ (SWrap.u64z y rfl (by omega) (And.intro rfl rfl)) rfl ?_
      refine SOp.mk _ _ (SWrap.u64z (x * y) (Int.natCast_mul x y).symm (by omega) (And.intro rfl rfl)) rfl ?_
      refine SOp.mk _ _ (SWrap.u64z (c + x * y) (by omega) (by omega) (And.intro rfl rfl)) rfl ?_
      repeat refine SOp.mk _ _ (And.intro rfl rfl) rfl ?_
      refine SOp.mk _ _ (SWrap.i64z ((i + k : Nat) : Int) (by omega) (by omega) (And.intro rfl rfl)) rfl ?_
      refine SOp.mk _ _ (SPos.mk (i + k) rfl (by omega) (And.intro rfl rfl)) rfl ?_
      refine SOp.mk _ _ (SIdx.setget (by omega) (And.intro rfl rfl)) rfl ?_
      generalize ho : out.getD (i + k) 0 = o at l3 ⊢
      refine SOp.mk _ _ (SWrap.u64z o rfl (by omega) (And.intro rfl rfl)) rfl ?_
      refine SOp.mk _ _ (SWrap.u64z (c + (x * y + o)) (by omega) (by omega) (And.intro rfl rfl)) rfl ?_
      repeat refine SOp.mk _ _ (And.intro rfl rfl) rfl ?_
      obtain ⟨tot, htot⟩ : ∃ tot, tot = c + (x * y + o) := ⟨_, rfl⟩
      rw [← htot]
      refine SWrap.i64z ((i + k : Nat) : Int) (by omega) (by omega) ?_
      refine SWrap.u32z (tot % 4294967296) (by omega) ?_
      refine SPos.mk (i + k) rfl (by omega) ?_
      refine SLt.set (by omega) ?_
      refine SEs.set ?_
      refine SShr32 ?_
      refine SWrap.i64z ((k + 1 : Nat) : Int) (by omega) (by omega) ?_
      refine ⟨(k + 1, tot / 4294967296, out.set (i + k) (tot % 4294967296)), [0], ⟨hk, by omega, by simpa using g3, g4.set (Nat.mod_lt _ (by omega)), ?_⟩, by show lb - (k + 1) < lb - k; omega,
        ⟨rfl, by simp, rfl, rfl, rfl, ⟨rfl, rfl, rfl, rfl, rfl, rfl, trivial⟩, ⟨rfl, trivial⟩⟩⟩
      have hs := nv_set (out.take (i + lb)) (i + k) (tot % 4294967296) (by simp; omega)
      rw [← List.take_set, show (out.take (i + lb)).getD (i + k) 0 = o by rw [← ho]; simp [List.getD, show i + k < i + lb by omega], Nat.pow_add] at hs
      have hm := mul_step hs g5 htot
      have hb2 : b % 4294967296 ^ (k + 1) = b % 4294967296 ^ k + 4294967296 ^ k * (b / 4294967296 ^ k % 4294967296) := Nat.mod_pow_succ
      rw [hb2, ← e2, Nat.pow_succ, ← Nat.mul_assoc (4294967296 ^ i)]
      exact hm
    · refine SCmp.no (decide_eq_false (by omega)) ?_
      have hkl : k = lb := by omega
      subst hkl
      refine SZ.mk k (by simp [hb']) ?_
      refine SWrap.i64z ((i + k : Nat) : Int) (by omega) (by omega) ?_
      refine SWrap.u32z c (by omega) ?_
      refine SPos.mk (i + k) rfl (by omega) ?_
      refine SLt.set (by omega) ?_
      refine SEs.set ?_
      refine SWrap.i64z ((i + 1 : Nat) : Int) (by omega) (by omega) ?_
      refine ⟨(i + 1, out.set (i + k) c), [0], ⟨hi, by simpa using g3, g4.set g2, ?_⟩, by show la - (i + 1) < la - i; omega, ⟨rfl, by simp, rfl, rfl, rfl, ⟨rfl, rfl, rfl, rfl, trivial⟩, ⟨rfl, trivial⟩⟩⟩
      rw [show i + 1 + k = i + k + 1 by omega, nv_set_take (by omega), Nat.pow_add, Nat.pow_succ, Nat.mod_mul, ← e1]
      rw [mod_big b k (by omega)] at g5
      grind
  · refine SCmp.no (decide_eq_false (by omega)) ?_
    have hiL : i = la := by omega
    subst hiL
    rw [mod_big a i (by omega), List.take_of_length_le (by omega)] at h5
    refine SView.all (by simpa using h3.symm) ?_
    refine SCall.pure (rtrim_ok true out h4 (by omega)) ?_
    rw [h5]
    exact SRet.pure (.p _ (.sl _ _ (pers_limbs _)))
theorem SShr1 {a : Nat} {K : Int → Prop} (hk : K ((a / 2 : Nat) : Int)) : SGe 1 (SZ ((a : Int).fdiv (2 ^ (min (1 : Int).toNat (IntKind.bits .u32)))) K) :=
  .mk (by decide) (.mk _ (by
    show Int.fdiv (a : Int) 2 = _
    rw [Int.fdiv_eq_ediv_of_nonneg _ (by decide)]; omega) hk)
theorem rbits_ok (m : Bool) (a : Nat) (ha : nlen a ≤ 549755813888) : CallP Tryz.prog 214 [natM m a] (.p (.int .i64 (bitLen a))) [] := by
  refine callG_of_vc (wr := wr0) Γok mixed Tryz.func214 (by kernel_rfl) rfl (by kernel_rfl) (le_of_ble rfl) (by simp) ?_
  refine SZ.mk (nlen a) (by simp) ?_
  by_cases h0 : a = 0
  · have := nlen_zero_iff.2 h0
    refine SCmp.yes (eqT (by omega)) ?_
    rw [bitLen_zero_iff.2 h0]
    exact SRet.pure (.p _ (.int _ _))
  · have hn := mt nlen_zero_iff.1 h0
    refine SCmp.no (eqF (by omega)) ?_
    obtain ⟨L, hL⟩ : ∃ L, nlen a = L + 1 := ⟨nlen a - 1, by omega⟩
    have hL' : (nl a).length = L + 1 := hL
    refine SZ.mk ((L + 1 : Nat) : Int) (by simp [hL']) ?_
    refine SWrap.i64z (L : Int) (by omega) (by omega) ?_
    refine SWrap.i64z ((32 * L : Nat) : Int) (by omega) (by omega) ?_
    refine SZ.mk ((L + 1 : Nat) : Int) (by simp [hL']) ?_
    refine SWrap.i64z (L : Int) (by omega) (by omega) ?_
    refine SIdx.lb L rfl (by omega) ?_
    have l1 : (nl a).getD L 0 < 4294967296 := getD_lt (nl_ok a) L
    have e1 : a / 2 ^ (32 * L) = (nl a).getD L 0 := by
      rw [nl_getD, Nat.pow_mul]
      have := lt_nlen a
      rw [hL, Nat.pow_succ, Nat.mul_comm] at this
      have h2 : a / 4294967296 ^ L < 4294967296 := (Nat.div_lt_iff_lt_mul (pow_pos' L)).2 this
      exact (Nat.mod_eq_of_lt h2).symm
    have hz := nl_last h0
    rw [hL', Nat.add_sub_cancel] at hz
    have hb : bitLen a = 32 * L + bitLen ((nl a).getD L 0) := by rw [← e1] at hz ⊢; exact bitLen_shift a (32 * L) hz
    have hb32 : bitLen ((nl a).getD L 0) ≤ 32 := bitLen_le l1
    obtain ⟨B, hB⟩ : ∃ B, B = bitLen a := ⟨_, rfl⟩
    rw [← hB] at hb
    refine SLoop.mk (Nat × Nat) (fun (n, x) => ([(3, .p (.int .i64 n)), (4, .p (.int .u32 x))], [])) (fun (n, x) => n + bitLen x = B) (fun x => x.2) (32 * L, (nl a).getD L 0) []
      hb.symm ⟨rfl, .nil, rfl, rfl, rfl, ⟨rfl, rfl, trivial⟩, trivial⟩ ?_
    intro ⟨n, x⟩ h
    have h : n + bitLen x = B := h
    by_cases hx : x = 0
    · refine SCmp.no (decide_eq_false (by omega)) ?_
      rw [bitLen_zero_iff.2 hx] at h
      rw [← hB, show n = B by omega]
      exact SRet.pure (.p _ (.int _ _))
    · refine SCmp.yes (decide_eq_true (by omega)) ?_
      have := bitLen_half hx
      refine SWrap.i64z ((n + 1 : Nat) : Int) (by omega) (by omega) ?_
      refine SShr1 ?_
      exact ⟨(n + 1, x / 2), [], by show n + 1 + bitLen (x / 2) = B; omega, by show x / 2 < x; omega, ⟨rfl, .nil, rfl, rfl, rfl, ⟨rfl, rfl, trivial⟩, trivial⟩⟩
end Go.Proofs.YtnilcfiemgmfdaaGreat
namespace Go.Proofs.YtnilcfiemgmfdaaGreat
open Go
set_option linter.unusedVariables false
set_option maxRecDepth 10000
theorem SOrNr {q s r v : Nat} {K : Int → Prop} (hx : q * 2 ^ s < 4294967296) (hr : r < 2 ^ s) (hr' : r < 4294967296) (hv : v = q * 2 ^ s + r) (hv' : v < 4294967296) (hk : K (v : Int)) :
    SWrap .u32 (((BitVec.ofInt (IntKind.bits .u32) (r : Int) ||| BitVec.ofInt (IntKind.bits .u32) ((q * 2 ^ s : Nat) : Int)).toNat : Nat) : Int) K := by
  refine .u32z v ?_ hk
  show (((BitVec.ofInt 32 (r : Int) ||| BitVec.ofInt 32 ((q * 2 ^ s : Nat) : Int)).toNat : Nat) : Int) % 4294967296 = _
  rw [BitVec.toNat_or, ofInt_toNat32 hx, ofInt_toNat32 hr', Nat.or_comm, Nat.mul_comm, ← Nat.two_pow_add_eq_or_of_lt hr, Nat.mul_comm, ← hv]
  omega
/-- A round of a shift to the left. -/
theorem shl_round {t t1 t2 pw x D Bi Am S lo hi o : Nat} (hs1 : t1 + (pw * Bi) * o = t + (pw * Bi) * (lo + o)) (hs2 : t2 = t1 + (pw * Bi * 4294967296) * hi) (hx : x * D = lo + 4294967296 * hi) (h : t = Am * D * pw) :
    t2 = (Am + Bi * x) * D * pw := by
  have e1 : t1 = t + (pw * Bi) * lo := by
    have : (pw * Bi) * (lo + o) = (pw * Bi) * lo + (pw * Bi) * o := by grind
    omega
  rw [hs2, e1, h]
  have : (Am + Bi * x) * D * pw = Am * D * pw + pw * Bi * (x * D) := by grind
  rw [this, hx]
  grind
theorem rshl_ok (m : Bool) (a k : Nat) (ha : nlen a ≤ 274877906944) (hk : k ≤ 1048576) : CallP Tryz.prog 215 [natM m a, .int .i64 k] (.p (natP (a * 2 ^ k))) [] := by
  refine callG_of_vc (wr := wr0) Γok mixed Tryz.func215 (by kernel_rfl) rfl (by kernel_rfl) (le_of_ble rfl) (by simp) ?_
  refine SCmp.no (decide_eq_false (by omega)) ?_
  refine SCmp.no (decide_eq_false (by omega)) ?_
  refine SZ.mk (nlen a) (by simp) ?_
  by_cases h0 : a = 0
  · have := nlen_zero_iff.2 h0
    refine SCmp.yes (eqT (by omega)) ?_
    refine SCall.pure (rtrimn_ok m a (by omega)) ?_
    rw [show a * 2 ^ k = a by rw [h0, Nat.zero_mul]]
    exact SRet.pure (.p _ (.sl _ _ (pers_limbs _)))
  · have hn0 := mt nlen_zero_iff.1 h0
    refine SCmp.no (eqF (by omega)) ?_
    obtain ⟨n, hn⟩ : ∃ n, n = k / 32 := ⟨_, rfl⟩
    obtain ⟨s, hs⟩ : ∃ s, s = k % 32 := ⟨_, rfl⟩
    have hs' : s < 32 := by omega
    have hk2 : 2 ^ k = 4294967296 ^ n * 2 ^ s := by
      rw [show (4294967296 : Nat) = 2 ^ 32 by decide, ← Nat.pow_mul, ← Nat.pow_add]; congr 1; omega
    refine SQuo (b := 32) (by omega) hn (by rw [IntKind.wrap_i64]; omega) ?_
    refine SRem (b := 32) (by omega) hs ?_
    refine SWrap.u64z s rfl (by omega) ?_
    obtain ⟨N, hN⟩ : ∃ N, N = nlen a := ⟨_, rfl⟩
    have hN' : (nl a).length = N := hN.symm
    refine SZ.mk N (by simp [hN]) ?_
    refine SWrap.i64z ((N + n : Nat) : Int) (by omega) (by omega) ?_
    obtain ⟨L, hL⟩ : ∃ L, L = N + n + 1 := ⟨_, rfl⟩
    refine SWrap.i64z (L : Int) (by omega) (by omega) ?_
    refine SZ.mk L rfl ?_
    refine SLt.mk (by simp) ?_
    refine SMake.u32 L rfl (by omega) ?_
    have hD : 0 < 2 ^ s := Nat.two_pow_pos s
    have hC : 0 < 2 ^ (32 - s) := Nat.two_pow_pos _
    have hDC := pow_split (s := s) (by omega)
    have hDB : 2 ^ s ≤ 2147483648 := Nat.le_trans (Nat.pow_le_pow_right (by omega) (show s ≤ 31 by omega)) (by decide)
    refine SLoop.mk (Nat × List Nat) (fun (i, out) => ([(0, .p (natM m a)), (5, .p (.int .i64 n)), (6, .p (.int .u64 s)), (7, .vec 0 1 0 L), (8, .p (.int .i64 i))], [.vec 41 1 (limbs out)]))
      (fun (i, out) => i ≤ N ∧ out.length = L ∧ Lok out ∧ nv out = a % 4294967296 ^ i * 2 ^ s * 4294967296 ^ n) (fun x => N - x.1) (0, List.replicate L 0) [0]
      ⟨Nat.zero_le _, by simp, .replicate _, by simp [nv_replicate, Nat.mod_one]⟩
      ⟨rfl, by simp, rfl, rfl, rfl, ⟨rfl, rfl, rfl, rfl, rfl, trivial⟩, ⟨congrArg _ (limbs_replicate L).symm, trivial⟩⟩ ?_
    intro ⟨i, out⟩ ⟨h1, h3, h4, h5⟩
    refine SZ.mk N (by simp [hN]) ?_
    by_cases hi : i < N
    · refine SCmp.yes (decide_eq_true (by omega)) ?_
      refine SIdx.lb i rfl (by omega) ?_
      have e1 := nl_getD a i
      have l1 : (nl a).getD i 0 < 4294967296 := getD_lt (nl_ok a) i
      obtain ⟨x, hx⟩ : ∃ x, x = (nl a).getD i 0 := ⟨_, rfl⟩
      rw [← hx] at e1 l1
      rw [← hx]
      refine SWrap.u64z x rfl (by omega) ?_
      obtain ⟨X, hX⟩ : ∃ X, X = x * 2 ^ s := ⟨_, rfl⟩
      refine SShlN (v := X) hs' l1 hX ?_
      refine SWrap.i64z ((i + n : Nat) : Int) (by omega) (by omega) ?_
      refine SWrap.i64z ((i + n : Nat) : Int) (by omega) (by omega) ?_
      refine SPos.mk (i + n) rfl (by omega) ?_
      refine SIdx.lb (i + n) rfl (by omega) ?_
      have hlt : a % 4294967296 ^ i * 2 ^ s < 4294967296 ^ i * 2 ^ s := Nat.mul_lt_mul_of_pos_right (Nat.mod_lt _ (pow_pos' i)) hD
      have ho : out.getD (i + n) 0 < 2 ^ s := by
        rw [getD_nv h4, h5, Nat.pow_add, Nat.mul_comm (4294967296 ^ i), ← Nat.div_div_eq_div_mul, Nat.mul_div_cancel _ (pow_pos' n)]
        refine Nat.lt_of_le_of_lt (Nat.mod_le _ _) ?_
        rw [Nat.div_lt_iff_lt_mul (pow_pos' i), Nat.mul_comm (2 ^ s)]
        exact hlt
      have ho2 : out.getD (i + n + 1) 0 = 0 := by
        rw [getD_nv h4, h5, show i + n + 1 = n + (i + 1) by omega, Nat.pow_add, ← Nat.div_div_eq_div_mul, Nat.mul_div_cancel _ (pow_pos' n), Nat.div_eq_of_lt, Nat.zero_mod]
        refine Nat.lt_of_lt_of_le hlt ?_
        rw [Nat.pow_succ]
        exact Nat.mul_le_mul_left _ (by omega)
      obtain ⟨o, hoe⟩ : ∃ o, o = out.getD (i + n) 0 := ⟨_, rfl⟩
      rw [← hoe] at ho
      rw [← hoe]
      have hlo : X % 4294967296 = (x % 2 ^ (32 - s)) * 2 ^ s := by
        have := shl_limb0 (A := x) hD hDC
        rw [Nat.mod_eq_of_lt l1] at this
        rw [hX, this]
      refine SWrap.u32z (x % 2 ^ (32 - s) * 2 ^ s) (by rw [← hlo]; omega) ?_
      have hxl : x % 2 ^ (32 - s) * 2 ^ s + 2 ^ s ≤ 4294967296 := by
        have : x % 2 ^ (32 - s) + 1 ≤ 2 ^ (32 - s) := Nat.mod_lt _ hC
        have := Nat.mul_le_mul_right (2 ^ s) this
        rw [Nat.add_mul, Nat.one_mul, Nat.mul_comm (2 ^ (32 - s)), hDC] at this
        exact this
      refine SOrNr (v := x % 2 ^ (32 - s) * 2 ^ s + o) (by omega) ho (by omega) rfl (by omega) ?_
      rw [← hlo]
      have hlo' : X % 4294967296 + o < 4294967296 := by omega
      refine SPos.mk (i + n) rfl (by omega) ?_
      refine SLt.set (by omega) ?_
      refine SEs.set ?_
      refine SWrap.i64z ((i + n : Nat) : Int) (by omega) (by omega) ?_
      refine SWrap.i64z ((i + n + 1 : Nat) : Int) (by omega) (by omega) ?_
      refine SShr32 ?_
      have hXl : X < 4294967296 * 4294967296 := by
        have : x * 2 ^ s ≤ 4294967295 * 2147483648 := Nat.mul_le_mul (by omega) hDB
        omega
      refine SWrap.u32z (X / 4294967296) (by omega) ?_
      refine SPos.mk (i + n + 1) rfl (by omega) ?_
      refine SLt.set (by simp; omega) ?_
      refine SEs.set ?_
      refine SWrap.i64z ((i + 1 : Nat) : Int) (by omega) (by omega) ?_
      refine ⟨(i + 1, (out.set (i + n) (X % 4294967296 + o)).set (i + n + 1) (X / 4294967296)), [0], ⟨hi, by simpa using h3, (h4.set hlo').set (by omega), ?_⟩, by show N - (i + 1) < N - i; omega, ⟨rfl, by simp, rfl, rfl, rfl, ⟨rfl, rfl, rfl, rfl, rfl, trivial⟩, ⟨rfl, trivial⟩⟩⟩
      have q1 := nv_set out (i + n) (X % 4294967296 + o) (by omega)
      have q2 := nv_set (out.set (i + n) (X % 4294967296 + o)) (i + n + 1) (X / 4294967296) (by simp; omega)
      rw [show (out.set (i + n) (X % 4294967296 + o)).getD (i + n + 1) 0 = out.getD (i + n + 1) 0 by simp [List.getD], ho2, Nat.mul_zero, Nat.add_zero] at q2
      rw [← hoe] at q1
      have e3 : a % 4294967296 ^ (i + 1) = a % 4294967296 ^ i + 4294967296 ^ i * x := by rw [e1]; exact Nat.mod_pow_succ
      rw [e3]
      rw [Nat.add_comm i n, Nat.pow_add] at q1
      rw [Nat.add_comm i n, Nat.pow_succ, Nat.pow_add] at q2
      rw [Nat.add_comm i n]
      have e4 : x * 2 ^ s = X % 4294967296 + 4294967296 * (X / 4294967296) := by rw [← hX]; exact (Nat.mod_add_div X 4294967296).symm
      exact shl_round (S := 0) q1 q2 e4 h5
    · refine SCmp.no (decide_eq_false (by omega)) ?_
      have hiL : i = N := by omega
      subst hiL
      rw [mod_big _ i (by omega), Nat.mul_assoc, Nat.mul_comm (2 ^ s), ← hk2] at h5
      refine SView.all (by simpa using h3.symm) ?_
      refine SCall.pure (rtrim_ok true out h4 (by omega)) ?_
      rw [h5]
      exact SRet.pure (.p _ (.sl _ _ (pers_limbs _)))
end Go.Proofs.YtnilcfiemgmfdaaGreat
namespace Go.Proofs.YtnilcfiemgmfdaaGreat
open Go
set_option linter.unusedVariables false
set_option maxRecDepth 10000
theorem rshr_ok (m : Bool) (a k : Nat) (ha : nlen a ≤ 274877906944) (hk : k ≤ 1048576) : CallP Tryz.prog 216 [natM m a, .int .i64 k] (.p (natP (a / 2 ^ k))) [] := by
  refine callG_of_vc (wr := wr0) Γok mixed Tryz.func216 (by kernel_rfl) rfl (by kernel_rfl) (le_of_ble rfl) (by simp) ?_
  refine SCmp.no (decide_eq_false (by omega)) ?_
  refine SCmp.no (decide_eq_false (by omega)) ?_
  obtain ⟨n, hn⟩ : ∃ n, n = k / 32 := ⟨_, rfl⟩
  obtain ⟨s, hs⟩ : ∃ s, s = k % 32 := ⟨_, rfl⟩
  have hs' : s < 32 := by omega
  have hk2 : 2 ^ k = 4294967296 ^ n * 2 ^ s := by
    rw [show (4294967296 : Nat) = 2 ^ 32 by decide, ← Nat.pow_mul, ← Nat.pow_add]; congr 1; omega
  refine SQuo (b := 32) (by omega) hn (by rw [IntKind.wrap_i64]; omega) ?_
  refine SRem (b := 32) (by omega) hs ?_
  refine SWrap.u64z s rfl (by omega) ?_
  have hD : 0 < 2 ^ s := Nat.two_pow_pos s
  have hDC := pow_split (s := s) (by omega)
  refine SZ.mk (nlen a) (by simp) ?_
  by_cases hw : nlen a ≤ n
  · refine SCmp.yes (decide_eq_true (by omega)) ?_
    have hz : a / 2 ^ k = 0 := by
      rw [hk2, ← Nat.div_div_eq_div_mul, Nat.div_eq_of_lt (Nat.lt_of_lt_of_le (lt_nlen a) (Nat.pow_le_pow_right (by omega) hw)), Nat.zero_div]
    rw [hz, natP_zero]
    exact SRet.pure (.emp _)
  · refine SCmp.no (decide_eq_false (by omega)) ?_
    obtain ⟨L, hL⟩ : ∃ L, L = nlen a - n := ⟨_, rfl⟩
    refine SZ.mk (nlen a) (by simp) ?_
    refine SWrap.i64z (L : Int) (by omega) (by omega) ?_
    refine SZ.mk L rfl ?_
    refine SLt.mk (by simp) ?_
    refine SMake.u32 L rfl (by omega) ?_
    refine SLoop.mk (Nat × List Nat) (fun (i, out) => ([(0, .p (natM m a)), (5, .p (.int .i64 n)), (6, .p (.int .u64 s)), (7, .vec 0 1 0 L), (8, .p (.int .i64 i))], [.vec 41 1 (limbs out)]))
      (fun (i, out) => i ≤ L ∧ out.length = L ∧ Lok out ∧ nv (out.take i) = a / 2 ^ k % 4294967296 ^ i) (fun x => L - x.1) (0, List.replicate L 0) [0]
      ⟨Nat.zero_le _, by simp, .replicate _, by simp [nv, Nat.mod_one]⟩
      ⟨rfl, by simp, rfl, rfl, rfl, ⟨rfl, rfl, rfl, rfl, rfl, trivial⟩, ⟨congrArg _ (limbs_replicate L).symm, trivial⟩⟩ ?_
    intro ⟨i, out⟩ ⟨h1, h3, h4, h5⟩
    refine SZ.mk L rfl ?_
    by_cases hi : i < L
    · refine SCmp.yes (decide_eq_true (by omega)) ?_
      refine SWrap.i64z ((i + n : Nat) : Int) (by omega) (by omega) ?_
      refine SCall.pure (rat_ok m (nl a) (nl_ok a) (i + n)) ?_
      refine SWrap.i64z ((i + n : Nat) : Int) (by omega) (by omega) ?_
      refine SWrap.i64z ((i + n + 1 : Nat) : Int) (by omega) (by omega) ?_
      refine SCall.pure (rat_ok m (nl a) (nl_ok a) (i + n + 1)) ?_
      obtain ⟨x, hx⟩ : ∃ x : Nat, x = (nl a).getD (i + n) 0 := ⟨_, rfl⟩
      obtain ⟨y, hy⟩ : ∃ y : Nat, y = (nl a).getD (i + n + 1) 0 := ⟨_, rfl⟩
      have lx : x < 4294967296 := by rw [hx]; exact getD_lt (nl_ok a) _
      have ly : y < 4294967296 := by rw [hy]; exact getD_lt (nl_ok a) _
      rw [← hx, ← hy]
      refine SShl32 ly ?_
      obtain ⟨S, hS⟩ : ∃ S, S = x + 4294967296 * y := ⟨_, rfl⟩
      refine SOr32r lx ly hS ?_
      obtain ⟨v, hv⟩ : ∃ v, v = S / 2 ^ s := ⟨_, rfl⟩
      refine SShrN hs' hv ?_
      have hlimb : a / 2 ^ k / 4294967296 ^ i % 4294967296 = v % 4294967296 := by
        rw [hv, hS, hx, hy, nl_getD, nl_getD, hk2, ← Nat.div_div_eq_div_mul, shr_limb hD hDC]
        rw [Nat.div_div_eq_div_mul, Nat.div_div_eq_div_mul, Nat.add_comm i n, Nat.add_assoc, Nat.pow_add, Nat.pow_add, Nat.pow_succ]
      refine SWrap.u32z (v % 4294967296) (by omega) ?_
      refine SPos.mk i rfl hi ?_
      refine SLt.set (by omega) ?_
      refine SEs.set ?_
      refine SWrap.i64z ((i + 1 : Nat) : Int) (by omega) (by omega) ?_
      refine ⟨(i + 1, out.set i (v % 4294967296)), [0], ⟨hi, by simpa using h3, h4.set (Nat.mod_lt _ (by omega)), ?_⟩, by show L - (i + 1) < L - i; omega, ⟨rfl, by simp, rfl, rfl, rfl, ⟨rfl, rfl, rfl, rfl, rfl, trivial⟩, ⟨rfl, trivial⟩⟩⟩
      rw [nv_set_take (by omega), h5, ← hlimb]
      exact Nat.mod_pow_succ.symm
    · refine SCmp.no (decide_eq_false (by omega)) ?_
      have hiL : i = L := by omega
      subst hiL
      have hlt : a / 2 ^ k < 4294967296 ^ i := by
        rw [hk2, ← Nat.div_div_eq_div_mul]
        refine Nat.lt_of_le_of_lt (Nat.div_le_self _ _) ?_
        rw [Nat.div_lt_iff_lt_mul (pow_pos' n), ← Nat.pow_add]
        exact Nat.lt_of_lt_of_le (lt_nlen a) (Nat.pow_le_pow_right (by omega) (by omega))
      rw [Nat.mod_eq_of_lt hlt, List.take_of_length_le (by omega)] at h5
      refine SView.all (by simpa using h3.symm) ?_
      refine SCall.pure (rtrim_ok true out h4 (by omega)) ?_
      rw [h5]
      exact SRet.pure (.p _ (.sl _ _ (pers_limbs _)))
theorem SShlU {s v : Nat} {K : Int → Prop} (hs : s < 32) (hv : v = 2 ^ s) (hk : K (v : Int)) : SGe (s : Int) (SWrap .u32 ((1 : Int) * 2 ^ (min (s : Int).toNat (IntKind.bits .u32))) K) := by
  have hm : min (s : Int).toNat (IntKind.bits .u32) = s := by rw [Int.toNat_natCast]; exact Nat.min_eq_left (by show s ≤ 32; omega)
  rw [hm]
  have h1 : 2 ^ s ≤ 2 ^ 31 := Nat.pow_le_pow_right (by omega) (by omega)
  refine .mk (by omega) (.u32z v ?_ hk)
  rw [hv, Int.one_mul, show (2 : Int) ^ s = ((2 ^ s : Nat) : Int) by simp]
  omega
/-- A bit is laid into the quotient. -/
theorem bit_limb {V t i w s : Nat} (hi : i = 32 * w + s) (hs : s < 32) (hV : V = 2 ^ (i + 1) * t) : V / 4294967296 ^ w % 4294967296 = t % 2 ^ (31 - s) * 2 ^ (s + 1) := by
  have e1 : V = 4294967296 ^ w * (2 ^ (s + 1) * t) := by
    rw [hV, hi, show (4294967296 : Nat) = 2 ^ 32 by decide, ← Nat.pow_mul, ← Nat.mul_assoc, ← Nat.pow_add, Nat.add_assoc]
  have e2 : 2 ^ (s + 1) * 2 ^ (31 - s) = 4294967296 := by rw [← Nat.pow_add, show s + 1 + (31 - s) = 32 by omega]
  rw [e1, Nat.mul_div_cancel_left _ (pow_pos' w), ← e2, Nat.mul_mod_mul_left, Nat.mul_comm]
theorem rdiv_ok (m m' : Bool) (a b : Nat) (hb0 : b ≠ 0) (ha : bitLen a ≤ 1048576) (hb : bitLen b ≤ 1048576) :
    CallP Tryz.prog 165 [natM m a, natM m' b] (.tup [.p (natP (a / b)), .p (natP (a % b)), .p (.int .i64 0)]) [] := by
  have hna := nlen_bitLen a
  have hnb := nlen_bitLen b
  refine callG_of_vc (wr := wr0) Γok mixed Tryz.func165 (by kernel_rfl) rfl (by kernel_rfl) (le_of_ble rfl) (by simp) ?_
  refine SZ.mk (nlen b) (by simp) ?_
  have hb1 := mt nlen_zero_iff.1 hb0
  refine SCmp.no (eqF (by omega)) ?_
  refine SCall.pure (rbits_ok m a (by omega)) ?_
  refine SCall.pure (rbits_ok m' b (by omega)) ?_
  refine SWrap.i64z ((bitLen a : Int) - bitLen b) rfl (by omega) ?_
  by_cases hk0 : bitLen a < bitLen b
  · refine SCmp.yes (decide_eq_true (by omega)) ?_
    refine SCall.pure (rtrimn_ok m a (by omega)) ?_
    have hlt := lt_of_bitLen hk0
    rw [Nat.div_eq_of_lt hlt, Nat.mod_eq_of_lt hlt, natP_zero]
    exact SRet.pure (.tup rfl fun i c d e1 e2 => by
      match i, e1, e2 with
      | 0, e1, e2 => cases e1; cases e2; exact .emp _
      | 1, e1, e2 => cases e1; cases e2; exact .p _ (.sl _ _ (pers_limbs _))
      | 2, e1, e2 => cases e1; cases e2; exact .p _ (.int _ _))
  · refine SCmp.no (decide_eq_false (by omega)) ?_
    obtain ⟨k, hk⟩ : ∃ k, bitLen a = k + bitLen b := ⟨bitLen a - bitLen b, by omega⟩
    rw [show (bitLen a : Int) - bitLen b = (k : Int) by omega]
    obtain ⟨n, hn⟩ : ∃ n, n = k / 32 := ⟨_, rfl⟩
    refine SQuo (b := 32) (by omega) hn (by rw [IntKind.wrap_i64]; omega) ?_
    obtain ⟨L, hL⟩ : ∃ L, L = n + 1 := ⟨_, rfl⟩
    refine SWrap.i64z (L : Int) (by omega) (by omega) ?_
    refine SZ.mk L rfl ?_
    refine SLt.mk (by simp) ?_
    refine SMake.u32 L rfl (by omega) ?_
    refine SCall.pure (rtrimn_ok m a (by omega)) ?_
    refine SCall.pure (rshl_ok m' b k (by omega) (by omega)) ?_
    have hkl : nlen (b * 2 ^ k) ≤ 4194304 := by have := nlen_shl b k; omega
    have hinit : a < b * 2 ^ (k + 1) := by
      have h1 := bitLen_lt a
      have h2 := bitLen_pos hb0
      have h3 : bitLen b ≠ 0 := mt bitLen_zero_iff.1 hb0
      rw [hk, show k + bitLen b = (bitLen b - 1) + (k + 1) by omega, Nat.pow_add] at h1
      exact Nat.lt_of_lt_of_le h1 (Nat.mul_le_mul_right _ h2)
    refine SLoop.mk (Nat × Int × List Nat × Nat × Nat) (fun (j, z, q, r, d) => ([(8, .vec 0 1 0 L), (9, .p (natP r)), (10, .p (natP d)), (11, .p (.int .i64 z))], [.vec 41 1 (limbs q)]))
      (fun (j, z, q, r, d) => j ≤ k + 1 ∧ z = (j : Int) - 1 ∧ q.length = L ∧ Lok q ∧ a = nv q * b + r ∧ (∃ t, nv q = 2 ^ j * t) ∧ r < b * 2 ^ j ∧ d = b * 2 ^ j / 2) (fun x => x.1) (k + 1, (k : Int), List.replicate L 0, a, b * 2 ^ k) [0]
      ⟨Nat.le_refl _, by omega, by simp, .replicate _, by simp [nv_replicate], ⟨0, by simp [nv_replicate]⟩, hinit, by rw [Nat.pow_succ, ← Nat.mul_assoc, Nat.mul_div_cancel _ (by omega)]⟩
      ⟨rfl, by simp, rfl, rfl, rfl, ⟨rfl, rfl, rfl, rfl, trivial⟩, ⟨congrArg _ (limbs_replicate L).symm, trivial⟩⟩ ?_
    intro ⟨j, z, q, r, d⟩ ⟨h1, hz, h2, h3, h4, ⟨t, h5⟩, h6, h7⟩
    by_cases hj : j = 0
    · subst hj
      refine SCmp.no (decide_eq_false (by omega)) ?_
      refine SView.all (by simpa using h2.symm) ?_
      refine SCall.pure (rtrim_ok true q h3 (by omega)) ?_
      rw [Nat.pow_zero, Nat.mul_one] at h6
      have hm := Nat.div_mod_unique (Nat.pos_of_ne_zero hb0) |>.2 (⟨by rw [h4]; grind, h6⟩ : r + b * nv q = a ∧ r < b)
      rw [hm.1, hm.2]
      exact SRet.pure (.tup rfl fun i c d e1 e2 => by
        match i, e1, e2 with
        | 0, e1, e2 => cases e1; cases e2; exact .p _ (.sl _ _ (pers_limbs _))
        | 1, e1, e2 => cases e1; cases e2; exact .p _ (.sl _ _ (pers_limbs _))
        | 2, e1, e2 => cases e1; cases e2; exact .p _ (.int _ _))
    · obtain ⟨i, rfl⟩ := Nat.exists_eq_succ_of_ne_zero hj
      have hz : z = (i : Int) := by omega
      subst hz
      refine SCmp.yes (decide_eq_true (by omega)) ?_
      have hd : d = b * 2 ^ i := by rw [h7, Nat.pow_succ, ← Nat.mul_assoc, Nat.mul_div_cancel _ (by omega)]
      have hd2 : b * 2 ^ i / 2 = d / 2 := by rw [hd]
      have hra : r ≤ a := by rw [h4]; exact Nat.le_add_left _ _
      have hrl : nlen r ≤ 1048576 := Nat.le_trans (nlen_mono hra) (by omega)
      have hdl : nlen d ≤ 4194304 := Nat.le_trans (nlen_mono (by rw [hd]; exact Nat.mul_le_mul_left _ (Nat.pow_le_pow_right (by omega) (by omega)))) hkl
      refine SCall.pure (rcmp_ok false false r d (by omega) (by omega)) ?_
      by_cases hrd : d ≤ r
      · refine SCmp.yes (decide_eq_true (by simp only [cmpZ]; split; omega; split <;> omega)) ?_
        refine SCall.pure (rless_ok false false r d (by omega) hrd) ?_
        obtain ⟨w, hw⟩ : ∃ w, w = i / 32 := ⟨_, rfl⟩
        obtain ⟨s, hs⟩ : ∃ s, s = i % 32 := ⟨_, rfl⟩
        have hs' : s < 32 := by omega
        refine SQuo (b := 32) (by omega) hw (by rw [IntKind.wrap_i64]; omega) ?_
        refine SQuo (b := 32) (by omega) hw (by rw [IntKind.wrap_i64]; omega) ?_
        refine SPos.mk w rfl (by omega) ?_
        refine SIdx.lb w rfl (by omega) ?_
        refine SRem (b := 32) (by omega) hs ?_
        refine SWrap.u64z s rfl (by omega) ?_
        refine SShlU (v := 2 ^ s) hs' rfl ?_
        have ho : q.getD w 0 = t % 2 ^ (31 - s) * 2 ^ (s + 1) := by
          rw [getD_nv h3]; exact bit_limb (by omega) hs' h5
        obtain ⟨u, hu⟩ : ∃ u, u = t % 2 ^ (31 - s) := ⟨_, rfl⟩
        have hul : u < 2 ^ (31 - s) := by rw [hu]; exact Nat.mod_lt _ (Nat.two_pow_pos _)
        have hul2 : (u + 1) * 2 ^ (s + 1) ≤ 4294967296 := by
          have := Nat.mul_le_mul_right (2 ^ (s + 1)) hul
          rwa [← Nat.pow_add, show 31 - s + (s + 1) = 32 by omega] at this
        rw [Nat.add_mul, Nat.one_mul] at hul2
        rw [← hu] at ho
        rw [ho]
        have hp : 2 ^ (s + 1) = 2 * 2 ^ s := by rw [Nat.pow_succ, Nat.mul_comm]
        have hps : 0 < 2 ^ s := Nat.two_pow_pos s
        refine SOrN (q := u) (s := s + 1) (r := 2 ^ s) (v := u * 2 ^ (s + 1) + 2 ^ s) (by omega) (by omega) (by omega) rfl (by omega) ?_
        refine SPos.mk w rfl (by omega) ?_
        refine SLt.set (by omega) ?_
        refine SEs.set ?_
        refine SCall.pure (rshr_ok false d 1 (by omega) (by omega)) ?_
        refine SWrap.i64z ((i : Int) - 1) rfl (by omega) ?_
        have hset := nv_set q w (u * 2 ^ (s + 1) + 2 ^ s) (by omega)
        rw [ho] at hset
        have hpi : 4294967296 ^ w * 2 ^ s = 2 ^ i := by
          rw [show (4294967296 : Nat) = 2 ^ 32 by decide, ← Nat.pow_mul, ← Nat.pow_add]; congr 1; omega
        have hq' : nv (q.set w (u * 2 ^ (s + 1) + 2 ^ s)) = nv q + 2 ^ i := by
          have : 4294967296 ^ w * (u * 2 ^ (s + 1) + 2 ^ s) = 4294967296 ^ w * (u * 2 ^ (s + 1)) + 2 ^ i := by rw [Nat.mul_add, hpi]
          omega
        refine ⟨(i, (i : Int) - 1, q.set w (u * 2 ^ (s + 1) + 2 ^ s), r - d, d / 2 ^ 1), [0], ⟨by omega, rfl, by simpa using h2, h3.set (by omega), ?_, ⟨2 * t + 1, ?_⟩, ?_, by rw [hd2]⟩, Nat.lt_succ_self i, ⟨rfl, by simp, rfl, rfl, rfl, ⟨rfl, rfl, rfl, rfl, trivial⟩, ⟨rfl, trivial⟩⟩⟩
        · have : (nv q + 2 ^ i) * b = nv q * b + d := by rw [hd]; grind
          rw [hq', this]
          show a = nv q * b + d + (r - d)
          omega
        · rw [hq', h5, Nat.succ_eq_add_one, Nat.pow_succ]; grind
        · show r - d < b * 2 ^ i
          rw [Nat.succ_eq_add_one, Nat.pow_succ, ← Nat.mul_assoc, ← hd] at h6
          omega
      · refine SCmp.no (decide_eq_false (by simp only [cmpZ]; split; omega; omega)) ?_
        refine SCall.pure (rshr_ok false d 1 (by omega) (by omega)) ?_
        refine SWrap.i64z ((i : Int) - 1) (by omega) (by omega) ?_
        refine ⟨(i, (i : Int) - 1, q, r, d / 2 ^ 1), [0], ⟨by omega, rfl, h2, h3, h4, ⟨2 * t, ?_⟩, by rw [← hd]; omega, by rw [hd2]⟩, Nat.lt_succ_self i, ⟨rfl, by simp, rfl, rfl, rfl, ⟨rfl, rfl, rfl, rfl, trivial⟩, ⟨rfl, trivial⟩⟩⟩
        rw [h5, Nat.succ_eq_add_one, Nat.pow_succ]; grind
theorem rgcd_ok (m m' : Bool) (a b : Nat) (ha : bitLen a ≤ 1048576) (hb : bitLen b ≤ 1048576) : CallP Tryz.prog 164 [natM m a, natM m' b] (.p (natP (Nat.gcd a b))) [] := by
  refine callG_of_vc (wr := wr0) Γok mixed Tryz.func164 (by kernel_rfl) rfl (by kernel_rfl) (le_of_ble rfl) (by simp) ?_
  refine SLoop.mk (Nat × Nat × Bool × Bool) (fun (x, y, mx, my) => ([(0, .p (natM mx x)), (1, .p (natM my y))], [])) (fun (x, y, mx, my) => bitLen x ≤ 1048576 ∧ bitLen y ≤ 1048576 ∧ Nat.gcd x y = Nat.gcd a b) (fun x => x.2.1) (a, b, m, m') []
    ⟨ha, hb, rfl⟩ ⟨rfl, .nil, rfl, rfl, rfl, ⟨rfl, rfl, trivial⟩, trivial⟩ ?_
  intro ⟨x, y, mx, my⟩ ⟨h1, h2, h3⟩
  refine SZ.mk (nlen y : Int) (by simp) ?_
  have n1 := nlen_bitLen x
  by_cases hy : y = 0
  · subst hy
    refine SCmp.no (decide_eq_false (by rw [nlen_zero_iff.2 rfl]; decide)) ?_
    refine SCall.pure (rtrimn_ok mx x (by omega)) ?_
    rw [← h3, Nat.gcd_zero_right]
    exact SRet.pure (.p _ (.sl _ _ (pers_limbs _)))
  · have hn := mt nlen_zero_iff.1 hy
    refine SCmp.yes (decide_eq_true (by omega)) ?_
    refine SCall.pureT (rdiv_ok mx my x y hy h1 h2) (fun _ => rfl) ?_
    have hr : x % y < y := Nat.mod_lt _ (by omega)
    exact ⟨(y, x % y, my, false), [], ⟨h2, Nat.le_trans (bitLen_mono (Nat.le_of_lt hr)) h2, by rw [← h3, Nat.gcd_comm, ← Nat.gcd_rec, Nat.gcd_comm]⟩, hr, ⟨rfl, .nil, rfl, rfl, rfl, ⟨rfl, rfl, trivial⟩, trivial⟩⟩
end Go.Proofs.YtnilcfiemgmfdaaGreat
namespace Go.Proofs.YtnilcfiemgmfdaaGreat
open Go
set_option linter.unusedVariables false
set_option linter.unusedSimpArgs false
set_option maxRecDepth 10000
theorem roomNl {n : Nat} {K : Prop} (h : nlen n ≤ 1099511627776) (hk : K) : SRoom (limbs (nl n)).length 4 K := by
  have h : (nl n).length ≤ 1099511627776 := h
  exact .mk (by simp; omega) (by simp; omega) hk
/-- No part has more binary digits than k. -/
structure Bz (q : Rat) (k : Nat) : Prop where
  n : bitLen q.num.natAbs ≤ k
  d : bitLen q.den ≤ k
theorem Bz.mono {q : Rat} {j k : Nat} (h : Bz q j) (hk : j ≤ k) : Bz q k := ⟨Nat.le_trans h.n hk, Nat.le_trans h.d hk⟩
theorem Bz.sz {q : Rat} {k : Nat} (h : Bz q k) : Sz q k := ⟨Nat.le_trans (nlen_bitLen _) h.n, Nat.le_trans (nlen_bitLen _) h.d⟩
theorem bl_mul {a b j k : Nat} (ha : bitLen a ≤ j) (hb : bitLen b ≤ k) : bitLen (a * b) ≤ j + k := by have := bitLen_mul a b; omega
theorem bl_add {a b k : Nat} (ha : bitLen a ≤ k) (hb : bitLen b ≤ k) : bitLen (a + b) ≤ k + 1 := by have := bitLen_add a b; omega
theorem Bz.mkQ {neg : Bool} {n d k : Nat} (hd : d ≠ 0) (hn : bitLen n ≤ k) (hdk : bitLen d ≤ k) : Bz (mkQ neg n d) k := by
  obtain ⟨h1, h2, _⟩ := mkQ_num (neg := neg) (n := n) hd
  exact ⟨by rw [h1]; exact Nat.le_trans (bitLen_mono (Nat.div_le_self _ _)) hn, by rw [h2]; exact Nat.le_trans (bitLen_mono (Nat.div_le_self _ _)) hdk⟩
theorem Bz.mul {p q : Rat} {j k : Nat} (hp : Bz p j) (hq : Bz q k) : Bz (p * q) (j + k) := by
  rw [mul_eq]
  exact Bz.mkQ (Nat.mul_ne_zero p.den_nz q.den_nz) (bl_mul hp.n hq.n) (bl_mul hp.d hq.d)
theorem Bz.neg {p : Rat} {k : Nat} (hp : Bz p k) : Bz (-p) k := ⟨by rw [Rat.neg_num, Int.natAbs_neg]; exact hp.n, hp.d⟩
theorem Bz.div {p q : Rat} {j k : Nat} (hp : Bz p j) (hq : Bz q k) : Bz (p / q) (j + k) := by
  by_cases h : q = 0
  · subst h
    rw [Rat.div_def, Rat.inv_zero, Rat.mul_zero]
    exact ⟨by simp [bitLen], by have := bitLen_mono (Nat.pos_of_ne_zero p.den_nz); have h2 := hp.d; simp at this ⊢; omega⟩
  · have hqn : q.num.natAbs ≠ 0 := by intro e; exact h (Rat.num_eq_zero.1 (by omega))
    rw [quo_eq p q h]
    exact Bz.mkQ (Nat.mul_ne_zero p.den_nz hqn) (bl_mul hp.n hq.d) (bl_mul hp.d hq.n)
theorem Bz.add {p q : Rat} {j k : Nat} (hp : Bz p j) (hq : Bz q k) : Bz (p + q) (j + k + 1) := by
  have hd := Nat.mul_ne_zero p.den_nz q.den_nz
  have h5 := bl_mul hp.n hq.d
  have h6 := bl_mul hq.n hp.d
  have h7 := bl_mul hp.d hq.d
  by_cases h : decide (p.num < 0) = decide (q.num < 0)
  · rw [add_same h]
    exact Bz.mkQ hd (bl_add h5 (by omega)) (by omega)
  · rcases Nat.le_total (q.num.natAbs * p.den) (p.num.natAbs * q.den) with hle | hle
    · rw [add_diff1 h hle]
      exact Bz.mkQ hd (Nat.le_trans (bitLen_mono (Nat.sub_le _ _)) (by omega)) (by omega)
    · rw [add_diff2 h hle]
      exact Bz.mkQ hd (Nat.le_trans (bitLen_mono (Nat.sub_le _ _)) (by omega)) (by omega)
theorem Bz.sub {p q : Rat} {j k : Nat} (hp : Bz p j) (hq : Bz q k) : Bz (p - q) (j + k + 1) := by
  rw [Rat.sub_eq_add_neg]; exact hp.add hq.neg
theorem roneN_ok : CallP Tryz.prog 67 [] (.p (natP 1)) [] := by
  refine callG_of_vc (wr := wr0) Γok mixed Tryz.func67 (by kernel_rfl) rfl (by kernel_rfl) (le_of_ble rfl) (by simp) ?_
  have : nl 1 = [1] := by rw [nl_pos (by omega), show 1 / 4294967296 = 0 by decide, nl_zero]
  show SRet _ _ _ (.p (.sl false 1 (limbs (nl 1)))) _
  rw [this]
  exact SRet.pure (frz0 (l := [1]) rfl rfl)
theorem rzero_ok : CallP Tryz.prog 25 [] (.p (ratP 0)) [] := by
  refine callG_of_vc (wr := wr0) Γok mixed Tryz.func25 (by kernel_rfl) rfl (by kernel_rfl) (le_of_ble rfl) (by simp) ?_
  refine SCall.pure (roneN_ok) ?_
  refine SRet.pure ?_
  rw [ratP_zero]
  refine .p _ ?_
  have := pers_rat false 0 1
  rwa [natP_zero] at this
theorem rsize_ok (n : Int) (h : -9223372036854775808 ≤ n ∧ n < 9223372036854775808) : CallP Tryz.prog 107 [.int .i64 n] (.p (.int .u64 n.natAbs)) [] := by
  refine callG_of_vc (wr := wr0) Γok mixed Tryz.func107 (by kernel_rfl) rfl (by kernel_rfl) (le_of_ble rfl) (by simp) ?_
  by_cases hn : n < 0
  · refine SCmp.yes (decide_eq_true (by omega)) ?_
    refine SWrap.u64w (n + 18446744073709551616).toNat (by omega) ?_
    refine SWrap.u64w n.natAbs (by omega) ?_
    exact SRet.pure (.p _ (.int _ _))
  · refine SCmp.no (decide_eq_false (by omega)) ?_
    refine SWrap.u64w n.natAbs (by omega) ?_
    exact SRet.pure (.p _ (.int _ _))
theorem conv3 {H : Hp} {a b c : AV} {x y z : PV} (h : x.one = true ∧ y.one = true ∧ z.one = true) (ha : Conv [] H a (.p x)) (hb : Conv [] H b (.p y)) (hc : Conv [] H c (.p z)) : Conv [] H (.agg [a, b, c]) (.p (.agg [x, y, z])) :=
  .aggp (by simp [h.1, h.2.1, h.2.2]) rfl fun i c d e1 e2 => by
    match i, e1, e2 with
    | 0, e1, e2 => cases e1; cases e2; exact ha
    | 1, e1, e2 => cases e1; cases e2; exact hb
    | 2, e1, e2 => cases e1; cases e2; exact hc
theorem rmake_ok (neg : Bool) (m m' : Bool) (n d : Nat) (hd : d ≠ 0) (hn' : bitLen n ≤ 1048576) (hd' : bitLen d ≤ 1048576) :
    CallP Tryz.prog 105 [.bool neg, natM m n, natM m' d] (.tup [.p (ratP (mkQ neg n d)), .p (.int .i64 0)]) [] := by
  refine callG_of_vc (wr := wr0) Γok mixed Tryz.func105 (by kernel_rfl) rfl (by kernel_rfl) (le_of_ble rfl) (by simp) ?_
  have n1 := nlen_bitLen n
  have n2 := nlen_bitLen d
  refine SZ.mk (nlen d : Int) (by simp) ?_
  refine SCmp.no (eqF (by have := mt nlen_zero_iff.1 hd; omega)) ?_
  refine SZ.mk (nlen n : Int) (by simp) ?_
  by_cases hn : n = 0
  · subst hn
    refine SCmp.yes (eqT (by rw [nlen_zero_iff.2 rfl]; rfl)) ?_
    refine SCall.pure (rzero_ok) ?_
    rw [show mkQ neg 0 d = 0 by cases neg <;> simp [mkQ, sgn]]
    exact SRet.pure (.tup rfl fun i c d e1 e2 => by
      match i, e1, e2 with
      | 0, e1, e2 => cases e1; cases e2; exact .p _ (pers_rat _ _ _)
      | 1, e1, e2 => cases e1; cases e2; exact .p _ (.int _ _))
  · refine SCmp.no (eqF (by have := mt nlen_zero_iff.1 hn; omega)) ?_
    refine SCall.pure (roneN_ok) ?_
    have n3 : nlen 1 ≤ 549755813888 := Nat.le_trans (nlen_bitLen 1) (by decide)
    refine SCall.pure (rcmp_ok m' false d 1 (by omega) n3) ?_
    by_cases h1 : d = 1
    · subst h1
      refine SCmp.yes (by simp [cmpZ]) ?_
      refine roomNl (by omega) ?_
      refine SCall.pure (roneN_ok) ?_
      have e := ratP_mkQ (neg := neg) (n := n) (d := 1) (by omega) hn
      rw [Nat.gcd_one_right, Nat.div_one, Nat.div_one] at e
      rw [e]
      refine SRet.pure (.tup rfl fun i c d e1 e2 => ?_)
      match i, e1, e2 with
      | 0, e1, e2 => cases e1; cases e2; exact conv3 ⟨rfl, rfl, rfl⟩ (.p _ (.bool _)) (frz0 rfl (by simp)) (.p _ (.sl _ _ (pers_limbs _)))
      | 1, e1, e2 => cases e1; cases e2; exact .p _ (.int _ _)
    · refine SCmp.no (by simp only [cmpZ]; split <;> simp [h1]) ?_
      have hg : 0 < Nat.gcd n d := Nat.gcd_pos_of_pos_right _ (by omega)
      have hgl : bitLen (Nat.gcd n d) ≤ 1048576 := Nat.le_trans (bitLen_mono (Nat.gcd_le_right _ (by omega))) hd'
      refine SCall.pure (rgcd_ok m m' n d hn' hd') ?_
      refine SCall.pureT (rdiv_ok m false n (Nat.gcd n d) (by omega) hn' hgl) (fun _ => rfl) ?_
      refine SCall.pureT (rdiv_ok m' false d (Nat.gcd n d) (by omega) hd' hgl) (fun _ => rfl) ?_
      rw [ratP_mkQ hd hn]
      exact SRet.pure (.tup rfl fun i c d e1 e2 => by
        match i, e1, e2 with
        | 0, e1, e2 => cases e1; cases e2; exact .p _ (pers_rat _ _ _)
        | 1, e1, e2 => cases e1; cases e2; exact .p _ (.int _ _))
theorem rof2_ok (n d : Int) (hn : -9223372036854775808 ≤ n ∧ n < 9223372036854775808) (hd : -9223372036854775808 ≤ d ∧ d < 9223372036854775808) (hd0 : d ≠ 0) :
    CallP Tryz.prog 43 [.int .i64 n, .int .i64 d] (.tup [.p (ratP (mkQ (decide (n < 0) != decide (d < 0)) n.natAbs d.natAbs)), .p (.int .i64 0)]) [] := by
  refine callG_of_vc (wr := wr0) Γok mixed Tryz.func43 (by kernel_rfl) rfl (by kernel_rfl) (le_of_ble rfl) (by simp) ?_
  refine SCmp.sym ?_
  refine SCmp.sym ?_
  refine SCmp.sym ?_
  refine SCall.pure (rsize_ok n hn) ?_
  refine SCall.pure (rof_ok n.natAbs (by omega)) ?_
  refine SCall.pure (rsize_ok d hd) ?_
  refine SCall.pure (rof_ok d.natAbs (by omega)) ?_
  have b1 : bitLen n.natAbs ≤ 64 := bitLen_le (by show _ < 18446744073709551616; omega)
  have b2 : bitLen d.natAbs ≤ 64 := bitLen_le (by show _ < 18446744073709551616; omega)
  refine SCall.pureT (rmake_ok _ false false n.natAbs d.natAbs (by omega) (by omega) (by omega)) (fun _ => rfl) ?_
  exact SRet.pure (.tup rfl fun i c d e1 e2 => by
    match i, e1, e2 with
    | 0, e1, e2 => cases e1; cases e2; exact .p _ (pers_rat _ _ _)
    | 1, e1, e2 => cases e1; cases e2; exact .p _ (.int _ _))
theorem mkQ_int (n : Int) : mkQ (decide (n < 0) != decide ((1 : Int) < 0)) n.natAbs (1 : Int).natAbs = (n : Rat) := by
  have : sgn (decide (n < 0) != decide ((1 : Int) < 0)) n.natAbs = n := by
    by_cases h : n < 0 <;> simp [sgn, h] <;> omega
  rw [mkQ, this]
  simp [Rat.mkRat_one]
theorem rint_ok (n : Int) (hn : -9223372036854775808 ≤ n ∧ n < 9223372036854775808) : CallP Tryz.prog 13 [.int .i64 n] (.p (ratP (n : Rat))) [] := by
  refine callG_of_vc (wr := wr0) Γok mixed Tryz.func13 (by kernel_rfl) rfl (by kernel_rfl) (le_of_ble rfl) (by simp) ?_
  have h := rof2_ok n 1 hn (by omega) (by omega)
  rw [mkQ_int] at h
  refine SCall.pureT (h) (fun _ => rfl) ?_
  exact SRet.pure (.p _ (pers_rat _ _ _))
end Go.Proofs.YtnilcfiemgmfdaaGreat
namespace Go.Proofs.YtnilcfiemgmfdaaGreat
open Go
set_option linter.unusedVariables false
set_option linter.unusedSimpArgs false
set_option maxRecDepth 10000
theorem Bz.nn {q : Rat} {k : Nat} (h : Bz q k) (hk : k ≤ 1099511627776) : nlen q.num.natAbs ≤ 1099511627776 := Nat.le_trans h.sz.n hk
theorem Bz.nd {q : Rat} {k : Nat} (h : Bz q k) (hk : k ≤ 1099511627776) : nlen q.den ≤ 1099511627776 := Nat.le_trans h.sz.d hk
theorem absP (q : Rat) : PV.agg [.bool false, natP q.num.natAbs, natP q.den] = ratP q.abs := by
  rw [Rat.abs]
  split
  · rename_i h
    have := Rat.num_nonneg.2 h
    rw [ratP, decide_eq_false (by omega)]
  · rename_i h
    have h : q.num < 0 := by have := mt Rat.num_nonneg.1 h; omega
    rw [ratP, Rat.neg_num, Rat.neg_den, Int.natAbs_neg, decide_eq_false (by omega)]
theorem Bz.abs {q : Rat} {k : Nat} (h : Bz q k) : Bz q.abs k := by
  rw [Rat.abs]; split
  · exact h
  · exact h.neg
theorem num0 {q : Rat} : nlen q.num.natAbs = 0 ↔ q = 0 := by
  rw [nlen_zero_iff, Int.natAbs_eq_zero, Rat.num_eq_zero]
theorem rnought_ok (q : Rat) : CallP Tryz.prog 19 [ratP q] (.p (.bool (decide (q = 0)))) [] := by
  refine callG_of_vc (wr := wr0) Γok mixed Tryz.func19 (by kernel_rfl) rfl (by kernel_rfl) (le_of_ble rfl) (by simp) ?_
  refine SZ.mk (nlen q.num.natAbs : Int) (by simp) ?_
  by_cases h : q = 0
  · refine SCmp.yes (eqT (by have := num0.2 h; omega)) ?_
    rw [decide_eq_true h]
    exact SRet.pure (.tf true)
  · refine SCmp.no (eqF (by have := mt num0.1 h; omega)) ?_
    rw [decide_eq_false h]
    exact SRet.pure (.tf false)
theorem rat_ext {p q : Rat} (h1 : decide (p.num < 0) = decide (q.num < 0)) (h2 : p.num.natAbs = q.num.natAbs) (h3 : p.den = q.den) : p = q := by
  refine Rat.ext ?_ h3
  have : (p.num < 0) ↔ (q.num < 0) := by simpa using h1
  omega
theorem rsame_ok (p q : Rat) {j k : Nat} (hp : Bz p j) (hq : Bz q k) (h : j + k ≤ 1048576) : CallP Tryz.prog 16 [ratP p, ratP q] (.p (.bool (decide (p = q)))) [] := by
  refine callG_of_vc (wr := wr0) Γok mixed Tryz.func16 (by kernel_rfl) rfl (by kernel_rfl) (le_of_ble rfl) (by simp) ?_
  have h1 := hp.sz.n
  have h2 := hp.sz.d
  have h3 := hq.sz.n
  have h4 := hq.sz.d
  by_cases hs : decide (p.num < 0) = decide (q.num < 0)
  · refine SCmp.yes (beq_iff_eq.2 hs) ?_
    refine SCall.pure (rcmp_ok false false p.num.natAbs q.num.natAbs (by omega) (by omega)) ?_
    by_cases hn : p.num.natAbs = q.num.natAbs
    · refine SCmp.yes (by simp [cmpZ, hn]) ?_
      refine SCall.pure (rcmp_ok false false p.den q.den (by omega) (by omega)) ?_
      by_cases hd : p.den = q.den
      · refine SCmp.yes (by simp [cmpZ, hd]) ?_
        rw [decide_eq_true (show p = q from rat_ext hs hn hd)]
        exact SRet.pure (.tf true)
      · refine SCmp.no (by simp only [cmpZ]; split <;> simp [hd]) ?_
        rw [decide_eq_false (show ¬ p = q from fun e => hd (by rw [e]))]
        exact SRet.pure (.tf false)
    · refine SCmp.no (by simp only [cmpZ]; split <;> simp [hn]) ?_
      rw [decide_eq_false (show ¬ p = q from fun e => hn (by rw [e]))]
      exact SRet.pure (.tf false)
  · refine SCmp.no (beq_eq_false_iff_ne.2 hs) ?_
    rw [decide_eq_false (show ¬ p = q from fun e => hs (by rw [e]))]
    exact SRet.pure (.tf false)
abbrev rats (l : List Rat) : List PV := l.map ratP
abbrev ratsM (m : Bool) (l : List Rat) : PV := .sl m 3 (rats l)
theorem SIdx.rb {l : List Rat} {i : Int} {K : Nat → PV → Prop} (j : Nat) (hi : i = j) (hj : j < l.length) (hk : K j (ratP (l.getD j 0))) : SIdx (rats l) i K :=
  .mk j _ hi (by simp [List.getElem?_map, List.getElem?_eq_getElem hj, List.getD]) hk
theorem pers_rats (l : List Rat) : ∀ e ∈ rats l, ∀ c ∈ e.cells, Pers c := by
  intro e he c hc
  obtain ⟨x, _, rfl⟩ := List.mem_map.1 he
  have hc : c ∈ [PV.bool (decide (x.num < 0)), natP x.num.natAbs, natP x.den] := hc
  simp at hc
  rcases hc with rfl | rfl | rfl
  · exact .bool _
  · exact .sl _ _ (pers_limbs _)
  · exact .sl _ _ (pers_limbs _)
def Bl (l : List Rat) (k : Nat) : Prop := ∀ i, i < l.length → Bz (l.getD i 0) k
end Go.Proofs.YtnilcfiemgmfdaaGreat

namespace Go.Proofs.YtnilcfiemgmfdaaGreat
open Go
set_option linter.unusedVariables false
set_option linter.unusedSimpArgs false
set_option maxRecDepth 10000
theorem nl_one : nl 1 = [1] := by rw [nl_pos (by omega), show 1 / 4294967296 = 0 by decide, nl_zero]
theorem frz1 {H : Hp} {h : Nat} {T : TypeId} (hB : look H h = .vec T 1 [.int .u32 1]) : Conv [] H (.vec h 1 0 1) (.p (natP 1)) := by
  show Conv _ _ _ (.p (.sl false 1 (limbs (nl 1))))
  rw [nl_one]
  exact frz0 (l := [1]) hB rfl
def lst (N : Nat) (g : Nat → Rat) : List Rat := (List.range N).map g
theorem lst_length {N : Nat} {g : Nat → Rat} : (lst N g).length = N := by simp [lst]
theorem lst_getD {N : Nat} {g : Nat → Rat} {i : Nat} (h : i < N) : (lst N g).getD i 0 = g i := by simp [lst, List.getD, h]
theorem SIdx.rf {N : Nat} {g : Nat → Rat} {i : Int} {K : Nat → PV → Prop} (j : Nat) (hi : i = j) (hj : j < N) (hk : K j (ratP (g j))) : SIdx (rats (lst N g)) i K := by
  refine .rb j hi (by rw [lst_length]; exact hj) ?_
  rw [lst_getD hj]; exact hk
theorem frzR {H : Hp} {h : Nat} {l : List Rat} {T : TypeId} {n : Nat} (hB : look H h = .vec T 3 (rats l)) (hn : n = l.length) : Conv [] H (.vec h 3 0 n) (.p (ratsM false l)) :=
  .frz hB (by simp) (by simp [hn]) (pers_rats l) (by rw [List.drop_zero]; exact List.take_of_length_le (by simp [hn]))
theorem SMake.rat {n : Int} {K : Nat → Prop} (j : Nat) (hi : n = j) (h : j ≤ 1099511627776) (hk : K j) : SMake n 56 K := .mk j hi (by omega) (by omega) hk
/-- A call that makes one block and answers with it. -/
theorem SCall.fresh {P : Program} {wr : Bool} {f : FuncId} {L : Hd → Blk} {base : Nat} {K : AV → List (Hd × Blk) → Prop} {pvs : List PV} {T : TypeId} {W off len : Nat} {es : List PV} (hc : CallP P f pvs (.vec 0 W off len) [.vec T W es])
    (hk : K (.vec base W off len) [(base, .vec T W es)]) {raw : List AV} : SCall P wr f raw (pvs.map .p) L base K :=
  .mk [] (pvs.map .p) (.vec 0 W off len) [] [.vec T W es] (fun _ => rfl) .nil (fun _ h => by simp at h) (by rw [AV.renL_eq, List.map_map]; exact List.map_congr_left fun _ _ => rfl) rfl (fun i h B e => by simp at e) (fun _ h => by simp at h) (fun _ h => by simp at h) (Nat.zero_le _) (fun B h => by simp at h; subst h; exact fun e => by cases e)
    (fun a ha k hk => by obtain ⟨v, _, rfl⟩ := List.mem_map.1 ha; simp only [AV.men] at hk) hc hk
/-- What is answered is a new block of the caller's. -/
theorem getD_of_look {H : Hp} {h : Nat} {B : Blk} (hB : look H h = B) (hl : B.live) : H.getD h .free = B := by
  have hB : (H.getD h .free).top = B := hB
  generalize H.getD h .free = C at hB
  cases C <;> first | exact hB | (subst hB; exact hl.elim)
theorem SRet.new {av : AV} {H : Hp} {T : TypeId} {W off len : Nat} {es : List PV} (h : Nat) (hav : av = .vec h W off len) (h0 : look H h = .vec T W es) (hp : ∀ e ∈ es, ∀ c ∈ e.cells, Pers c) : SRet [] av H (.vec 0 W off len) [.vec T W es] :=
  .mk [h] rfl (by simp) rfl (Nat.zero_le _) (fun h hl => by rw [look_nil] at hl; exact hl.elim) (fun h hl => absurd (look_nil h) hl) (fun i h' B e1 e2 => by
    match i, e1, e2 with
    | 0, e1, e2 => cases e1; cases e2; rw [getD_of_look h0 trivial]; exact .vec hp) (by rw [hav]; exact .vec rfl)
abbrev rat0 : PV := .agg [.bool false, .sl false 1 [], .sl false 1 []]
theorem fill_set {α : Type} (l : List α) (z v : α) {n i : Nat} (hi : i < n) (hl : l.length = i) : (l ++ List.replicate (n - i) z).set i v = (l ++ [v]) ++ List.replicate (n - (i + 1)) z := by
  subst hl
  rw [List.set_append_right _ _ (Nat.le_refl _), Nat.sub_self]
  obtain ⟨d, hd⟩ : ∃ d, n - l.length = d + 1 := ⟨n - l.length - 1, by omega⟩
  rw [hd, List.replicate_succ, List.set_cons_zero, show n - (l.length + 1) = d by omega, List.append_assoc]
  rfl
theorem take_snoc (l : List Rat) {i : Nat} (h : i < l.length) : l.take (i + 1) = l.take i ++ [l.getD i 0] := by
  rw [List.take_add_one]; simp [List.getD, List.getElem?_eq_getElem h]
theorem bz_zero : Bz 0 1 := ⟨by decide, by decide⟩
theorem bz_one : Bz 1 1 := ⟨by decide, by decide⟩
end Go.Proofs.YtnilcfiemgmfdaaGreat

namespace Go.Proofs.YtnilcfiemgmfdaaGreat
open Go
set_option linter.unusedVariables false
set_option linter.unusedSimpArgs false
set_option maxRecDepth 10000
theorem nright_ok (m : Bool) (a : Nat) (ha : nlen a ≤ 1099511627776) : CallP Tryz.prog 98 [natM m a] (.p (.bool true)) [] := by
  refine callG_of_vc (wr := wr0) Γok mixed Tryz.func98 (by kernel_rfl) rfl (by kernel_rfl) (le_of_ble rfl) (by simp) ?_
  refine SZ.mk (nlen a : Int) (by simp) ?_
  by_cases h0 : a = 0
  · refine SCmp.yes (eqT (by rw [nlen_zero_iff.2 h0]; rfl)) ?_
    exact SRet.pure (.tf _)
  · have h1 : nlen a ≠ 0 := mt nlen_zero_iff.1 h0
    refine SCmp.no (eqF (by omega)) ?_
    refine SZ.mk (nlen a : Int) (by simp) ?_
    refine SWrap.i64z ((nlen a - 1 : Nat) : Int) (by omega) (by omega) ?_
    refine SIdx.lb (nlen a - 1) rfl (by show nlen a - 1 < nlen a; omega) ?_
    have h2 : (nl a).getD (nlen a - 1) 0 ≠ 0 := nl_last h0
    refine SCmp.yes (neT (by omega)) ?_
    exact SRet.pure (.tf _)
theorem ratright_ok (q : Rat) {k : Nat} (hq : Sz q k) (hk : k ≤ 137438953472) : CallP Tryz.prog 41 [ratP q] (.p (.bool true)) [] := by
  refine callG_of_vc (wr := wr0) Γok mixed Tryz.func41 (by kernel_rfl) rfl (by kernel_rfl) (le_of_ble rfl) (by simp) ?_
  have hn : nlen q.num.natAbs ≤ 137438953472 := by have := hq.1; omega
  have hd : nlen q.den ≤ 137438953472 := by have := hq.2; omega
  have hd0 : nlen q.den ≠ 0 := fun h => q.den_nz (nlen_zero_iff.1 h)
  refine SCall.pure (nright_ok false q.num.natAbs (by omega)) ?_
  refine SCmp.no (rfl) ?_
  refine SCall.pure (nright_ok false q.den (by omega)) ?_
  refine SCmp.no (rfl) ?_
  refine SZ.mk (nlen q.den : Int) (by simp) ?_
  refine SCmp.no (eqF (by omega)) ?_
  refine SZ.mk (nlen q.num.natAbs : Int) (by simp) ?_
  have n1 : nlen 1 ≤ 549755813888 := Nat.le_trans (nlen_bitLen 1) (by decide)
  by_cases h0 : q = 0
  · subst h0
    refine SCmp.yes (eqT (by rw [show (0 : Rat).num.natAbs = 0 from rfl, nlen_zero_iff.2 rfl]; rfl)) ?_
    have c1 := cmp_ok false false 1 1 n1 n1
    rw [show cmpZ 1 1 = 0 by decide] at c1
    refine SDraw.mk (by kernel_rfl) ?_
    repeat refine SOp.mk _ _ (And.intro rfl rfl) rfl ?_
    refine SOp.mk _ _ (SCmp.yes rfl (And.intro rfl rfl)) rfl ?_
    repeat refine SOp.mk _ _ (And.intro rfl rfl) rfl ?_
    refine SOp.mk _ _ (SCall.pure (one_ok) (And.intro rfl rfl)) rfl ?_
    refine SOp.mk _ _ (SCall.pure (c1) (And.intro rfl rfl)) rfl ?_
    refine SOp.mk _ _ (SCmp.yes rfl (And.intro rfl rfl)) rfl ?_
    repeat refine SOp.mk _ _ (And.intro rfl rfl) rfl ?_
    exact SRet.pure (.tf _)
  · have hnz : nlen q.num.natAbs ≠ 0 := fun h => h0 (Rat.num_eq_zero.1 (by have := nlen_zero_iff.1 h; omega))
    refine SCmp.no (eqF (by omega)) ?_
    have c1 := gcd_ok false false q.num.natAbs q.den hn hd
    rw [show Nat.gcd q.num.natAbs q.den = 1 from q.reduced] at c1
    have c2 := cmp_ok false false 1 1 n1 n1
    rw [show cmpZ 1 1 = 0 by decide] at c2
    refine SCall.pure (c1) ?_
    refine SCall.pure (one_ok) ?_
    refine SCall.pure (c2) ?_
    refine SCmp.yes (rfl) ?_
    exact SRet.pure (.tf _)
theorem SKeys.all {b : PV → Bool} {es : List (PV × PV)} {K : Prop} (h : es.all (fun e => b e.1) = true) (hk : K) : SKeys b es K :=
  .mk (fun e he => List.all_eq_true.1 h e he) hk
theorem SPut.add {es : List (PV × PV)} {k v : PV} {K : List (PV × PV) → Prop} (h : es.all (fun e => !PV.keq k e.1) = true) (hk : K (es ++ [(k, v)])) : SPut es k v K :=
  .new _ (fun e he => by have := List.all_eq_true.1 h e he; simpa using this) rfl hk
theorem SGet.at {es : List (PV × PV)} {k : PV} {K : Option PV → Prop} (i : Nat) (e : PV × PV) (h : es[i]? = some e) (he : PV.keq k e.1 = true) (hf : es.zipIdx.all (fun x => Nat.beq x.2 i || !PV.keq k x.1.1) = true) (hk : K (some e.2)) : SGet es k K :=
  .yes i e h he (fun j e' hj hj' => by
    have := List.all_eq_true.1 hf (e', j) (List.mem_zipIdx_iff_getElem?.2 hj')
    simpa [hj] using this) hk
theorem SGet.none {es : List (PV × PV)} {k : PV} {K : Option PV → Prop} (h : es.all (fun e => !PV.keq k e.1) = true) (hk : K Option.none) : SGet es k K :=
  .no (fun e he => by have := List.all_eq_true.1 h e he; simpa using this) hk
end Go.Proofs.YtnilcfiemgmfdaaGreat

namespace Go.Proofs.YtnilcfiemgmfdaaGreat
open Go
set_option linter.unusedVariables false
set_option linter.unusedSimpArgs false
set_option maxRecDepth 10000
def iter {α : Type} (f : Nat → α → α) : Nat → α → α
  | 0, c => c
  | k + 1, c => f k (iter f k c)
end Go.Proofs.YtnilcfiemgmfdaaGreat

namespace Go.Proofs.YtnilcfiemgmfdaaGreat
open Go
set_option linter.unusedVariables false
set_option linter.unusedSimpArgs false
set_option maxRecDepth 10000
theorem within_aux {a n : Int} (hn : 0 < n) : (if a.tmod n < 0 then a.tmod n + n else a.tmod n) = a % n := by
  rw [Int.tmod_eq_emod]
  have h1 := Int.emod_nonneg a (show n ≠ 0 by omega)
  have h2 := Int.emod_lt_of_pos a hn
  have h3 : ((n.natAbs : Nat) : Int) = n := Int.natAbs_of_nonneg (by omega)
  split
  · rw [show a % n - ((0 : Nat) : Int) = a % n by simp, if_neg (by omega)]
  · rw [h3, if_pos (by omega)]; omega
theorem tmod_bd (a : Int) {n : Int} (hn : 0 < n) : -n ≤ a.tmod n ∧ a.tmod n < n := by
  have := within_aux (a := a) hn
  have h1 := Int.emod_nonneg a (show n ≠ 0 by omega)
  have h2 := Int.emod_lt_of_pos a hn
  split at this
  · omega
  · omega
def I64 (n : Int) : Prop := -9223372036854775808 ≤ n ∧ n < 9223372036854775808
def I64s (l : List Int) : Prop := ∀ i, I64 (l.getD i 0)
theorem int_bz {n : Int} {k : Nat} (h : bitLen n.natAbs ≤ k) (hk : 1 ≤ k) : Bz (n : Rat) k := ⟨by simpa using h, by rw [Rat.den_intCast, show bitLen 1 = 1 by decide]; exact hk⟩
end Go.Proofs.YtnilcfiemgmfdaaGreat

namespace Go.Proofs.YtnilcfiemgmfdaaGreat
set_option linter.unusedVariables false
section
variable (x f : Nat → Rat)
end
def sm : Nat → (Nat → Rat) → Rat
  | 0, _ => 0
  | n + 1, f => sm n f + f n
theorem sm_congr {f g : Nat → Rat} : ∀ {n : Nat}, (∀ i, i < n → f i = g i) → sm n f = sm n g := by
  intro n
  induction n with
  | zero => intro _; rfl
  | succ n ih => intro h; rw [sm, sm, ih fun i hi => h i (by omega), h n (Nat.lt_succ_self n)]
end Go.Proofs.YtnilcfiemgmfdaaGreat

namespace Go.Proofs.YtnilcfiemgmfdaaGreat
open Go
set_option linter.unusedVariables false
set_option linter.unusedSimpArgs false
set_option maxRecDepth 10000
def fl {α : Type} (n : Nat) (f : Nat → α) : List α := (List.range n).map f
@[simp] theorem fl_length {α : Type} {n : Nat} {f : Nat → α} : (fl n f).length = n := by simp [fl]
theorem fl_get {α : Type} {n : Nat} {f : Nat → α} {i : Nat} (h : i < n) : (fl n f)[i]? = some (f i) := by simp [fl, h]
theorem fl_get_iff {α : Type} {n : Nat} {f : Nat → α} {i : Nat} {v : α} : (fl n f)[i]? = some v ↔ i < n ∧ f i = v := by
  constructor
  · intro h
    have hi : i < n := by have := (List.getElem?_eq_some_iff.1 h).1; simpa using this
    rw [fl_get hi] at h
    exact ⟨hi, by simpa using h⟩
  · rintro ⟨hi, rfl⟩; exact fl_get hi
theorem fl_set {α : Type} {n : Nat} {f : Nat → α} {i : Nat} {v : α} : (fl n f).set i v = fl n (upd f i v) := by
  apply List.ext_getElem (by simp)
  intro k h1 h2
  simp only [List.getElem_set, fl, List.getElem_map, List.getElem_range, upd]
  by_cases e : i = k
  · rw [if_pos e, if_pos e.symm]
  · rw [if_neg e, if_neg (Ne.symm e)]
theorem fl_snoc {α : Type} {n : Nat} {f : Nat → α} : fl (n + 1) f = fl n f ++ [f n] := by simp [fl, List.range_succ]
theorem fl_congr {α : Type} {n : Nat} {f g : Nat → α} (h : ∀ i, i < n → f i = g i) : fl n f = fl n g := List.map_congr_left fun i hi => h i (by simpa using hi)
theorem fl_map {α β : Type} {n : Nat} {f : Nat → α} {g : α → β} : (fl n f).map g = fl n fun i => g (f i) := by simp [fl]
theorem fl_mem {α : Type} {n : Nat} {f : Nat → α} {x : α} (h : x ∈ fl n f) : ∃ i, i < n ∧ f i = x := by
  simp only [fl, List.mem_map, List.mem_range] at h; exact h
theorem lst_fl {n : Nat} {g : Nat → Rat} : lst n g = fl n g := rfl
theorem app_lst (k : Nat) (f : Nat → Rat) (q : Rat) (h : q = f k) : rats (lst k f) ++ [ratP q] = rats (lst (k + 1) f) := by
  subst h; rw [rats, rats, lst, lst, List.range_succ, List.map_append, List.map_append]; rfl
theorem one_lst (f : Nat → Rat) (q : Rat) (h : q = f 0) : [ratP q] = rats (lst 1 f) := app_lst 0 f q h
abbrev matP (m m' : Bool) (n w : Nat) (A : Nat → Nat → Rat) : PV := .sl m 1 (fl n fun i => ratsM m' (lst w (A i)))
theorem SIdx.mf {m' : Bool} {n w : Nat} {A : Nat → Nat → Rat} {i : Int} {K : Nat → PV → Prop} (j : Nat) (hi : i = j) (hj : j < n) (hk : K j (ratsM m' (lst w (A j)))) : SIdx (fl n fun i => ratsM m' (lst w (A i))) i K :=
  .mk j _ hi (fl_get hj) hk
theorem pers_matP {n w : Nat} {A : Nat → Nat → Rat} : Pers (matP false false n w A) :=
  .sl _ _ fun e he c hc => by
    obtain ⟨i, _, rfl⟩ := fl_mem he
    simp only [PV.cells, List.mem_singleton] at hc
    subst hc
    exact .sl _ _ (pers_rats _)
abbrev plc (p c n : Nat) (s : Nat → Nat) : List AV := fl n fun i => .vec (.r p (s i)) 3 0 c
abbrev plr (n w : Nat) (G : Nat → Nat → Rat) : List (Option (List PV)) := fl n fun k => some (rats (lst w (G k)))
theorem renL_fl {ρ : Hd → Hd} {n : Nat} {f : Nat → AV} : AV.renL ρ (fl n f) = fl n fun i => (f i).ren ρ := by rw [AV.renL_eq, fl_map]
theorem plr_snoc {n w : Nat} {G : Nat → Nat → Rat} : plr (n + 1) w G = plr n w G ++ [some (rats (lst w (G n)))] := fl_snoc
theorem look_pr {H : Hp} {p n w : Nat} {T : TypeId} {G : Nat → Nat → Rat} (hH : H.getD p .free = .pool T 3 (plr n w G)) {k : Nat} (hk : k < n) : look H (.r p k) = .vec T 3 (rats (lst w (G k))) := by
  simp only [look, hH, Blk.row, fl_get hk]
/-- The call's own matrix, as it is answered: read alone from then on. -/
theorem frzM {H : Hp} {h p n N w : Nat} {T T' : TypeId} {G : Nat → Nat → Rat} {s : Nat → Nat} (hB : look H h = .rows T (plc p w n s)) (hH : H.getD p .free = .pool T' 3 (plr N w G)) (hs : ∀ i, i < n → s i < N) : Conv [] H (.vec h 1 0 n) (.p (matP false false n w fun i => G (s i))) := by
  refine Conv.frzR (h := h) hB (by simp) (by simp) (fun d hd => by obtain ⟨i, _, rfl⟩ := fl_mem hd; rfl) (by simp) fun i c d e1 e2 => ?_
  obtain ⟨hi, rfl⟩ := fl_get_iff.1 e1
  obtain ⟨_, rfl⟩ := fl_get_iff.1 e2
  exact .frz (look_pr hH (hs i hi)) (by simp) (by simp [lst]) (pers_rats _) (by rw [List.drop_zero]; exact List.take_of_length_le (by simp [lst]))
abbrev bxQ (q : Rat) : List AV := [.p (.bool (decide (q.num < 0))), .p (natP q.num.natAbs), .p (natP q.den)]
end Go.Proofs.YtnilcfiemgmfdaaGreat

namespace Go.Proofs.YtnilcfiemgmfdaaGreat
open Go
set_option linter.unusedVariables false
set_option linter.unusedSimpArgs false
set_option maxRecDepth 10000
structure GV where
  k : Nat
  n : Nat
  r : Nat
  A : Nat → Rat
  B : Nat → Rat
  G : Nat → Rat
  H : Nat → Rat
def cntA (k n : Nat) : Nat := if k = 1 ∨ k = 2 then 2 * n - 1 else if k = 6 then 0 else n
def cntB (k n : Nat) : Nat := if k = 5 ∨ k = 7 then n else 0
def cntH (k n r : Nat) : Nat := if k = 6 ∨ k = 7 then n * r else 0
def GV.la (g : GV) : Nat := cntA g.k g.n
def GV.lb (g : GV) : Nat := cntB g.k g.n
def GV.lh (g : GV) : Nat := cntH g.k g.n g.r
abbrev genC (m : Nat → Bool) (g : GV) : List PV := [.int .i64 g.k, .int .i64 g.n, .int .i64 g.r, ratsM (m 0) (lst g.la g.A), ratsM (m 1) (lst g.lb g.B), ratsM (m 2) (lst g.lh g.G), ratsM (m 3) (lst g.lh g.H)]
abbrev genP (m : Nat → Bool) (g : GV) : PV := .agg (genC m g)
end Go.Proofs.YtnilcfiemgmfdaaGreat

namespace Go.Proofs.YtnilcfiemgmfdaaGreat
open Go
set_option linter.unusedVariables false
set_option linter.unusedSimpArgs false
set_option maxRecDepth 10000
theorem cnt_le {k n r : Nat} (hn1 : 1 ≤ n) (hn : n ≤ 8) (hr : r ≤ 3) : cntA k n ≤ 15 ∧ cntB k n ≤ 8 ∧ cntH k n r ≤ 24 ∧ cntB k n ≤ n := by
  have hnr : n * r ≤ 24 := Nat.mul_le_mul hn hr
  unfold cntA cntB cntH
  refine ⟨?_, ?_, ?_, ?_⟩ <;> (repeat' split) <;> omega
end Go.Proofs.YtnilcfiemgmfdaaGreat

namespace Go.Proofs.YtnilcfiemgmfdaaGreat
open Go
set_option linter.unusedVariables false
set_option linter.unusedSimpArgs false
set_option maxRecDepth 10000
abbrev znil : PV := .raw (.slice none 0 0)
end Go.Proofs.YtnilcfiemgmfdaaGreat

namespace Go.Proofs.YtnilcfiemgmfdaaGreat
open Go
set_option linter.unusedVariables false
set_option linter.unusedSimpArgs false
set_option maxRecDepth 10000
/-- Are two nodes made the same? -/
def twin13 (N : Nat) (ns : List Int) : Prop := 1 < ns.length ∧ ns.getD 1 0 % 4 = 0 ∧ 1 < N
instance (N : Nat) (ns : List Int) : Decidable (twin13 N ns) := inferInstanceAs (Decidable (_ ∧ _ ∧ _))
end Go.Proofs.YtnilcfiemgmfdaaGreat

namespace Go.Proofs.YtnilcfiemgmfdaaGreat
open Go
set_option linter.unusedVariables false
set_option linter.unusedSimpArgs false
set_option maxRecDepth 10000
def rowS (g : GV) (i j : Nat) : Rat := sm g.r fun t => g.G (i * g.r + t) * g.H (j * g.r + t)
def ent (g : GV) (i j : Nat) : Rat :=
  if g.k = 1 then g.A (i + g.n - 1 - j) else if g.k = 2 then g.A (i + j) else if g.k = 3 then g.A ((i + g.n - j) % g.n) else if g.k = 4 then g.A i ^ j
  else if g.k = 5 then 1 / (g.A i - g.B j) else if g.k = 6 then sm (min i j + 1) fun m => rowS g (i - m) (j - m) else rowS g i j / (g.A i - g.B j)
/-- A Gen that may be, of numbers of so many digits. -/
structure Wf (g : GV) (b c : Nat) : Prop where
  k1 : 1 ≤ g.k
  k7 : g.k ≤ 7
  kT : g.k ≤ 1
  n1 : 1 ≤ g.n
  n6 : g.n ≤ 8
  r2 : g.r ≤ 2
  r1 : g.k = 6 ∨ g.k = 7 → 1 ≤ g.r
  r0 : g.k ≤ 5 → g.r = 0
  bA : ∀ i, i < g.la → Bz (g.A i) b
  bB : ∀ i, i < g.lb → Bz (g.B i) c
  bG : ∀ i, i < g.lh → Bz (g.G i) b
  bH : ∀ i, i < g.lh → Bz (g.H i) b
  ne : ∀ i j, i < g.la → j < g.lb → g.A i ≠ g.B j
  bc : b ≤ c
  c4 : c ≤ 100
abbrev genA (m : Nat → Bool) (g : GV) : List AV := [.p (.int .i64 g.k), .p (.int .i64 g.n), .p (.int .i64 g.r), .p (ratsM (m 0) (lst g.la g.A)), .p (ratsM (m 1) (lst g.lb g.B)), .p (ratsM (m 2) (lst g.lh g.G)), .p (ratsM (m 3) (lst g.lh g.H))]
abbrev zratA : List AV := [.p (.bool false), .p (.sl false 1 []), .p (.sl false 1 [])]
end Go.Proofs.YtnilcfiemgmfdaaGreat

namespace Go.Proofs.YtnilcfiemgmfdaaGreat
open Go
set_option linter.unusedVariables false
set_option linter.unusedSimpArgs false
set_option maxRecDepth 10000
theorem ranked_ok (k : Nat) (h1 : 1 ≤ k) (h7 : k ≤ 7) : CallP Tryz.prog 152 [.int .i64 k] (.p (.bool (decide (k = 6 ∨ k = 7)))) [] := by
  refine callG_of_vc (wr := wr0) Γok mixed Tryz.func152 (by kernel_rfl) rfl (by kernel_rfl) (le_of_ble rfl) (by simp) ?_
  by_cases e6 : k = 6
  · refine SCmp.yes (decide_eq_true (by omega)) ?_
    rw [decide_eq_true (.inl e6)]
    exact SRet.pure (.tf _)
  · refine SCmp.no (decide_eq_false (by omega)) ?_
    by_cases e7 : k = 7
    · refine SCmp.yes (decide_eq_true (by omega)) ?_
      rw [decide_eq_true (.inr e7)]
      exact SRet.pure (.tf _)
    · refine SCmp.no (decide_eq_false (by omega)) ?_
      rw [decide_eq_false (by omega)]
      exact SRet.pure (.tf _)
theorem sized_ok (m : Nat → Bool) (g : GV) {b c : Nat} (h : Wf g b c) : CallP Tryz.prog 90 [genP m g] (.p (.bool true)) [] := by
  have h1 := h.k1
  have h7 := h.k7
  have n1 := h.n1
  have n6 := h.n6
  have r2 := h.r2
  refine callG_of_vc (wr := wr0) Γok mixed Tryz.func90 (by kernel_rfl) rfl (by kernel_rfl) (le_of_ble rfl) (by simp) ?_
  refine SCmp.no (decide_eq_false (by omega)) ?_
  refine SCmp.no (decide_eq_false (by omega)) ?_
  refine SCall.pure (ranked_ok g.k h1 h7) ?_
  by_cases hl : g.k = 6 ∨ g.k = 7
  · have r1 := h.r1 hl
    rw [decide_eq_true hl]
    refine SCond.mk (fun _ => ?_) (fun h => by cases h)
    refine SCmp.yes (decide_eq_true (by omega)) ?_
    refine SCmp.yes (decide_eq_true (by omega)) ?_
    exact SRet.pure (.tf _)
  · have r0 := h.r0 (by omega)
    rw [decide_eq_false hl]
    refine SCond.mk (fun h => by cases h) (fun _ => ?_)
    refine SCmp.yes (decide_eq_true (by omega)) ?_
    exact SRet.pure (.tf _)
theorem genrows_ok (m : Nat → Bool) (g : GV) : CallL Tryz.prog 91 [genP m g] (.agg [ratsM (m 0) (lst g.la g.A), ratsM (m 1) (lst g.lb g.B), ratsM (m 2) (lst g.lh g.G), ratsM (m 3) (lst g.lh g.H)]) := by
  refine callL_of_vc (wr := wr0) Γok mixed Tryz.func91 (by kernel_rfl) rfl (by kernel_rfl) (le_of_ble rfl) ?_
  exact rfl
abbrev cntK (k i : Int) : PV := .agg [.int .i64 k, .int .i64 i]
abbrev cntV (a b c : Int) : PV := .agg [.int .i64 a, .int .i64 b, .int .i64 c]
abbrev cntM : List (PV × PV) := [(cntK 1 0, cntV 2 0 (-1)), (cntK 2 0, cntV 2 0 (-1)), (cntK 3 0, cntV 1 0 0), (cntK 4 0, cntV 1 0 0), (cntK 5 0, cntV 1 0 0), (cntK 5 1, cntV 1 0 0), (cntK 6 2, cntV 0 1 0), (cntK 6 3, cntV 0 1 0), (cntK 7 0, cntV 1 0 0), (cntK 7 1, cntV 1 0 0), (cntK 7 2, cntV 0 1 0), (cntK 7 3, cntV 0 1 0)]
theorem counts_ok : CallP Tryz.prog 92 [] (.p (.mp false cntM)) [] := by
  refine callG_of_vc (wr := wr0) Γok mixed Tryz.func92 (by kernel_rfl) rfl (by kernel_rfl) (le_of_ble rfl) (by simp) ?_
  refine SDraw.mkX (by kernel_rfl) ?_
  repeat refine SOp.mk _ _ (And.intro rfl rfl) rfl ?_
  refine SOp.mk _ _ (SKeys.all rfl <| SPut.add rfl (And.intro rfl rfl)) rfl ?_
  repeat refine SOp.mk _ _ (And.intro rfl rfl) rfl ?_
  refine SOp.mk _ _ (SKeys.all rfl <| SPut.add rfl (And.intro rfl rfl)) rfl ?_
  repeat refine SOp.mk _ _ (And.intro rfl rfl) rfl ?_
  refine SOp.mk _ _ (SKeys.all rfl <| SPut.add rfl (And.intro rfl rfl)) rfl ?_
  repeat refine SOp.mk _ _ (And.intro rfl rfl) rfl ?_
  refine SOp.mk _ _ (SKeys.all rfl <| SPut.add rfl (And.intro rfl rfl)) rfl ?_
  repeat refine SOp.mk _ _ (And.intro rfl rfl) rfl ?_
  refine SOp.mk _ _ (SKeys.all rfl <| SPut.add rfl (And.intro rfl rfl)) rfl ?_
  repeat refine SOp.mk _ _ (And.intro rfl rfl) rfl ?_
  refine SOp.mk _ _ (SKeys.all rfl <| SPut.add rfl (And.intro rfl rfl)) rfl ?_
  repeat refine SOp.mk _ _ (And.intro rfl rfl) rfl ?_
  refine SOp.mk _ _ (SKeys.all rfl <| SPut.add rfl (And.intro rfl rfl)) rfl ?_
  repeat refine SOp.mk _ _ (And.intro rfl rfl) rfl ?_
  refine SOp.mk _ _ (SKeys.all rfl <| SPut.add rfl (And.intro rfl rfl)) rfl ?_
  repeat refine SOp.mk _ _ (And.intro rfl rfl) rfl ?_
  refine SOp.mk _ _ (SKeys.all rfl <| SPut.add rfl (And.intro rfl rfl)) rfl ?_
  repeat refine SOp.mk _ _ (And.intro rfl rfl) rfl ?_
  refine SOp.mk _ _ (SKeys.all rfl <| SPut.add rfl (And.intro rfl rfl)) rfl ?_
  repeat refine SOp.mk _ _ (And.intro rfl rfl) rfl ?_
  refine SOp.mk _ _ (SKeys.all rfl <| SPut.add rfl (And.intro rfl rfl)) rfl ?_
  repeat refine SOp.mk _ _ (And.intro rfl rfl) rfl ?_
  refine SOp.mk _ _ (SKeys.all rfl <| SPut.add rfl (And.intro rfl rfl)) rfl ?_
  repeat refine SOp.mk _ _ (And.intro rfl rfl) rfl ?_
  refine SFin.mkL (by kernel_rfl) ?_
  refine SLit.mk cntM rfl rfl fun es hp => ?_
  refine SRet.pure (.frzmap (es := es) rfl (by simp) hp fun e he => ?_)
  have : ∀ a b c d f : Int, Pers (cntK a b) ∧ Pers (cntV c d f) := fun a b c d f => ⟨.agg _ fun x hx => by
    simp only [List.mem_cons, List.not_mem_nil, or_false] at hx; rcases hx with rfl | rfl <;> exact .int _ _, .agg _ fun x hx => by
    simp only [List.mem_cons, List.not_mem_nil, or_false] at hx; rcases hx with rfl | rfl | rfl <;> exact .int _ _⟩
  have he := hp.mem_iff.1 he
  simp only [cntM, List.mem_cons, List.not_mem_nil, or_false] at he
  rcases he with rfl | rfl | rfl | rfl | rfl | rfl | rfl | rfl | rfl | rfl | rfl | rfl <;> exact this _ _ _ _ _
theorem bz_nlen {q : Rat} (h : Bz q 100) : nlen q.num.natAbs ≤ 4 ∧ nlen q.den ≤ 4 := by
  have : ∀ {a : Nat}, bitLen a ≤ 100 → nlen a ≤ 4 := fun {a} ha => nlen_le (Nat.lt_of_lt_of_le (bitLen_lt a) (Nat.le_trans (Nat.pow_le_pow_right (by decide) ha) (by decide)))
  exact ⟨this h.1, this h.2⟩
theorem gsmall_ok (q : Rat) (h : Bz q 100) : CallP Tryz.prog 95 [ratP q] (.p (.bool true)) [] := by
  obtain ⟨h1, h2⟩ := bz_nlen h
  refine callG_of_vc (wr := wr0) Γok mixed Tryz.func95 (by kernel_rfl) rfl (by kernel_rfl) (le_of_ble rfl) (by simp) ?_
  refine SZ.mk (nlen q.num.natAbs : Int) (by simp) ?_
  refine SCmp.yes (decide_eq_true (by omega)) ?_
  refine SZ.mk (nlen q.den : Int) (by simp) ?_
  refine SCmp.yes (decide_eq_true (by omega)) ?_
  refine SCall.pure (ratright_ok q h.sz (by omega)) ?_
  exact SRet.pure (.p _ (.bool _))
theorem check1_ok (q : Rat) (h : Bz q 100) : CallP Tryz.prog 94 [ratP q] (.p (.bool false)) [] := by
  refine callG_of_vc (wr := wr0) Γok mixed Tryz.func94 (by kernel_rfl) rfl (by kernel_rfl) (le_of_ble rfl) (by simp) ?_
  refine SCall.pure (gsmall_ok q h) ?_
  refine SCmp.no (rfl) ?_
  exact SRet.pure (.tf _)
theorem check2_ok (m : Bool) (a b : Rat) {k : Nat} (ha : Bz a k) (hb : Bz b k) (hk : k + k ≤ 1048576) : CallP Tryz.prog 96 [ratP b, .pel m (ratP a)] (.p (.bool (decide (a = b)))) [] := by
  refine callG_of_vc (wr := wr0) Γok mixed Tryz.func96 (by kernel_rfl) rfl (by kernel_rfl) (le_of_ble rfl) (by simp) ?_
  refine SCall.pure (ratsame_ok a b ha.sz hb.sz (by omega)) ?_
  exact SRet.pure (.p _ (.bool _))
theorem none1I_ok (m : Bool) (l : List Rat) (hF : ∀ i, i < l.length → CallP Tryz.prog 94 [ratP (l.getD i 0)] (.p (.bool false)) []) (hn : l.length ≤ 1099511627776) :
    CallP Tryz.prog 153 [ratsM m l, .fn 94 []] (.p (.int .i64 (-1))) [] := by
  refine callG_of_vc (wr := wr0) Γok mixed Tryz.func153 (by kernel_rfl) rfl (by kernel_rfl) (le_of_ble rfl) (by simp) ?_
  refine SZ.mk (l.length : Int) (by simp) ?_
  refine SLoop.mk Nat (fun i => ([(0, .p (ratsM m l)), (1, .p (.fn 94 [])), (7, .p (.int .i64 l.length)), (8, .p (.int .i64 i))], []))
    (fun i => i ≤ l.length) (fun i => l.length - i) 0 [] (Nat.zero_le _) ⟨rfl, .nil, rfl, rfl, rfl, ⟨rfl, rfl, rfl, rfl, trivial⟩, trivial⟩ ?_
  intro i h1
  have h1 : i ≤ l.length := h1
  by_cases hi : i < l.length
  · refine SCmp.yes (decide_eq_true (by omega)) ?_
    refine SIdx.rb i rfl hi ?_
    refine SCall.pure (pvs := [ratP (l.getD i 0)]) (hF i hi) ?_
    refine SCond.mk (fun h => by cases h) (fun _ => ?_)
    refine SWrap.i64z ((i + 1 : Nat) : Int) (by omega) (by omega) ?_
    exact ⟨i + 1, [], hi, by show l.length - (i + 1) < l.length - i; omega, ⟨rfl, .nil, rfl, rfl, rfl, ⟨rfl, rfl, rfl, rfl, trivial⟩, trivial⟩⟩
  · refine SCmp.no (decide_eq_false (by omega)) ?_
    exact SRet.pure (.p _ (.int _ _))
theorem none1_ok (m : Bool) (l : List Rat) (hF : ∀ i, i < l.length → CallP Tryz.prog 94 [ratP (l.getD i 0)] (.p (.bool false)) []) (hn : l.length ≤ 1099511627776) :
    CallP Tryz.prog 93 [ratsM m l, .fn 94 []] (.p (.bool false)) [] := by
  refine callG_of_vc (wr := wr0) Γok mixed Tryz.func93 (by kernel_rfl) rfl (by kernel_rfl) (le_of_ble rfl) (by simp) ?_
  refine SCall.pure (pvs := [ratsM m l, .fn 94 []]) (none1I_ok m l hF hn) ?_
  refine SCmp.no (rfl) ?_
  exact SRet.pure (.tf _)
theorem none2I_ok (m : Bool) (m2 : Bool) (a : Rat) (l : List Rat) (hF : ∀ i, i < l.length → CallP Tryz.prog 96 [ratP (l.getD i 0), .pel m2 (ratP a)] (.p (.bool false)) []) (hn : l.length ≤ 1099511627776) :
    CallP Tryz.prog 153 [ratsM m l, .fn 96 [.pel m2 (ratP a)]] (.p (.int .i64 (-1))) [] := by
  refine callG_of_vc (wr := wr0) Γok mixed Tryz.func153 (by kernel_rfl) rfl (by kernel_rfl) (le_of_ble rfl) (by simp) ?_
  refine SZ.mk (l.length : Int) (by simp) ?_
  refine SLoop.mk Nat (fun i => ([(0, .p (ratsM m l)), (1, .p (.fn 96 [.pel m2 (ratP a)])), (7, .p (.int .i64 l.length)), (8, .p (.int .i64 i))], []))
    (fun i => i ≤ l.length) (fun i => l.length - i) 0 [] (Nat.zero_le _) ⟨rfl, .nil, rfl, rfl, rfl, ⟨rfl, rfl, rfl, rfl, trivial⟩, trivial⟩ ?_
  intro i h1
  have h1 : i ≤ l.length := h1
  by_cases hi : i < l.length
  · refine SCmp.yes (decide_eq_true (by omega)) ?_
    refine SIdx.rb i rfl hi ?_
    refine SCall.pure (pvs := [ratP (l.getD i 0), .pel m2 (ratP a)]) (hF i hi) ?_
    refine SCond.mk (fun h => by cases h) (fun _ => ?_)
    refine SWrap.i64z ((i + 1 : Nat) : Int) (by omega) (by omega) ?_
    exact ⟨i + 1, [], hi, by show l.length - (i + 1) < l.length - i; omega, ⟨rfl, .nil, rfl, rfl, rfl, ⟨rfl, rfl, rfl, rfl, trivial⟩, trivial⟩⟩
  · refine SCmp.no (decide_eq_false (by omega)) ?_
    exact SRet.pure (.p _ (.int _ _))
theorem none2_ok (m : Bool) (m2 : Bool) (a : Rat) (l : List Rat) (hF : ∀ i, i < l.length → CallP Tryz.prog 96 [ratP (l.getD i 0), .pel m2 (ratP a)] (.p (.bool false)) []) (hn : l.length ≤ 1099511627776) :
    CallP Tryz.prog 93 [ratsM m l, .fn 96 [.pel m2 (ratP a)]] (.p (.bool false)) [] := by
  refine callG_of_vc (wr := wr0) Γok mixed Tryz.func93 (by kernel_rfl) rfl (by kernel_rfl) (le_of_ble rfl) (by simp) ?_
  refine SCall.pure (pvs := [ratsM m l, .fn 96 [.pel m2 (ratP a)]]) (none2I_ok m m2 a l hF hn) ?_
  refine SCmp.no (rfl) ?_
  exact SRet.pure (.tf _)
end Go.Proofs.YtnilcfiemgmfdaaGreat

namespace Go.Proofs.YtnilcfiemgmfdaaGreat
open Go
set_option linter.unusedVariables false
set_option linter.unusedSimpArgs false
set_option maxRecDepth 10000
theorem Wf.la12 {g : GV} {b c : Nat} (h : Wf g b c) (hk : g.k = 1 ∨ g.k = 2) : g.la = 2 * g.n - 1 := by unfold GV.la cntA; rw [if_pos hk]
end Go.Proofs.YtnilcfiemgmfdaaGreat

namespace Go.Proofs.YtnilcfiemgmfdaaGreat
open Go
set_option linter.unusedVariables false
set_option linter.unusedSimpArgs false
set_option maxRecDepth 10000
theorem gcheck1_ok (m : Nat → Bool) (n r : Nat) (A B G H : Nat → Rat) {b c : Nat} (h : Wf ⟨1, n, r, A, B, G, H⟩ b c) : CallP Tryz.prog 40 [genP m ⟨1, n, r, A, B, G, H⟩] (.p (.int .i64 0)) [] := by
  have n6 : n ≤ 8 := h.n6
  have n1 : 1 ≤ n := h.n1
  have r2 : r ≤ 2 := h.r2
  have hnr : n * r ≤ 16 := Nat.mul_le_mul n6 r2
  have hc4 := h.c4
  have hbc := h.bc
  have cc := cnt_le (k := 1) (r := r) n1 (show n ≤ 8 by omega) (show r ≤ 3 by omega)
  have cb : ∀ i : Nat, (if i = 0 then cntA 1 n else if i = 1 then cntB 1 n else cntH 1 n r) ≤ 24 := fun i => by split <;> (try split) <;> omega
  show CallP Tryz.prog 40 [.agg [.int .i64 ((1 : Nat) : Int), .int .i64 (n : Int), .int .i64 (r : Int), ratsM (m 0) (lst (cntA 1 n) A), ratsM (m 1) (lst (cntB 1 n) B), ratsM (m 2) (lst (cntH 1 n r) G), ratsM (m 3) (lst (cntH 1 n r) H)]] (.p (.int .i64 0)) []
  refine callG_of_vc (wr := wr0) Γok mixed Tryz.func40 (by kernel_rfl) rfl (by kernel_rfl) (le_of_ble rfl) (by simp) ?_
  refine SCmp.no (decide_eq_false (by omega)) ?_
  refine SCmp.no (decide_eq_false (by omega)) ?_
  refine SCall.pure (sized_ok m ⟨1, n, r, A, B, G, H⟩ h) ?_
  refine SCmp.no (rfl) ?_
  refine SCall.lent [genP m ⟨1, n, r, A, B, G, H⟩] _ rfl (genrows_ok m ⟨1, n, r, A, B, G, H⟩) ?_
  refine SCall.pure (counts_ok) ?_
  refine SLoop.mk Nat (fun i => ([(1, .bptr 0 0), (3, .bptr 1 0), (4, .p (.mp false cntM)), (28, .p (.agg [ratsM (m 0) (lst (cntA 1 n) A), ratsM (m 1) (lst (cntB 1 n) B), ratsM (m 2) (lst (cntH 1 n r) G), ratsM (m 3) (lst (cntH 1 n r) H)])), (29, .p (.int .i64 i))], [.box 26 [.p (.int .i64 ((1 : Nat) : Int)), .p (.int .i64 (n : Int)), .p (.int .i64 (r : Int)), .p (ratsM (m 0) (lst (cntA 1 n) A)), .p (ratsM (m 1) (lst (cntB 1 n) B)), .p (ratsM (m 2) (lst (cntH 1 n r) G)), .p (ratsM (m 3) (lst (cntH 1 n r) H))], .box 73 [.p (ratsM (m 0) (lst (cntA 1 n) A)), .p (ratsM (m 1) (lst (cntB 1 n) B)), .p (ratsM (m 2) (lst (cntH 1 n r) G)), .p (ratsM (m 3) (lst (cntH 1 n r) H))]]))
    (fun i => i ≤ 4) (fun i => 4 - i) 0 [0, 1] (Nat.zero_le _) ⟨rfl, by simp, rfl, rfl, rfl, ⟨rfl, rfl, rfl, rfl, rfl, trivial⟩, ⟨rfl, rfl, trivial⟩⟩ ?_
  intro i hi
  have hi : i ≤ 4 := hi
  rcases (show i = 0 ∨ i = 1 ∨ i = 2 ∨ i = 3 ∨ i = 4 by omega) with rfl | rfl | rfl | rfl | rfl
  · refine SCmp.yes (rfl) ?_
    refine SIdx.mk 0 _ rfl rfl ?_
    refine SKeys.all rfl <| SGet.at 0 _ rfl rfl rfl ?_
    refine SZ.mk ((cntA 1 n : Nat) : Int) (by simp [lst]) ?_
    refine SPos.mk 0 rfl (by decide) ?_
    refine SWrap.i64z ((2 * n : Nat) : Int) (by omega) (by omega) ?_
    refine SPos.mk 1 rfl (by decide) ?_
    refine SWrap.i64z ((0 * n : Nat) : Int) (by omega) (by omega) ?_
    refine SWrap.i64z ((0 : Nat) : Int) (by simp) (by omega) ?_
    refine SWrap.i64z ((2 * n + 0 : Nat) : Int) (by omega) (by omega) ?_
    refine SPos.mk 2 rfl (by decide) ?_
    refine SWrap.i64z ((cntA 1 n : Nat) : Int) (by simp [cntA, cntB, cntH] <;> omega) (by have := cnt_le (k := 1) (r := r) n1 (show n ≤ 8 by omega) (show r ≤ 3 by omega); omega) ?_
    refine SCmp.no (neF rfl) ?_
    refine SWrap.i64z ((0 + 1 : Nat) : Int) (by omega) (by omega) ?_
    exact ⟨0 + 1, [0, 1], by decide, by decide, ⟨rfl, by simp, rfl, rfl, rfl, ⟨rfl, rfl, rfl, rfl, rfl, trivial⟩, ⟨rfl, rfl, trivial⟩⟩⟩
  · refine SCmp.yes (rfl) ?_
    refine SIdx.mk 1 _ rfl rfl ?_
    refine SKeys.all rfl <| SGet.none rfl ?_
    refine SZ.mk ((cntB 1 n : Nat) : Int) (by simp [lst]) ?_
    refine SPos.mk 0 rfl (by decide) ?_
    refine SWrap.i64z ((0 * n : Nat) : Int) (by omega) (by omega) ?_
    refine SPos.mk 1 rfl (by decide) ?_
    refine SWrap.i64z ((0 * n : Nat) : Int) (by omega) (by omega) ?_
    refine SWrap.i64z ((0 : Nat) : Int) (by simp) (by omega) ?_
    refine SWrap.i64z ((0 * n + 0 : Nat) : Int) (by omega) (by omega) ?_
    refine SPos.mk 2 rfl (by decide) ?_
    refine SWrap.i64z ((cntB 1 n : Nat) : Int) (by simp [cntA, cntB, cntH] <;> omega) (by have := cnt_le (k := 1) (r := r) n1 (show n ≤ 8 by omega) (show r ≤ 3 by omega); omega) ?_
    refine SCmp.no (neF rfl) ?_
    refine SWrap.i64z ((1 + 1 : Nat) : Int) (by omega) (by omega) ?_
    exact ⟨1 + 1, [0, 1], by decide, by decide, ⟨rfl, by simp, rfl, rfl, rfl, ⟨rfl, rfl, rfl, rfl, rfl, trivial⟩, ⟨rfl, rfl, trivial⟩⟩⟩
  · refine SCmp.yes (rfl) ?_
    refine SIdx.mk 2 _ rfl rfl ?_
    refine SKeys.all rfl <| SGet.none rfl ?_
    refine SZ.mk ((cntH 1 n r : Nat) : Int) (by simp [lst]) ?_
    refine SPos.mk 0 rfl (by decide) ?_
    refine SWrap.i64z ((0 * n : Nat) : Int) (by omega) (by omega) ?_
    refine SPos.mk 1 rfl (by decide) ?_
    refine SWrap.i64z ((0 * n : Nat) : Int) (by omega) (by omega) ?_
    refine SWrap.i64z ((0 : Nat) : Int) (by simp) (by omega) ?_
    refine SWrap.i64z ((0 * n + 0 : Nat) : Int) (by omega) (by omega) ?_
    refine SPos.mk 2 rfl (by decide) ?_
    refine SWrap.i64z ((cntH 1 n r : Nat) : Int) (by simp [cntA, cntB, cntH] <;> omega) (by have := cnt_le (k := 1) (r := r) n1 (show n ≤ 8 by omega) (show r ≤ 3 by omega); omega) ?_
    refine SCmp.no (neF rfl) ?_
    refine SWrap.i64z ((2 + 1 : Nat) : Int) (by omega) (by omega) ?_
    exact ⟨2 + 1, [0, 1], by decide, by decide, ⟨rfl, by simp, rfl, rfl, rfl, ⟨rfl, rfl, rfl, rfl, rfl, trivial⟩, ⟨rfl, rfl, trivial⟩⟩⟩
  · refine SCmp.yes (rfl) ?_
    refine SIdx.mk 3 _ rfl rfl ?_
    refine SKeys.all rfl <| SGet.none rfl ?_
    refine SZ.mk ((cntH 1 n r : Nat) : Int) (by simp [lst]) ?_
    refine SPos.mk 0 rfl (by decide) ?_
    refine SWrap.i64z ((0 * n : Nat) : Int) (by omega) (by omega) ?_
    refine SPos.mk 1 rfl (by decide) ?_
    refine SWrap.i64z ((0 * n : Nat) : Int) (by omega) (by omega) ?_
    refine SWrap.i64z ((0 : Nat) : Int) (by simp) (by omega) ?_
    refine SWrap.i64z ((0 * n + 0 : Nat) : Int) (by omega) (by omega) ?_
    refine SPos.mk 2 rfl (by decide) ?_
    refine SWrap.i64z ((cntH 1 n r : Nat) : Int) (by simp [cntA, cntB, cntH] <;> omega) (by have := cnt_le (k := 1) (r := r) n1 (show n ≤ 8 by omega) (show r ≤ 3 by omega); omega) ?_
    refine SCmp.no (neF rfl) ?_
    refine SWrap.i64z ((3 + 1 : Nat) : Int) (by omega) (by omega) ?_
    exact ⟨3 + 1, [0, 1], by decide, by decide, ⟨rfl, by simp, rfl, rfl, rfl, ⟨rfl, rfl, rfl, rfl, rfl, trivial⟩, ⟨rfl, rfl, trivial⟩⟩⟩
  · refine SCmp.no (rfl) ?_
    refine SLoop.mk Nat (fun i => ([(1, .bptr 0 0), (60, .p (.agg [ratsM (m 0) (lst (cntA 1 n) A), ratsM (m 1) (lst (cntB 1 n) B), ratsM (m 2) (lst (cntH 1 n r) G), ratsM (m 3) (lst (cntH 1 n r) H)])), (61, .p (.int .i64 i))], [.box 26 [.p (.int .i64 ((1 : Nat) : Int)), .p (.int .i64 (n : Int)), .p (.int .i64 (r : Int)), .p (ratsM (m 0) (lst (cntA 1 n) A)), .p (ratsM (m 1) (lst (cntB 1 n) B)), .p (ratsM (m 2) (lst (cntH 1 n r) G)), .p (ratsM (m 3) (lst (cntH 1 n r) H))], .box 73 [.p (ratsM (m 0) (lst (cntA 1 n) A)), .p (ratsM (m 1) (lst (cntB 1 n) B)), .p (ratsM (m 2) (lst (cntH 1 n r) G)), .p (ratsM (m 3) (lst (cntH 1 n r) H))]]))
      (fun i => i ≤ 4) (fun i => 4 - i) 0 [0, 1] (Nat.zero_le _) ⟨rfl, by simp, rfl, rfl, rfl, ⟨rfl, rfl, rfl, trivial⟩, ⟨rfl, rfl, trivial⟩⟩ ?_
    intro i hi
    have hi : i ≤ 4 := hi
    rcases (show i = 0 ∨ i = 1 ∨ i = 2 ∨ i = 3 ∨ i = 4 by omega) with rfl | rfl | rfl | rfl | rfl
    · refine SCmp.yes (rfl) ?_
      refine SIdx.mk 0 _ rfl rfl ?_
      refine SCall.pure (none1_ok (m 0) (lst (cntA 1 n) A) (fun i hi => by rw [lst_length] at hi; rw [lst_getD hi]; exact check1_ok _ ((h.bA i hi).mono (by omega))) (by rw [lst_length]; exact Nat.le_trans (cb 0) (by decide))) ?_
      refine SCond.mk (fun h => by cases h) (fun _ => ?_)
      refine SWrap.i64z ((0 + 1 : Nat) : Int) (by omega) (by omega) ?_
      exact ⟨0 + 1, [0, 1], by decide, by decide, ⟨rfl, by simp, rfl, rfl, rfl, ⟨rfl, rfl, rfl, trivial⟩, ⟨rfl, rfl, trivial⟩⟩⟩
    · refine SCmp.yes (rfl) ?_
      refine SIdx.mk 1 _ rfl rfl ?_
      refine SCall.pure (none1_ok (m 1) (lst (cntB 1 n) B) (fun i hi => by rw [lst_length] at hi; rw [lst_getD hi]; exact check1_ok _ ((h.bB i hi).mono (by omega))) (by rw [lst_length]; exact Nat.le_trans (cb 1) (by decide))) ?_
      refine SCond.mk (fun h => by cases h) (fun _ => ?_)
      refine SWrap.i64z ((1 + 1 : Nat) : Int) (by omega) (by omega) ?_
      exact ⟨1 + 1, [0, 1], by decide, by decide, ⟨rfl, by simp, rfl, rfl, rfl, ⟨rfl, rfl, rfl, trivial⟩, ⟨rfl, rfl, trivial⟩⟩⟩
    · refine SCmp.yes (rfl) ?_
      refine SIdx.mk 2 _ rfl rfl ?_
      refine SCall.pure (none1_ok (m 2) (lst (cntH 1 n r) G) (fun i hi => by rw [lst_length] at hi; rw [lst_getD hi]; exact check1_ok _ ((h.bG i hi).mono (by omega))) (by rw [lst_length]; exact Nat.le_trans (cb 2) (by decide))) ?_
      refine SCond.mk (fun h => by cases h) (fun _ => ?_)
      refine SWrap.i64z ((2 + 1 : Nat) : Int) (by omega) (by omega) ?_
      exact ⟨2 + 1, [0, 1], by decide, by decide, ⟨rfl, by simp, rfl, rfl, rfl, ⟨rfl, rfl, rfl, trivial⟩, ⟨rfl, rfl, trivial⟩⟩⟩
    · refine SCmp.yes (rfl) ?_
      refine SIdx.mk 3 _ rfl rfl ?_
      refine SCall.pure (none1_ok (m 3) (lst (cntH 1 n r) H) (fun i hi => by rw [lst_length] at hi; rw [lst_getD hi]; exact check1_ok _ ((h.bH i hi).mono (by omega))) (by rw [lst_length]; exact Nat.le_trans (cb 3) (by decide))) ?_
      refine SCond.mk (fun h => by cases h) (fun _ => ?_)
      refine SWrap.i64z ((3 + 1 : Nat) : Int) (by omega) (by omega) ?_
      exact ⟨3 + 1, [0, 1], by decide, by decide, ⟨rfl, by simp, rfl, rfl, rfl, ⟨rfl, rfl, rfl, trivial⟩, ⟨rfl, rfl, trivial⟩⟩⟩
    · refine SCmp.no (rfl) ?_
      refine SZ.mk ((cntA 1 n : Nat) : Int) (by simp [lst]) ?_
      refine SLoop.mk Nat (fun i => ([(1, .bptr 0 0), (68, .p (ratsM (m 0) (lst (cntA 1 n) A))), (69, .p (.int .i64 ((cntA 1 n : Nat) : Int))), (70, .p (.int .i64 i))], [.box 26 [.p (.int .i64 ((1 : Nat) : Int)), .p (.int .i64 (n : Int)), .p (.int .i64 (r : Int)), .p (ratsM (m 0) (lst (cntA 1 n) A)), .p (ratsM (m 1) (lst (cntB 1 n) B)), .p (ratsM (m 2) (lst (cntH 1 n r) G)), .p (ratsM (m 3) (lst (cntH 1 n r) H))], .box 73 [.p (ratsM (m 0) (lst (cntA 1 n) A)), .p (ratsM (m 1) (lst (cntB 1 n) B)), .p (ratsM (m 2) (lst (cntH 1 n r) G)), .p (ratsM (m 3) (lst (cntH 1 n r) H))]]))
        (fun i => i ≤ cntA 1 n) (fun i => cntA 1 n - i) 0 [0, 1] (Nat.zero_le _) ⟨rfl, by simp, rfl, rfl, rfl, ⟨rfl, rfl, rfl, rfl, trivial⟩, ⟨rfl, rfl, trivial⟩⟩ ?_
      intro i hi
      have hi : i ≤ cntA 1 n := hi
      have cA := cb 0
      by_cases hia : i < cntA 1 n
      · refine SCmp.yes (decide_eq_true (by omega)) ?_
        refine SIdx.rf i rfl hia ?_
        have hz := (h.bA i hia).mono (show b ≤ c by omega)
        have hc2 := none2_ok (m 1) true (A i) (lst (cntB 1 n) B) (fun j hj => by
          rw [lst_length] at hj; rw [lst_getD hj]
          have := check2_ok true (A i) (B j) hz (h.bB j hj) (by omega)
          rw [decide_eq_false (h.ne i j hia hj)] at this
          exact this) (by rw [lst_length]; exact Nat.le_trans (cb 1) (by decide))
        refine SCall.pure (pvs := [ratsM (m 1) (lst (cntB 1 n) B), .fn 96 [.pel true (ratP (A i))]]) hc2 ?_
        refine SCond.mk (fun h => by cases h) (fun _ => ?_)
        refine SWrap.i64z ((i + 1 : Nat) : Int) (by omega) (by omega) ?_
        exact ⟨i + 1, [0, 1], hia, by show cntA 1 n - (i + 1) < cntA 1 n - i; omega, ⟨rfl, by simp, rfl, rfl, rfl, ⟨rfl, rfl, rfl, rfl, trivial⟩, ⟨rfl, rfl, trivial⟩⟩⟩
      · refine SCmp.no (decide_eq_false (by omega)) ?_
        exact SRet.pure (.p _ (.int _ _))
theorem gcheck_ok (m : Nat → Bool) (g : GV) {b c : Nat} (h : Wf g b c) : CallP Tryz.prog 40 [genP m g] (.p (.int .i64 0)) [] := by
  obtain ⟨k, n, r, A, B, G, H⟩ := g
  have h1 : 1 ≤ k := h.k1
  have h2 : k ≤ 1 := h.kT
  obtain rfl : k = 1 := by omega
  exact gcheck1_ok m n r A B G H h
end Go.Proofs.YtnilcfiemgmfdaaGreat

namespace Go.Proofs.YtnilcfiemgmfdaaGreat
open Go
set_option linter.unusedVariables false
set_option linter.unusedSimpArgs false
set_option maxRecDepth 10000
theorem ratP_one' : ratP 1 = .agg [.bool false, natP 1, natP 1] := rfl
theorem gzero_ok : CallP Tryz.prog 129 [] (.p (ratP 0)) [] := by
  refine callG_of_vc (wr := wr0) Γok mixed Tryz.func129 (by kernel_rfl) rfl (by kernel_rfl) (le_of_ble rfl) (by simp) ?_
  refine SRet.pure ?_
  rw [ratP_zero]
  exact conv3 ⟨rfl, rfl, rfl⟩ (.p _ (.bool _)) (.p _ (.sl _ _ (fun e he => by simp at he))) (frz1 rfl)
end Go.Proofs.YtnilcfiemgmfdaaGreat

namespace Go.Proofs.YtnilcfiemgmfdaaGreat
open Go
set_option linter.unusedVariables false
set_option linter.unusedSimpArgs false
set_option maxRecDepth 10000
theorem gcopy_ok {q : Rat} {k : Nat} (h : Bz q k) (hk : k ≤ 1000000) : CallP Tryz.prog 63 [ratP q, ratP 0] (.p (ratP q)) [] := by
  have := ratadd_ok q 0 h.sz bz_zero.sz (by omega)
  rw [Rat.add_zero] at this; exact this
theorem gentry_ok (m : Nat → Bool) (g : GV) {b c : Nat} (h : Wf g b c) (i j : Nat) (hi : i < g.n) (hj : j < g.n) :
    CallP Tryz.prog 58 [genP m g, .int .i64 i, .int .i64 j] (.p (ratP (ent g i j))) [] := by
  have h8 := h.n6
  have h2 := h.r2
  have h4 := h.c4
  have h5 := h.bc
  have e : g.k = 1 := by have := h.k1; have := h.kT; omega
  have hl := h.la12 (.inl e)
  have hE : ent g i j = g.A (i + g.n - 1 - j) := by unfold ent; rw [if_pos e]
  rw [hE]
  refine callG_of_vc (wr := wr0) Γok mixed Tryz.func58 (by kernel_rfl) rfl (by kernel_rfl) (le_of_ble rfl) (by simp) ?_
  refine SCmp.yes (decide_eq_true (by omega)) ?_
  refine SDraw.mkX (by kernel_rfl) ?_
  repeat refine SOp.mk _ _ (And.intro rfl rfl) rfl ?_
  refine SOp.mk _ _ (SWrap.i64z ((i : Int) - j) rfl (by omega) (And.intro rfl rfl)) rfl ?_
  repeat refine SOp.mk _ _ (And.intro rfl rfl) rfl ?_
  refine SOp.mk _ _ (SWrap.i64z ((i + g.n - j : Nat) : Int) (by omega) (by omega) (And.intro rfl rfl)) rfl ?_
  refine SOp.mk _ _ (SWrap.i64z ((i + g.n - 1 - j : Nat) : Int) (by omega) (by omega) (And.intro rfl rfl)) rfl ?_
  refine SOp.mk _ _ (SIdx.rf (i + g.n - 1 - j) rfl (by omega) (And.intro rfl rfl)) rfl ?_
  repeat refine SOp.mk _ _ (And.intro rfl rfl) rfl ?_
  refine SOp.mk _ _ (SCall.pure (gzero_ok) (And.intro rfl rfl)) rfl ?_
  refine SOp.mk _ _ (SCall.pure (gcopy_ok (h.bA (i + g.n - 1 - j) (by omega)) (by omega)) (And.intro rfl rfl)) rfl ?_
  repeat refine SOp.mk _ _ (And.intro rfl rfl) rfl ?_
  refine SFin.mk (by kernel_rfl) ?_
  exact SRet.pure (.p _ (pers_rat _ _ _))
end Go.Proofs.YtnilcfiemgmfdaaGreat

namespace Go.Proofs.YtnilcfiemgmfdaaGreat
/-- The first place from p on, among so many, with no nought in column j. -/
def pvG (A : Nat → Nat → Rat) (j : Nat) : Nat → Nat → Nat
  | 0, p => p
  | d + 1, p => if A p j = 0 then pvG A j d (p + 1) else p
def pv (A : Nat → Nat → Rat) (j n r : Nat) : Nat := pvG A j (n - r) r
def swpM (A : Nat → Nat → Rat) (p r : Nat) : Nat → Nat → Rat := fun i => A (if i = p then r else if i = r then p else i)
/-- Column j is cleared below row r. -/
def redM (B : Nat → Nat → Rat) (r j : Nat) : Nat → Nat → Rat := fun i k => if r < i ∧ j ≤ k then B i k - B i j / B r j * B r k else B i k
structure ElS where
  A : Nat → Nat → Rat
  det : Rat
  r : Nat
/-- The round of column j. -/
def elS (n j : Nat) (s : ElS) : ElS :=
  if n ≤ pv s.A j n s.r then ⟨s.A, 0, s.r⟩ else
    ⟨redM (swpM s.A (pv s.A j n s.r) s.r) s.r j, (if pv s.A j n s.r = s.r then s.det else -s.det) * swpM s.A (pv s.A j n s.r) s.r s.r j, s.r + 1⟩
def elim (n : Nat) (A : Nat → Nat → Rat) (j : Nat) : ElS := iter (elS n) j ⟨A, 1, 0⟩
end Go.Proofs.YtnilcfiemgmfdaaGreat

namespace Go.Proofs.YtnilcfiemgmfdaaGreat
open Go
set_option linter.unusedVariables false
set_option linter.unusedSimpArgs false
set_option maxRecDepth 10000
theorem replicate_fl {α : Type} (n : Nat) (z : α) : List.replicate n z = fl n fun _ => z := by
  apply List.ext_getElem (by simp)
  intro i h1 h2
  simp [Go.Proofs.YtnilcfiemgmfdaaGreat.fl]
end Go.Proofs.YtnilcfiemgmfdaaGreat

namespace Go.Proofs.YtnilcfiemgmfdaaGreat
open Go
set_option linter.unusedVariables false
set_option linter.unusedSimpArgs false
abbrev half (p c n k : Nat) : List AV := fl n fun i => if i < k then .vec (.r p i) 3 0 c else .emp
abbrev halq (p c n k q : Nat) : List AV := fl n fun i => if i < k then .vec (.r p i) 3 0 c else if i = k then .vec (.t q) 3 0 c else .emp
theorem half_full {p c n : Nat} : half p c n n = plc p c n id := fl_congr fun i hi => if_pos hi
theorem half_set {p c n k q : Nat} : (half p c n k).set k (.vec (.t q) 3 0 c) = halq p c n k q := by
  rw [fl_set]
  refine fl_congr fun i _ => ?_
  unfold upd
  by_cases e : i = k
  · rw [if_pos e, if_neg (by omega), if_pos e]
  · rw [if_neg e]
    show (if i < k then AV.vec (.r p i) 3 0 c else .emp) = _
    by_cases e2 : i < k
    · rw [if_pos e2, if_pos e2]
    · rw [if_neg e2, if_neg e2, if_neg e]
theorem halq_get {p c n k q : Nat} (h : k < n) : (halq p c n k q)[k]? = some (.vec (.t q) 3 0 c) := by
  rw [fl_get h, if_neg (Nat.lt_irrefl k), if_pos rfl]
theorem halq_ren {hs : List Nat} {P : Hp} {p c n k q : Nat} (p' q' : Nat) (hp : hs.getD p 0 = p') (hp' : p' < 1000) (hq : hs.getD q 0 = q') (hq' : q' < 1000) : AV.renL (renW hs P) (halq p c n k q) = halq p' c n k q' := by
  rw [renL_fl]
  refine fl_congr fun i hi => ?_
  have eb : Nat.blt p' 1000 = true := blt_iff.2 hp'
  have ec : Nat.blt q' 1000 = true := blt_iff.2 hq'
  by_cases e : i < k
  · rw [if_pos e, if_pos e]; simp only [AV.ren, renW, hp, eb, cond_true]
  · rw [if_neg e, if_neg e]
    by_cases e2 : i = k
    · rw [if_pos e2, if_pos e2]; simp only [AV.ren, renW, hq, ec, cond_true]; rw [show ptop q' = q' from Nat.mod_eq_of_lt hq']
    · rw [if_neg e2, if_neg e2]; simp only [AV.ren]
/-- The pool takes in the row that is filled. -/
theorem half_absorb {hs : List Nat} {P : Hp} {p p' q c n k : Nat} (hp : hs.getD p 0 = p' + 1000 * (q + 1)) (hp' : p' < 1000) (hl : plenAt P p = k + 1) : AV.renL (renW hs P) (half p c n (k + 1)) = halq p' c n k q := by
  rw [renL_fl]
  have eb : Nat.blt (hs.getD p 0) 1000 = false := by
    cases hb : Nat.blt (hs.getD p 0) 1000 with
    | false => rfl
    | true => have := blt_iff.1 hb; omega
  have e1 : hs.getD p 0 % 1000 = p' := by omega
  have e2 : hs.getD p 0 / 1000 - 1 = q := by omega
  refine fl_congr fun i hi => ?_
  by_cases h1 : i < k
  · have e4 : Nat.blt (i + 1) (k + 1) = true := blt_iff.2 (by omega)
    rw [if_pos (by omega), if_pos h1]
    simp only [AV.ren, renW, eb, hl, e4, cond_false, cond_true, e1]
  · by_cases h2 : i = k
    · have e4 : Nat.blt (i + 1) (k + 1) = false := by
        cases hb : Nat.blt (i + 1) (k + 1) with
        | false => rfl
        | true => have := blt_iff.1 hb; omega
      rw [if_pos (by omega), if_neg h1, if_pos h2]
      simp only [AV.ren, renW, eb, hl, e4, cond_false, e2]
    · rw [if_neg (by omega), if_neg h1, if_neg h2]; simp only [AV.ren]
theorem half_in {P : Hp} {p c n k : Nat} (h : ∀ i, i < k → i < plenAt P p) : ∀ x ∈ half p c n k, ∀ h, x.men h → look P h ≠ .free := by
  intro x hx g hg
  obtain ⟨i, hi, rfl⟩ := fl_mem hx
  by_cases e : i < k
  · rw [if_pos e] at hg
    simp only [AV.men] at hg
    subst hg
    exact look_row (h i e)
  · rw [if_neg e] at hg; exact hg.elim
theorem halq_in {P : Hp} {p c n k q : Nat} (h : ∀ i, i < k → i < plenAt P p) (hq : look P (.t q) ≠ .free) : ∀ x ∈ halq p c n k q, ∀ h, x.men h → look P h ≠ .free := by
  intro x hx g hg
  obtain ⟨i, hi, rfl⟩ := fl_mem hx
  by_cases e : i < k
  · rw [if_pos e] at hg
    simp only [AV.men] at hg
    subst hg
    exact look_row (h i e)
  · rw [if_neg e] at hg
    by_cases e2 : i = k
    · rw [if_pos e2] at hg
      simp only [AV.men] at hg
      subst hg; exact hq
    · rw [if_neg e2] at hg; exact hg.elim
theorem half_ren0 {ρ : Hd → Hd} {p c n : Nat} : AV.renL ρ (half p c n 0) = List.replicate n .emp := by
  rw [renL_fl, replicate_fl]
  refine fl_congr fun i _ => ?_
  rw [if_neg (Nat.not_lt_zero i)]; simp only [AV.ren]
end Go.Proofs.YtnilcfiemgmfdaaGreat

