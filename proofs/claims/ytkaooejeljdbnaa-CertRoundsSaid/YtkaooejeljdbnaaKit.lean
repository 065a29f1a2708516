/- Steps in the forms in which the proofs take them. -/
import Derived.Test.YtkaooejeljdbnaaTab
namespace Go.Proofs.Ytkaooejeljdbnaa
open Go
set_option linter.unusedVariables false
abbrev limbs (l : List Nat) : List PV := l.map fun (x : Nat) => .int .u32 x
abbrev intsP (l : List Int) : List PV := l.map fun x => .int .i64 x
abbrev wr0 : FuncId → Bool := fun _ => false
theorem mixed : Try.prog.follows .mixedOrders = true := by kernel_rfl
theorem eqT {a b : Int} (h : a = b) : (a == b) = true := beq_iff_eq.2 h
theorem eqF {a b : Int} (h : a ≠ b) : (a == b) = false := beq_eq_false_iff_ne.2 h
theorem neT {a b : Int} (h : a ≠ b) : (a != b) = true := bne_iff_ne.2 h
theorem neF {a b : Int} (h : a = b) : (a != b) = false := by rw [h]; exact bne_self_eq_false b
theorem le_of_ble {a b : Nat} (h : Nat.ble a b = true) : a ≤ b := Nat.le_of_ble_eq_true h

theorem SWrap.i64 {e : Int} {K : Int → Prop} (h : -9223372036854775808 ≤ e ∧ e < 9223372036854775808) (hk : K e) : SWrap .i64 e K := .mk e (by rw [IntKind.wrap_i64]; omega) hk
theorem wrap_u (k : IntKind) (hs : k.signed = false) (e : Int) : k.wrap e = e % 2 ^ k.bits := by
  simp only [IntKind.wrap, hs, Bool.false_and, if_neg Bool.false_ne_true]
theorem SWrap.u64 {e : Int} {K : Int → Prop} (h : 0 ≤ e ∧ e < 18446744073709551616) (hk : K e) : SWrap .u64 e K := .mk e (by rw [wrap_u _ rfl]; exact Int.emod_eq_of_lt h.1 h.2) hk
theorem SWrap.u32 {e : Int} {K : Int → Prop} (h : 0 ≤ e ∧ e < 4294967296) (hk : K e) : SWrap .u32 e K := .mk e (by rw [wrap_u _ rfl]; exact Int.emod_eq_of_lt h.1 h.2) hk
theorem SWrap.u32m {e : Int} {K : Int → Prop} (hk : K (e % 4294967296)) : SWrap .u32 e K := .mk _ (by rw [wrap_u _ rfl]; rfl) hk
theorem SWrap.u64m {e : Int} {K : Int → Prop} (hk : K (e % 18446744073709551616)) : SWrap .u64 e K := .mk _ (by rw [wrap_u _ rfl]; rfl) hk
theorem SWrap.i64z {e : Int} {K : Int → Prop} (z : Int) (hz : e = z) (h : -9223372036854775808 ≤ z ∧ z < 9223372036854775808) (hk : K z) : SWrap .i64 e K := .mk z (by rw [IntKind.wrap_i64]; omega) hk
theorem SWrap.u64z {e : Int} {K : Int → Prop} (z : Nat) (hz : e = z) (h : z < 18446744073709551616) (hk : K z) : SWrap .u64 e K := .mk z (by rw [wrap_u _ rfl, hz]; exact Int.emod_eq_of_lt (by omega) (by show (z : Int) < 18446744073709551616; omega)) hk
theorem SWrap.u32z {e : Int} {K : Int → Prop} (z : Nat) (hz : e % 4294967296 = z) (hk : K z) : SWrap .u32 e K := .mk z (by rw [wrap_u _ rfl]; exact hz) hk
theorem SWrap.u64w {e : Int} {K : Int → Prop} (z : Nat) (hz : e % 18446744073709551616 = z) (hk : K z) : SWrap .u64 e K := .mk z (by rw [wrap_u _ rfl]; exact hz) hk
theorem SIdx.lb {l : List Nat} {i : Int} {K : Nat → PV → Prop} (j : Nat) (hi : i = j) (hj : j < l.length) (hk : K j (.int .u32 ((l.getD j 0 : Nat) : Int))) : SIdx (limbs l) i K :=
  .mk j _ hi (by simp [List.getElem?_map, List.getElem?_eq_getElem hj, List.getD]) hk
theorem SIdx.ib {l : List Int} {i : Int} {K : Nat → PV → Prop} (j : Nat) (hi : i = j) (hj : j < l.length) (hk : K j (.int .i64 (l.getD j 0))) : SIdx (intsP l) i K :=
  .mk j _ hi (by simp [List.getElem?_map, List.getElem?_eq_getElem hj, List.getD]) hk
@[simp] theorem Blk.top_vec {T : TypeId} {W : Nat} {es : List PV} : (Blk.vec T W es).top = .vec T W es := rfl
@[simp] theorem Blk.top_box {T : TypeId} {cs : List AV} : (Blk.box T cs).top = .box T cs := rfl
@[simp] theorem Blk.top_rows {T : TypeId} {cs : List AV} : (Blk.rows T cs).top = .rows T cs := rfl
@[simp] theorem Blk.top_map {es : List (PV × PV)} : (Blk.map es).top = .map es := rfl
@[simp] theorem Blk.top_dead : Blk.dead.top = .dead := rfl
theorem look_nil (h : Hd) : look [] h = .free := by cases h <;> rfl
theorem SRet.pure {av r : AV} {H : Hp} (h : Conv [] H av r) : SRet [] av H r [] :=
  .mk [] rfl List.nodup_nil rfl (Nat.le_refl _) (fun h hl => by rw [look_nil] at hl; exact hl.elim) (fun h hl => absurd (look_nil h) hl) (fun i h B e => by simp at e) h
theorem SShr32 {a : Nat} {K : Int → Prop} (hk : K ((a / 4294967296 : Nat) : Int)) : SGe 32 (SZ ((a : Int).fdiv (2 ^ (min (32 : Int).toNat (IntKind.bits .u64)))) K) :=
  .mk (by decide) (.mk _ (by
    show Int.fdiv (a : Int) 4294967296 = _
    rw [Int.fdiv_eq_ediv_of_nonneg _ (by decide)]; omega) hk)
theorem SShr63 {a : Nat} {K : Int → Prop} (hk : K ((a / 9223372036854775808 : Nat) : Int)) : SGe 63 (SZ ((a : Int).fdiv (2 ^ (min (63 : Int).toNat (IntKind.bits .u64)))) K) :=
  .mk (by decide) (.mk _ (by
    show Int.fdiv (a : Int) 9223372036854775808 = _
    rw [Int.fdiv_eq_ediv_of_nonneg _ (by decide)]; omega) hk)
theorem SView.all {es : List PV} {n : Nat} {K : List PV → Prop} (hn : n = es.length) (hk : K es) : SView es 0 n K := .mk es (by rw [List.drop_zero]; exact List.take_of_length_le (by omega)) (by omega) hk
theorem SEs.set {l : List Nat} {i x : Nat} {K : List PV → Prop} (hk : K (limbs (l.set i x))) : SEs ((limbs l).set i (.int .u32 x)) K := .mk _ (by simp [limbs, List.map_set]) hk
theorem SLt.set {l : List Nat} {i : Nat} {K : Prop} (h : i < l.length) (hk : K) : SLt i (limbs l).length K := .mk (by simpa using h) hk
theorem SIdx.setget {l : List Nat} {i : Nat} {K : Nat → PV → Prop} (hj : i < l.length) (hk : K i (.int .u32 ((l.getD i 0 : Nat) : Int))) : SIdx (limbs l) (i : Int) K := .lb i rfl hj hk
theorem limbs_replicate (n : Nat) : List.replicate n (PV.int .u32 0) = limbs (List.replicate n 0) := by simp [limbs]
theorem SMake.u32 {n : Int} {K : Nat → Prop} (j : Nat) (hi : n = j) (h : j ≤ 4398046511104) (hk : K j) : SMake n 4 K := .mk j hi (by omega) (by omega) hk
theorem SCall.pure {P : Program} {wr : Bool} {f : FuncId} {L : Hd → Blk} {base : Nat} {K : AV → List (Hd × Blk) → Prop} {pvs : List PV} {r : PV} (hc : CallP P f pvs (.p r) []) (hk : K (.p r) []) : SCall P wr f (pvs.map .p) L base K :=
  .mk [] (pvs.map .p) (.p r) [] [] (fun _ => rfl) .nil (fun _ h => by simp at h) (by rw [AV.renL_eq, List.map_map]; exact List.map_congr_left fun _ _ => rfl) rfl (fun i h B e => by simp at e) (fun _ h => by simp at h) (fun _ h => by simp at h) (Nat.zero_le _) (fun _ h => by simp at h)
    (fun a ha k hk => by obtain ⟨v, _, rfl⟩ := List.mem_map.1 ha; simp only [AV.men] at hk) hc hk
end Go.Proofs.Ytkaooejeljdbnaa
