/- FloatInts, FloatScales: the walks. -/
import Derived.Test.YtjcmiedpgabdbaaFe1
namespace Go.Proofs.Ytjcmiedpgabdbaa
open Go
set_option linter.unusedVariables false
set_option linter.unusedSimpArgs false
set_option maxRecDepth 10000

theorem zint_bz {n : Int} (h : n.natAbs < 18446744073709551616) : Bz (n : Rat) 64 := ⟨by simpa using bitLen_le (show n.natAbs < 2 ^ 64 by simpa using h), by rw [Rat.den_intCast, show bitLen 1 = 1 by decide]; omega⟩
theorem zint_add (n m : Int) : ((n + m : Int) : Rat) = (n : Rat) + (m : Rat) := by simp
theorem zint_sub (n m : Int) : ((n - m : Int) : Rat) = (n : Rat) - (m : Rat) := by simp
theorem zint_mul (n m : Int) : ((n * m : Int) : Rat) = (n : Rat) * (m : Rat) := by simp
theorem rsame_self {p : Rat} {k : Nat} (hp : Bz p k) (h : k + k ≤ 1048576) : CallP Try.prog 34 [ratP p, ratP p] (.p (.bool true)) [] := by
  have := rsame_ok p p hp hp h
  rwa [decide_eq_true rfl] at this
theorem rfrat_fin {x : Nat} {q : Rat} (h : FinF x q) : CallP Try.prog 32 [.int .u64 x] (.tup [.p (ratP q), .p (.int .i64 0)]) [] := by
  have := rfrat_ok x h.lt h.nan h.inf
  rwa [h.val] at this
theorem mul_bd {n m : Int} (hn : -67108864 ≤ n ∧ n < 67108864) (hm : -33554432 ≤ m ∧ m < 33554432) : (n * m).natAbs < 9007199254740992 := by
  rw [Int.natAbs_mul]
  have h1 : n.natAbs ≤ 67108864 := by omega
  have h2 : m.natAbs ≤ 33554432 := by omega
  have := Nat.mul_le_mul h1 h2
  omega
theorem floatInts_ok (a b mode : Int) : CallP Try.prog 12 [.int .i64 a, .int .i64 b, .int .i64 mode] (.p (.bool true)) [] := by
  refine callG_of_vc (wr := wr0) Γok mixed Try.func12 (by kernel_rfl) rfl (by kernel_rfl) (le_of_ble rfl) (by simp) ?_
  refine SCall.pure (known3_ok) ?_
  refine SCmp.no (rfl) ?_
  obtain ⟨n, hn⟩ : ∃ n, n = a % 134217728 - 67108864 := ⟨_, rfl⟩
  obtain ⟨m, hm⟩ : ∃ m, m = b % 67108864 - 33554432 := ⟨_, rfl⟩
  obtain ⟨k, hk⟩ : ∃ k, k = mode % 5 := ⟨_, rfl⟩
  have bn : -67108864 ≤ n ∧ n < 67108864 := by omega
  have bm : -33554432 ≤ m ∧ m < 33554432 := by omega
  have bnm := mul_bd bn bm
  have w3 := within3_ok mode 5 (by omega) (by omega)
  rw [← hk] at w3
  refine SCall.pure (within3_ok a 134217728 (by omega) (by omega)) ?_
  refine SWrap.i64z n hn.symm (by omega) ?_
  refine SCall.pure (within3_ok b 67108864 (by omega) (by omega)) ?_
  refine SWrap.i64z m hm.symm (by omega) ?_
  refine SCall.pure (w3) ?_
  have c1 := sfof_ok (n : Rat) k (zint_bz (by omega)) (by omega)
  have c2 := sfof_ok (m : Rat) k (zint_bz (by omega)) (by omega)
  obtain ⟨hx, hp⟩ := (Dy.int (z := n) (by omega)).of k
  obtain ⟨hy, hq⟩ := (Dy.int (z := m) (by omega)).of k
  obtain ⟨⟨x, p⟩, hr⟩ : ∃ r, r = ofF (n : Rat) k := ⟨_, rfl⟩
  rw [← hr] at c1 hx hp
  obtain ⟨⟨y, q⟩, hr2⟩ : ∃ r, r = ofF (m : Rat) k := ⟨_, rfl⟩
  rw [← hr2] at c2 hy hq
  have hx : FinF x (n : Rat) := hx
  have hy : FinF y (m : Rat) := hy
  obtain rfl : p = 0 := hp
  obtain rfl : q = 0 := hq
  refine SCall.pure (rint_ok n (by omega)) ?_
  refine SCall.pureT (c1) (fun _ => rfl) ?_
  refine SCall.pure (rint_ok m (by omega)) ?_
  refine SCall.pureT (c2) (fun _ => rfl) ?_
  have d1 := Dy.int (z := n + m) (by omega)
  rw [zint_add] at d1
  obtain ⟨hs, hg⟩ := d1.add hx hy k
  have c3 := sfadd_ok x y k hx.lt hy.lt
  obtain ⟨⟨s, g⟩, hr3⟩ : ∃ r, r = addF x y k := ⟨_, rfl⟩
  rw [← hr3] at c3 hs hg
  have hs : FinF s ((n : Rat) + (m : Rat)) := hs
  obtain rfl : g = 0 := hg
  have d2 := Dy.int (z := n - m) (by omega)
  rw [zint_sub] at d2
  obtain ⟨hd, hh⟩ := d2.sub hx hy k
  have c4 := sfsub_ok x y k hx.lt hy.lt
  obtain ⟨⟨d, h⟩, hr4⟩ : ∃ r, r = subF x y k := ⟨_, rfl⟩
  rw [← hr4] at c4 hd hh
  have hd : FinF d ((n : Rat) - (m : Rat)) := hd
  obtain rfl : h = 0 := hh
  have d3 := Dy.int (z := n * m) bnm
  rw [zint_mul] at d3
  obtain ⟨hu, hi⟩ := d3.mul hx hy k
  have c5 := sfmul_ok x y k hx.lt hy.lt
  obtain ⟨⟨u, i⟩, hr5⟩ : ∃ r, r = mulF x y k := ⟨_, rfl⟩
  rw [← hr5] at c5 hu hi
  have hu : FinF u ((n : Rat) * (m : Rat)) := hu
  obtain rfl : i = 0 := hi
  rw [← zint_add] at hs
  rw [← zint_sub] at hd
  rw [← zint_mul] at hu
  refine SCall.pureT (c3) (fun _ => rfl) ?_
  refine SCall.pureT (c4) (fun _ => rfl) ?_
  refine SCall.pureT (c5) (fun _ => rfl) ?_
  refine SCall.pureT (rfrat_fin hs) (fun _ => rfl) ?_
  refine SCall.pureT (rfrat_fin hd) (fun _ => rfl) ?_
  refine SCall.pureT (rfrat_fin hu) (fun _ => rfl) ?_
  obtain ⟨e, he⟩ : ∃ e, e = n * m := ⟨_, rfl⟩
  rw [← he] at bnm
  refine SDraw.mk (by kernel_rfl) ?_
  repeat refine SOp.mk _ _ (And.intro rfl rfl) rfl ?_
  refine SOp.mk _ _ (SCmp.yes (eqT rfl) (And.intro rfl rfl)) rfl ?_
  repeat refine SOp.mk _ _ (And.intro rfl rfl) rfl ?_
  refine SOp.mk _ _ (SCmp.yes (eqT rfl) (And.intro rfl rfl)) rfl ?_
  repeat refine SOp.mk _ _ (And.intro rfl rfl) rfl ?_
  refine SOp.mk _ _ (SCmp.yes (eqT rfl) (And.intro rfl rfl)) rfl ?_
  repeat refine SOp.mk _ _ (And.intro rfl rfl) rfl ?_
  refine SOp.mk _ _ (SCmp.yes (eqT rfl) (And.intro rfl rfl)) rfl ?_
  repeat refine SOp.mk _ _ (And.intro rfl rfl) rfl ?_
  refine SOp.mk _ _ (SCmp.yes (eqT rfl) (And.intro rfl rfl)) rfl ?_
  repeat refine SOp.mk _ _ (And.intro rfl rfl) rfl ?_
  refine SOp.mk _ _ (SCmp.yes (eqT rfl) (And.intro rfl rfl)) rfl ?_
  repeat refine SOp.mk _ _ (And.intro rfl rfl) rfl ?_
  refine SOp.mk _ _ (SCmp.yes (eqT rfl) (And.intro rfl rfl)) rfl ?_
  repeat refine SOp.mk _ _ (And.intro rfl rfl) rfl ?_
  refine SOp.mk _ _ (SCmp.yes (eqT rfl) (And.intro rfl rfl)) rfl ?_
  repeat refine SOp.mk _ _ (And.intro rfl rfl) rfl ?_
  refine SOp.mk _ _ (SWrap.i64z (n + m) rfl (by omega) (And.intro rfl rfl)) rfl ?_
  refine SOp.mk _ _ (SCall.pure (rint_ok (n + m) (by omega)) (And.intro rfl rfl)) rfl ?_
  refine SOp.mk _ _ (SCall.pure (rsame_self (zint_bz (n := n + m) (by omega)) (by omega)) (And.intro rfl rfl)) rfl ?_
  repeat refine SOp.mk _ _ (And.intro rfl rfl) rfl ?_
  refine SOp.mk _ _ (SWrap.i64z (n - m) rfl (by omega) (And.intro rfl rfl)) rfl ?_
  refine SOp.mk _ _ (SCall.pure (rint_ok (n - m) (by omega)) (And.intro rfl rfl)) rfl ?_
  refine SOp.mk _ _ (SCall.pure (rsame_self (zint_bz (n := n - m) (by omega)) (by omega)) (And.intro rfl rfl)) rfl ?_
  repeat refine SOp.mk _ _ (And.intro rfl rfl) rfl ?_
  refine SOp.mk _ _ (SWrap.i64z (n * m) rfl (by omega) (And.intro rfl rfl)) rfl ?_
  refine SOp.mk _ _ (SCall.pure (rint_ok (n * m) (by omega)) (And.intro rfl rfl)) rfl ?_
  refine SOp.mk _ _ (SCall.pure (rsame_self (zint_bz (n := n * m) (by omega)) (by omega)) (And.intro rfl rfl)) rfl ?_
  repeat refine SOp.mk _ _ (And.intro rfl rfl) rfl ?_
  exact SRet.pure (.p _ (.bool _))
end Go.Proofs.Ytjcmiedpgabdbaa
