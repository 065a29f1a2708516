/- IvalDots: the walk. -/
import Derived.Test.YtacklcbgkigcaaaGreatIw7
namespace Go.Proofs.YtacklcbgkigcaaaGreat
open Go
set_option linter.unusedVariables false
set_option linter.unusedSimpArgs false
set_option maxRecDepth 10000

def pickK (zs : List Int) (i : Nat) : Int := if i < zs.length then zs.getD i 0 else (i : Int)
theorem pickK_bd {zs : List Int} (h : I64s zs) {i : Nat} (hi : i < 1000) : I64 (pickK zs i) := by
  unfold pickK
  split
  · exact h i
  · exact ⟨by omega, by omega⟩
def rawL (l : List IvT) (zs : List Int) (i : Nat) : IvT := makeI (l.getD i (0, 0)) (6 + 12 * (pickK zs i).tmod 7)
def rawM (m : List IvT) (zs : List Int) (i : Nat) : IvT := makeI (m.getD i (0, 0)) (9 + 12 * (pickK zs i).tmod 5)
theorem ok_getD {l : List IvT} (h : IvOks l) (i : Nat) : IvOk (l.getD i (0, 0)) := by
  by_cases hi : i < l.length
  · rw [List.getD, List.getElem?_eq_getElem hi]; exact h _ (List.getElem_mem hi)
  · rw [List.getD, List.getElem?_eq_none (by omega)]; exact ⟨by decide, by decide⟩
theorem fin_fun {L : Nat → IvT} (h : ∀ i, ∃ A B, FinI (L i) A B) : ∃ A B : Nat → Rat, ∀ i, FinI (L i) (A i) (B i) :=
  ⟨fun i => (h i).choose, fun i => (h i).choose_spec.choose, fun i => (h i).choose_spec.choose_spec⟩
theorem sumP_bz {a b : Nat → Rat} (ha : ∀ k, Bz (a k) 3300) (hb : ∀ k, Bz (b k) 3300) : ∀ k, Bz (sumP a b k) (k * 6601 + 1)
  | 0 => ⟨by show bitLen (0 : Rat).num.natAbs ≤ _; exact Nat.le_trans (by decide) (Nat.le_refl _), by show bitLen (0 : Rat).den ≤ _; exact Nat.le_trans (by decide) (Nat.le_refl _)⟩
  | k + 1 => ((sumP_bz ha hb k).add ((ha k).mul (hb k))).mono (by omega)
theorem ivL_tail {n : Nat} (h : 0 < n) (L : Nat → IvT) : ((ivL n L).drop (0 + 1)).take (n - 1) = ivL (n - 1) (fun k => L (k + 1)) := by
  obtain ⟨m, hm⟩ : ∃ m, n = m + 1 := ⟨n - 1, by omega⟩
  subst hm
  show ((ivL (m + 1) L).drop 1).take m = ivL m (fun k => L (k + 1))
  have e : (List.range (m + 1)).map L = L 0 :: (List.range m).map (fun k => L (k + 1)) := by rw [List.range_succ_eq_map, List.map_cons, List.map_map]; rfl
  rw [ivL, e, ivsP, List.map_cons, List.drop_one, List.tail_cons]
  exact List.take_of_length_le (by simp)
theorem rem_bd (z : Int) {n : Int} (hn : 0 < n) (hn' : n < 100) : -100 < z.tmod n ∧ z.tmod n < 100 := by
  have := tmod_bd z hn; omega
theorem ivalDots_ok (b1 b2 b3 short : Bool) (l m : List IvT) (zs : List Int) (hl : IvOks l) (hm : IvOks m) (hz : I64s zs) :
    CallP Tryz.prog 4 [.sl b1 2 (ivsP l), .sl b2 2 (ivsP m), .sl b3 1 (intsP zs), .bool short] (.p (.bool true)) [] := by
  refine callG_of_vc (wr := wr0) Γok mixed Tryz.func4 (by kernel_rfl) rfl (by kernel_rfl) (le_of_ble rfl) (by simp) ?_
  refine SCall.pure (known4_ok) ?_
  refine SCmp.no (rfl) ?_
  refine SZ.mk (l.length : Int) (by simp) ?_
  by_cases h6 : 6 < l.length
  · refine SCmp.yes (decide_eq_true (by omega)) ?_
    exact SRet.pure (.tf _)
  · refine SCmp.no (decide_eq_false (by omega)) ?_
    refine SZ.mk (m.length : Int) (by simp) ?_
    by_cases g6 : 6 < m.length
    · refine SCmp.yes (decide_eq_true (by omega)) ?_
      exact SRet.pure (.tf _)
    · refine SCmp.no (decide_eq_false (by omega)) ?_
      refine SCall.pure (rzero_ok) ?_
      obtain ⟨N, hN⟩ : ∃ N, N = min l.length m.length := ⟨_, rfl⟩
      obtain ⟨A, B, hL⟩ := fin_fun (L := rawL l zs) fun i => makeI_fin (ok_getD hl i).lo (ok_getD hl i).hi _
      obtain ⟨C, E, hM⟩ := fin_fun (L := rawM m zs) fun i => makeI_fin (ok_getD hm i).lo (ok_getD hm i).hi _
      obtain ⟨a, had⟩ : ∃ a : Nat → Rat, a = fun i => insideQ (A i) (B i) (pickK zs i) := ⟨_, rfl⟩
      obtain ⟨b, hbd⟩ : ∃ b : Nat → Rat, b = fun i => insideQ (C i) (E i) ((pickK zs i).tdiv 9) := ⟨_, rfl⟩
      have ba : ∀ i, Bz (a i) 3300 := fun i => by rw [had]; exact insideQ_bz (hL i).lo.bz (hL i).hi.bz _
      have bb : ∀ i, Bz (b i) 3300 := fun i => by rw [hbd]; exact insideQ_bz (hM i).lo.bz (hM i).hi.bz _
      have ia : ∀ i, A i ≤ a i ∧ a i ≤ B i := fun i => by rw [had]; exact insideQ_in (hL i).le _
      have ib : ∀ i, C i ≤ b i ∧ b i ≤ E i := fun i => by rw [hbd]; exact insideQ_in (hM i).le _
      have bs := sumP_bz ba bb
      refine SLoop.mkT Nat (fun i => ([(0, .p (.sl b1 2 (ivsP l))), (1, .p (.sl b2 2 (ivsP m))), (2, .p (.sl b3 1 (intsP zs))), (3, .p (.bool short)), (9, .vec 1 2 0 i), (10, .vec 2 2 0 i), (11, .bptr 0 0), (12, .p (.int .i64 i))],
          [.box 30 [.p (.bool (decide ((sumP a b i).num < 0))), .p (natP (sumP a b i).num.natAbs), .p (natP (sumP a b i).den)], .vec 24 2 (ivL i (rawL l zs)), .vec 24 2 (ivL i (rawM m zs))])) (fun i => i ≤ N) (fun i => N - i) 0 [0, 1, 2] _ _ (.step 9 24 2 rfl (.step 10 24 2 rfl (.done _ _))) (Nat.zero_le _)
        ⟨rfl, by simp, rfl, rfl, rfl, ⟨rfl, rfl, rfl, rfl, rfl, rfl, rfl, rfl, trivial⟩, ⟨rfl, rfl, rfl, trivial⟩⟩ ?_
      intro i h1
      have h1 : i ≤ N := h1
      refine SZ.mk (l.length : Int) (by simp) ?_
      by_cases hiN : i < N
      · have hil : i < l.length := by omega
        have him : i < m.length := by omega
        refine SCmp.yes (decide_eq_true (by omega)) ?_
        refine SZ.mk (m.length : Int) (by simp) ?_
        refine SCmp.yes (decide_eq_true (by omega)) ?_
        refine SZ.mk (zs.length : Int) (by simp) ?_
        have hKb := pickK_bd hz (show i < 1000 by omega)
        have hKv : pickK zs i = if i < zs.length then zs.getD i 0 else (i : Int) := rfl
        have cL := make4_ok (l.getD i (0, 0)) (6 + 12 * (pickK zs i).tmod 7) (ok_getD hl i) (by have := rem_bd (pickK zs i) (n := 7) (by omega) (by omega); exact ⟨by omega, by omega⟩)
        have cM := make4_ok (m.getD i (0, 0)) (9 + 12 * (pickK zs i).tmod 5) (ok_getD hm i) (by have := rem_bd (pickK zs i) (n := 5) (by omega) (by omega); exact ⟨by omega, by omega⟩)
        have cA := inside4_ok (rawL l zs i) (pickK zs i) (hL i)
        have cB := inside4_ok (rawM m zs i) ((pickK zs i).tdiv 9) (hM i)
        rw [show insideQ (A i) (B i) (pickK zs i) = a i by rw [had]] at cA
        rw [show insideQ (C i) (E i) ((pickK zs i).tdiv 9) = b i by rw [hbd]] at cB
        rw [show makeI (l.getD i (0, 0)) (6 + 12 * (pickK zs i).tmod 7) = rawL l zs i from rfl] at cL
        rw [show makeI (m.getD i (0, 0)) (9 + 12 * (pickK zs i).tmod 5) = rawM m zs i from rfl] at cM
        have r7 := rem_bd (pickK zs i) (n := 7) (by omega) (by omega)
        have r5 := rem_bd (pickK zs i) (n := 5) (by omega) (by omega)
        have d9 : I64 ((pickK zs i).tdiv 9) := by
          have h1 := hKb.1
          have h2 := hKb.2
          unfold I64
          rw [Int.tdiv_eq_ediv, show Int.sign 9 = 1 from rfl]; split <;> omega
        have nL : ivL i (rawL l zs) ++ [ivP (rawL l zs i)] = ivL (i + 1) (rawL l zs) := ivL_snoc i _
        have nM : ivL i (rawM m zs) ++ [ivP (rawM m zs i)] = ivL (i + 1) (rawM m zs) := ivL_snoc i _
        have gl : (ivsP l)[i]? = some (ivP (l.getD i (0, 0))) := by rw [List.getElem?_map, List.getElem?_eq_getElem hil]; simp [List.getD, List.getElem?_eq_getElem hil]
        have gm : (ivsP m)[i]? = some (ivP (m.getD i (0, 0))) := by rw [List.getElem?_map, List.getElem?_eq_getElem him]; simp [List.getD, List.getElem?_eq_getElem him]
        obtain ⟨K, hK⟩ : ∃ K, K = pickK zs i := ⟨_, rfl⟩
        rw [← hK] at hKv cL cM cA cB r7 r5 d9 hKb
        by_cases hs : i < zs.length
        · rw [if_pos hs] at hKv
          refine SCmp.yes (decide_eq_true (by omega)) ?_
          refine SIdx.ib i rfl hs ?_
          rw [← hKv]
          refine SDraw.mkX (by kernel_rfl) ?_
          repeat refine SOp.mk _ _ (And.intro rfl rfl) rfl ?_
          refine SOp.mk _ _ (SIdx.mk i (ivP (l.getD i (0, 0))) rfl gl (And.intro rfl rfl)) rfl ?_
          repeat refine SOp.mk _ _ (And.intro rfl rfl) rfl ?_
          refine SOp.mk _ _ (SNe.mk (by omega) (SZ.mk (K.tmod 7) rfl (And.intro rfl rfl))) rfl ?_
          refine SOp.mk _ _ (SWrap.i64z (12 * K.tmod 7) rfl (by omega) (And.intro rfl rfl)) rfl ?_
          refine SOp.mk _ _ (SWrap.i64z (6 + 12 * K.tmod 7) rfl (by omega) (And.intro rfl rfl)) rfl ?_
          refine SOp.mk _ _ (SCall.pure (cL) (And.intro rfl rfl)) rfl ?_
          repeat refine SOp.mk _ _ (And.intro rfl rfl) rfl ?_
          refine SOp.mk _ _ (SIdx.mk i (ivP (m.getD i (0, 0))) rfl gm (And.intro rfl rfl)) rfl ?_
          repeat refine SOp.mk _ _ (And.intro rfl rfl) rfl ?_
          refine SOp.mk _ _ (SNe.mk (by omega) (SZ.mk (K.tmod 5) rfl (And.intro rfl rfl))) rfl ?_
          refine SOp.mk _ _ (SWrap.i64z (12 * K.tmod 5) rfl (by omega) (And.intro rfl rfl)) rfl ?_
          refine SOp.mk _ _ (SWrap.i64z (9 + 12 * K.tmod 5) rfl (by omega) (And.intro rfl rfl)) rfl ?_
          refine SOp.mk _ _ (SCall.pure (cM) (And.intro rfl rfl)) rfl ?_
          repeat refine SOp.mk _ _ (And.intro rfl rfl) rfl ?_
          refine SFin.mk (by kernel_rfl) ?_
          refine SDraw.mkX (by kernel_rfl) ?_
          repeat refine SOp.mk _ _ (And.intro rfl rfl) rfl ?_
          refine SOp.mk _ _ (SEqN.mk (by simp) (SView.all rfl (SRoom.mk (by simp; omega) (by simp; omega) (SEs.mk _ nL (SZN.mk (i + 1) (by simp) (And.intro rfl rfl)))))) rfl ?_
          repeat refine SOp.mk _ _ (And.intro rfl rfl) rfl ?_
          refine SOp.mk _ _ (SEqN.mk (by simp) (SView.all rfl (SRoom.mk (by simp; omega) (by simp; omega) (SEs.mk _ nM (SZN.mk (i + 1) (by simp) (And.intro rfl rfl)))))) rfl ?_
          repeat refine SOp.mk _ _ (And.intro rfl rfl) rfl ?_
          refine SFin.mk (by kernel_rfl) ?_
          refine SDraw.mkX (by kernel_rfl) ?_
          repeat refine SOp.mk _ _ (And.intro rfl rfl) rfl ?_
          refine SOp.mk _ _ (SCall.pure (cA) (And.intro rfl rfl)) rfl ?_
          repeat refine SOp.mk _ _ (And.intro rfl rfl) rfl ?_
          refine SOp.mk _ _ (SNe.mk (by omega) (SWrap.i64z (K.tdiv 9) rfl d9 (And.intro rfl rfl))) rfl ?_
          refine SOp.mk _ _ (SCall.pure (cB) (And.intro rfl rfl)) rfl ?_
          refine SOp.mk _ _ (SCall.pure (rmulq_ok (a i) (b i) (ba i) (bb i) (by omega)) (And.intro rfl rfl)) rfl ?_
          refine SOp.mk _ _ (SCall.pure (raddq_ok (sumP a b i) (a i * b i) (bs i) ((ba i).mul (bb i)) (by omega)) (And.intro rfl rfl)) rfl ?_
          repeat refine SOp.mk _ _ (And.intro rfl rfl) rfl ?_
          refine SFin.mk (by kernel_rfl) ?_
          refine SWrap.i64z ((i + 1 : Nat) : Int) (by omega) (by omega) ?_
          exact ⟨i + 1, [0, 6, 8], hiN, by show N - (i + 1) < N - i; omega, ⟨rfl, by simp, rfl, rfl, rfl, ⟨rfl, rfl, rfl, rfl, rfl, rfl, rfl, rfl, trivial⟩, ⟨rfl, rfl, rfl, trivial⟩⟩⟩
        · rw [if_neg hs] at hKv
          refine SCmp.no (decide_eq_false (by omega)) ?_
          subst hKv
          refine SDraw.mkX (by kernel_rfl) ?_
          repeat refine SOp.mk _ _ (And.intro rfl rfl) rfl ?_
          refine SOp.mk _ _ (SIdx.mk i (ivP (l.getD i (0, 0))) rfl gl (And.intro rfl rfl)) rfl ?_
          repeat refine SOp.mk _ _ (And.intro rfl rfl) rfl ?_
          refine SOp.mk _ _ (SNe.mk (by omega) (SZ.mk ((i : Int).tmod 7) rfl (And.intro rfl rfl))) rfl ?_
          refine SOp.mk _ _ (SWrap.i64z (12 * (i : Int).tmod 7) rfl (by omega) (And.intro rfl rfl)) rfl ?_
          refine SOp.mk _ _ (SWrap.i64z (6 + 12 * (i : Int).tmod 7) rfl (by omega) (And.intro rfl rfl)) rfl ?_
          refine SOp.mk _ _ (SCall.pure (cL) (And.intro rfl rfl)) rfl ?_
          repeat refine SOp.mk _ _ (And.intro rfl rfl) rfl ?_
          refine SOp.mk _ _ (SIdx.mk i (ivP (m.getD i (0, 0))) rfl gm (And.intro rfl rfl)) rfl ?_
          repeat refine SOp.mk _ _ (And.intro rfl rfl) rfl ?_
          refine SOp.mk _ _ (SNe.mk (by omega) (SZ.mk ((i : Int).tmod 5) rfl (And.intro rfl rfl))) rfl ?_
          refine SOp.mk _ _ (SWrap.i64z (12 * (i : Int).tmod 5) rfl (by omega) (And.intro rfl rfl)) rfl ?_
          refine SOp.mk _ _ (SWrap.i64z (9 + 12 * (i : Int).tmod 5) rfl (by omega) (And.intro rfl rfl)) rfl ?_
          refine SOp.mk _ _ (SCall.pure (cM) (And.intro rfl rfl)) rfl ?_
          repeat refine SOp.mk _ _ (And.intro rfl rfl) rfl ?_
          refine SFin.mk (by kernel_rfl) ?_
          refine SDraw.mkX (by kernel_rfl) ?_
          repeat refine SOp.mk _ _ (And.intro rfl rfl) rfl ?_
          refine SOp.mk _ _ (SEqN.mk (by simp) (SView.all rfl (SRoom.mk (by simp; omega) (by simp; omega) (SEs.mk _ nL (SZN.mk (i + 1) (by simp) (And.intro rfl rfl)))))) rfl ?_
          repeat refine SOp.mk _ _ (And.intro rfl rfl) rfl ?_
          refine SOp.mk _ _ (SEqN.mk (by simp) (SView.all rfl (SRoom.mk (by simp; omega) (by simp; omega) (SEs.mk _ nM (SZN.mk (i + 1) (by simp) (And.intro rfl rfl)))))) rfl ?_
          repeat refine SOp.mk _ _ (And.intro rfl rfl) rfl ?_
          refine SFin.mk (by kernel_rfl) ?_
          refine SDraw.mkX (by kernel_rfl) ?_
          repeat refine SOp.mk _ _ (And.intro rfl rfl) rfl ?_
          refine SOp.mk _ _ (SCall.pure (cA) (And.intro rfl rfl)) rfl ?_
          repeat refine SOp.mk _ _ (And.intro rfl rfl) rfl ?_
          refine SOp.mk _ _ (SNe.mk (by omega) (SWrap.i64z ((i : Int).tdiv 9) rfl d9 (And.intro rfl rfl))) rfl ?_
          refine SOp.mk _ _ (SCall.pure (cB) (And.intro rfl rfl)) rfl ?_
          refine SOp.mk _ _ (SCall.pure (rmulq_ok (a i) (b i) (ba i) (bb i) (by omega)) (And.intro rfl rfl)) rfl ?_
          refine SOp.mk _ _ (SCall.pure (raddq_ok (sumP a b i) (a i * b i) (bs i) ((ba i).mul (bb i)) (by omega)) (And.intro rfl rfl)) rfl ?_
          repeat refine SOp.mk _ _ (And.intro rfl rfl) rfl ?_
          refine SFin.mk (by kernel_rfl) ?_
          refine SWrap.i64z ((i + 1 : Nat) : Int) (by omega) (by omega) ?_
          exact ⟨i + 1, [0, 6, 8], hiN, by show N - (i + 1) < N - i; omega, ⟨rfl, by simp, rfl, rfl, rfl, ⟨rfl, rfl, rfl, rfl, rfl, rfl, rfl, rfl, trivial⟩, ⟨rfl, rfl, rfl, trivial⟩⟩⟩
      · have hiN : i = N := by omega
        by_cases hil : i < l.length
        · refine SCmp.yes (decide_eq_true (by omega)) ?_
          refine SZ.mk (m.length : Int) (by simp) ?_
          refine SCmp.no (decide_eq_false (by omega)) ?_
          have vL : (ivL i (rawL l zs)).length = i := ivL_len _ _
          have vM : (ivL i (rawM m zs)).length = i := ivL_len _ _
          have hH : DotH (rawL l zs) (rawM m zs) i A B C E := ⟨fun k _ => hL k, fun k _ => hM k⟩
          have bs := bs i
          cases short with
          | true =>
            refine SCond.mk (fun _ => ?_) (fun h => by cases h)
            refine SZ.mk (i : Int) rfl ?_
            by_cases h0 : 0 < i
            · refine SCmp.yes (decide_eq_true (by omega)) ?_
              refine SCut.mk 1 i rfl rfl (by omega) (by omega) ?_
              have hH2 : DotH (rawL l zs) (fun k => rawM m zs (k + 1)) i A B (fun k => C (k + 1)) (fun k => E (k + 1)) := ⟨fun k _ => hL k, fun k _ => hM (k + 1)⟩
              have eM : ((ivL i (rawM m zs)).drop (0 + 1)).take (i - 1) = ivL (i - 1) (fun k => rawM m zs (k + 1)) := ivL_tail h0 _
              have d1 := ivdot_ok true true (rawL l zs) (fun k => rawM m zs (k + 1)) i (i - 1) hH2 (by omega)
              have d2 := rivdot_ok true true (rawL l zs) (fun k => rawM m zs (k + 1)) i (i - 1) hH2 (by omega)
              rw [dotR_long (.inl (by omega))] at d1 d2
              refine SView.all vL.symm ?_
              refine SView.mk _ eM (by rw [vM]; omega) ?_
              refine SCall.pureT (d1) (fun _ => rfl) ?_
              refine SView.all vL.symm ?_
              refine SView.mk _ eM (by rw [vM]; omega) ?_
              refine SCall.pureT (d2) (fun _ => rfl) ?_
              refine SCmp.yes (by decide) ?_
              refine SCmp.yes (rfl) ?_
              refine SCmp.yes (rfl) ?_
              exact SRet.pure (.tf _)
            · refine SCmp.no (decide_eq_false (by omega)) ?_
              have d1 := ivdot_ok true true (rawL l zs) (rawM m zs) i i hH (by omega)
              have d2 := rivdot_ok true true (rawL l zs) (rawM m zs) i i hH (by omega)
              by_cases h0 : i = 0
              · rw [dotR_long (.inr h0)] at d1 d2
                refine SView.all vL.symm ?_
                refine SView.all vM.symm ?_
                refine SCall.pureT (d1) (fun _ => rfl) ?_
                refine SView.all vL.symm ?_
                refine SView.all vM.symm ?_
                refine SCall.pureT (d2) (fun _ => rfl) ?_
                refine SCmp.yes (by decide) ?_
                refine SCmp.yes (rfl) ?_
                refine SCmp.yes (rfl) ?_
                exact SRet.pure (.tf _)
              · cases hd : dotI (rawL l zs) (rawM m zs) (i - 1) with
                | none =>
                  rw [dotR_none h0 hd] at d1 d2
                  refine SView.all vL.symm ?_
                  refine SView.all vM.symm ?_
                  refine SCall.pureT (d1) (fun _ => rfl) ?_
                  refine SView.all vL.symm ?_
                  refine SView.all vM.symm ?_
                  refine SCall.pureT (d2) (fun _ => rfl) ?_
                  refine SCmp.yes (by decide) ?_
                  refine SCmp.yes (rfl) ?_
                  refine SCmp.yes (rfl) ?_
                  exact SRet.pure (.tf _)
                | some s =>
                  rw [dotR_some h0 hd] at d1 d2
                  obtain ⟨P, Q, f1, f2, f3⟩ := dotI_in (l := rawL l zs) (m := rawM m zs) (n := i - 1) (fun k _ => hL k) (fun k _ => hM k) (fun k _ => ia k) (fun k _ => ib k) (i - 1) (Nat.le_refl _) s hd
                  rw [show i - 1 + 1 = i by omega] at f2 f3
                  refine SView.all vL.symm ?_
                  refine SView.all vM.symm ?_
                  refine SCall.pureT (d1) (fun _ => rfl) ?_
                  refine SView.all vL.symm ?_
                  refine SView.all vM.symm ?_
                  refine SCall.pureT (d2) (fun _ => rfl) ?_
                  refine SCmp.yes (by simp) ?_
                  refine SCmp.yes (rfl) ?_
                  refine SCmp.no (rfl) ?_
                  refine SCall.pure (ivhas_in (f1.inI f2 f3) bs (by omega)) ?_
                  exact SRet.pure (.p _ (.bool _))
          | false =>
            refine SCond.mk (fun h => by cases h) (fun _ => ?_)
            have d1 := ivdot_ok true true (rawL l zs) (rawM m zs) i i hH (by omega)
            have d2 := rivdot_ok true true (rawL l zs) (rawM m zs) i i hH (by omega)
            by_cases h0 : i = 0
            · rw [dotR_long (.inr h0)] at d1 d2
              refine SView.all vL.symm ?_
              refine SView.all vM.symm ?_
              refine SCall.pureT (d1) (fun _ => rfl) ?_
              refine SView.all vL.symm ?_
              refine SView.all vM.symm ?_
              refine SCall.pureT (d2) (fun _ => rfl) ?_
              refine SCmp.yes (by decide) ?_
              refine SCmp.yes (rfl) ?_
              refine SCmp.yes (rfl) ?_
              exact SRet.pure (.tf _)
            · cases hd : dotI (rawL l zs) (rawM m zs) (i - 1) with
              | none =>
                rw [dotR_none h0 hd] at d1 d2
                refine SView.all vL.symm ?_
                refine SView.all vM.symm ?_
                refine SCall.pureT (d1) (fun _ => rfl) ?_
                refine SView.all vL.symm ?_
                refine SView.all vM.symm ?_
                refine SCall.pureT (d2) (fun _ => rfl) ?_
                refine SCmp.yes (by decide) ?_
                refine SCmp.yes (rfl) ?_
                refine SCmp.yes (rfl) ?_
                exact SRet.pure (.tf _)
              | some s =>
                rw [dotR_some h0 hd] at d1 d2
                obtain ⟨P, Q, f1, f2, f3⟩ := dotI_in (l := rawL l zs) (m := rawM m zs) (n := i - 1) (fun k _ => hL k) (fun k _ => hM k) (fun k _ => ia k) (fun k _ => ib k) (i - 1) (Nat.le_refl _) s hd
                rw [show i - 1 + 1 = i by omega] at f2 f3
                refine SView.all vL.symm ?_
                refine SView.all vM.symm ?_
                refine SCall.pureT (d1) (fun _ => rfl) ?_
                refine SView.all vL.symm ?_
                refine SView.all vM.symm ?_
                refine SCall.pureT (d2) (fun _ => rfl) ?_
                refine SCmp.yes (by simp) ?_
                refine SCmp.yes (rfl) ?_
                refine SCmp.no (rfl) ?_
                refine SCall.pure (ivhas_in (f1.inI f2 f3) bs (by omega)) ?_
                exact SRet.pure (.p _ (.bool _))
        · refine SCmp.no (decide_eq_false (by omega)) ?_
          have vL : (ivL i (rawL l zs)).length = i := ivL_len _ _
          have vM : (ivL i (rawM m zs)).length = i := ivL_len _ _
          have hH : DotH (rawL l zs) (rawM m zs) i A B C E := ⟨fun k _ => hL k, fun k _ => hM k⟩
          have bs := bs i
          cases short with
          | true =>
            refine SCond.mk (fun _ => ?_) (fun h => by cases h)
            refine SZ.mk (i : Int) rfl ?_
            by_cases h0 : 0 < i
            · refine SCmp.yes (decide_eq_true (by omega)) ?_
              refine SCut.mk 1 i rfl rfl (by omega) (by omega) ?_
              have hH2 : DotH (rawL l zs) (fun k => rawM m zs (k + 1)) i A B (fun k => C (k + 1)) (fun k => E (k + 1)) := ⟨fun k _ => hL k, fun k _ => hM (k + 1)⟩
              have eM : ((ivL i (rawM m zs)).drop (0 + 1)).take (i - 1) = ivL (i - 1) (fun k => rawM m zs (k + 1)) := ivL_tail h0 _
              have d1 := ivdot_ok true true (rawL l zs) (fun k => rawM m zs (k + 1)) i (i - 1) hH2 (by omega)
              have d2 := rivdot_ok true true (rawL l zs) (fun k => rawM m zs (k + 1)) i (i - 1) hH2 (by omega)
              rw [dotR_long (.inl (by omega))] at d1 d2
              refine SView.all vL.symm ?_
              refine SView.mk _ eM (by rw [vM]; omega) ?_
              refine SCall.pureT (d1) (fun _ => rfl) ?_
              refine SView.all vL.symm ?_
              refine SView.mk _ eM (by rw [vM]; omega) ?_
              refine SCall.pureT (d2) (fun _ => rfl) ?_
              refine SCmp.yes (by decide) ?_
              refine SCmp.yes (rfl) ?_
              refine SCmp.yes (rfl) ?_
              exact SRet.pure (.tf _)
            · refine SCmp.no (decide_eq_false (by omega)) ?_
              have d1 := ivdot_ok true true (rawL l zs) (rawM m zs) i i hH (by omega)
              have d2 := rivdot_ok true true (rawL l zs) (rawM m zs) i i hH (by omega)
              by_cases h0 : i = 0
              · rw [dotR_long (.inr h0)] at d1 d2
                refine SView.all vL.symm ?_
                refine SView.all vM.symm ?_
                refine SCall.pureT (d1) (fun _ => rfl) ?_
                refine SView.all vL.symm ?_
                refine SView.all vM.symm ?_
                refine SCall.pureT (d2) (fun _ => rfl) ?_
                refine SCmp.yes (by decide) ?_
                refine SCmp.yes (rfl) ?_
                refine SCmp.yes (rfl) ?_
                exact SRet.pure (.tf _)
              · cases hd : dotI (rawL l zs) (rawM m zs) (i - 1) with
                | none =>
                  rw [dotR_none h0 hd] at d1 d2
                  refine SView.all vL.symm ?_
                  refine SView.all vM.symm ?_
                  refine SCall.pureT (d1) (fun _ => rfl) ?_
                  refine SView.all vL.symm ?_
                  refine SView.all vM.symm ?_
                  refine SCall.pureT (d2) (fun _ => rfl) ?_
                  refine SCmp.yes (by decide) ?_
                  refine SCmp.yes (rfl) ?_
                  refine SCmp.yes (rfl) ?_
                  exact SRet.pure (.tf _)
                | some s =>
                  rw [dotR_some h0 hd] at d1 d2
                  obtain ⟨P, Q, f1, f2, f3⟩ := dotI_in (l := rawL l zs) (m := rawM m zs) (n := i - 1) (fun k _ => hL k) (fun k _ => hM k) (fun k _ => ia k) (fun k _ => ib k) (i - 1) (Nat.le_refl _) s hd
                  rw [show i - 1 + 1 = i by omega] at f2 f3
                  refine SView.all vL.symm ?_
                  refine SView.all vM.symm ?_
                  refine SCall.pureT (d1) (fun _ => rfl) ?_
                  refine SView.all vL.symm ?_
                  refine SView.all vM.symm ?_
                  refine SCall.pureT (d2) (fun _ => rfl) ?_
                  refine SCmp.yes (by simp) ?_
                  refine SCmp.yes (rfl) ?_
                  refine SCmp.no (rfl) ?_
                  refine SCall.pure (ivhas_in (f1.inI f2 f3) bs (by omega)) ?_
                  exact SRet.pure (.p _ (.bool _))
          | false =>
            refine SCond.mk (fun h => by cases h) (fun _ => ?_)
            have d1 := ivdot_ok true true (rawL l zs) (rawM m zs) i i hH (by omega)
            have d2 := rivdot_ok true true (rawL l zs) (rawM m zs) i i hH (by omega)
            by_cases h0 : i = 0
            · rw [dotR_long (.inr h0)] at d1 d2
              refine SView.all vL.symm ?_
              refine SView.all vM.symm ?_
              refine SCall.pureT (d1) (fun _ => rfl) ?_
              refine SView.all vL.symm ?_
              refine SView.all vM.symm ?_
              refine SCall.pureT (d2) (fun _ => rfl) ?_
              refine SCmp.yes (by decide) ?_
              refine SCmp.yes (rfl) ?_
              refine SCmp.yes (rfl) ?_
              exact SRet.pure (.tf _)
            · cases hd : dotI (rawL l zs) (rawM m zs) (i - 1) with
              | none =>
                rw [dotR_none h0 hd] at d1 d2
                refine SView.all vL.symm ?_
                refine SView.all vM.symm ?_
                refine SCall.pureT (d1) (fun _ => rfl) ?_
                refine SView.all vL.symm ?_
                refine SView.all vM.symm ?_
                refine SCall.pureT (d2) (fun _ => rfl) ?_
                refine SCmp.yes (by decide) ?_
                refine SCmp.yes (rfl) ?_
                refine SCmp.yes (rfl) ?_
                exact SRet.pure (.tf _)
              | some s =>
                rw [dotR_some h0 hd] at d1 d2
                obtain ⟨P, Q, f1, f2, f3⟩ := dotI_in (l := rawL l zs) (m := rawM m zs) (n := i - 1) (fun k _ => hL k) (fun k _ => hM k) (fun k _ => ia k) (fun k _ => ib k) (i - 1) (Nat.le_refl _) s hd
                rw [show i - 1 + 1 = i by omega] at f2 f3
                refine SView.all vL.symm ?_
                refine SView.all vM.symm ?_
                refine SCall.pureT (d1) (fun _ => rfl) ?_
                refine SView.all vL.symm ?_
                refine SView.all vM.symm ?_
                refine SCall.pureT (d2) (fun _ => rfl) ?_
                refine SCmp.yes (by simp) ?_
                refine SCmp.yes (rfl) ?_
                refine SCmp.no (rfl) ?_
                refine SCall.pure (ivhas_in (f1.inI f2 f3) bs (by omega)) ?_
                exact SRet.pure (.p _ (.bool _))
end Go.Proofs.YtacklcbgkigcaaaGreat
