/-
  No cell of these rows narrows 'for every input' (looked for: loops, veiled, ifaces, maps, wideKeys, modest, calm, conditions, laid).
  DERIVED. THE GIVEN ROWS OF THIS SEAT. 15 by the template 'for every input the law returns true; each argument reads behind the call as it read before'; 0 by the template 'total and deterministic' (their statements: YtjcmiedpgabdbaaTotals.lean).
  GIVEN WITH THE SEED: the statements are not yours to turn. If you find one false, say at which input.
  Laid BY PROGRAM, IN A SANDBOX (cutbox-rows.mjs): the forced cells as the released guide's own fill.sh prints them over the translation 2435d9f16892a719… (all of the seat's roots in one cut). By AI agents, Wed Nov 11 2026. No macro, syntax, notation, axiom, sorry.
-/
import Derived.Test.YtjcmiedpgabdbaaChecked
import GoSem.Claim
import GoSem.ClaimJoined
import GoSem.ClaimMapViews
import Derived.JoinedTies
import Derived.KernelRfl
namespace Go.Proofs.Ytjcmiedpgabdbaa
/- THE CELL 'sum', in the pinned program and in every row, IS THE sha256 OF THE DUMP (.gsa) THAT YtjcmiedpgabdbaaProg.lean LOADS. Nothing in Lean hashes anything: it is a label: what it is worth is what the hold of that sum in a sandbox is worth. -/
noncomputable def Try.pinned : Pinned := { name := "ytjcmiedpgabdbaa", sum := "2435d9f16892a719232220c7536804b5d0a8911f1ed0bca313e8444f28476062", checked := Try.checked }
namespace Rows
def none {H : Type} : Left H := { results := [], args := [] }

/-- 'anticlinelaw16.CertRounds': WHATEVER THE INPUT: true; the input reads as it did. -/
def certRoundsSpec : ChangeSpec := { name := "certRounds", fn := fun _ => fun
  | [d1, d2, d3] => { results := [.lit (.bool true)], args := [d1, d2, d3] }
  | _ => none }
def certRoundsRow : OpenClaim := { program := "ytjcmiedpgabdbaa", sum := "2435d9f16892a719232220c7536804b5d0a8911f1ed0bca313e8444f28476062", func := "anticline/anticlinelaw16.CertRounds", spec := "certRounds", apart := false }
def CertRoundsSaid : Prop := certRoundsRow.holds Try.pinned (OpenSpec.ofChange certRoundsSpec)

/-- ITS FALSE NEIGHBOUR: 'it returns false'. Refute it at one input. -/
def certRoundsWrong : ChangeSpec := { name := "certRounds", fn := fun _ => fun
  | [d1, d2, d3] => { results := [.lit (.bool false)], args := [d1, d2, d3] }
  | _ => none }
def CertRoundsWrongFalsely : Prop := certRoundsRow.holds Try.pinned (OpenSpec.ofChange certRoundsWrong)

/-- 'anticlinelaw3.FloatBetween': WHATEVER THE INPUT: true; the input reads as it did. -/
def floatBetweenSpec : ChangeSpec := { name := "floatBetween", fn := fun _ => fun
  | [d1, d2, d3] => { results := [.lit (.bool true)], args := [d1, d2, d3] }
  | _ => none }
def floatBetweenRow : OpenClaim := { program := "ytjcmiedpgabdbaa", sum := "2435d9f16892a719232220c7536804b5d0a8911f1ed0bca313e8444f28476062", func := "anticline/anticlinelaw3.FloatBetween", spec := "floatBetween", unfollowed := true, recurses := true, apart := false }
def FloatBetweenSaid : Prop := floatBetweenRow.holds Try.pinned (OpenSpec.ofChange floatBetweenSpec)

/-- ITS FALSE NEIGHBOUR: 'it returns false'. Refute it at one input. -/
def floatBetweenWrong : ChangeSpec := { name := "floatBetween", fn := fun _ => fun
  | [d1, d2, d3] => { results := [.lit (.bool false)], args := [d1, d2, d3] }
  | _ => none }
def FloatBetweenWrongFalsely : Prop := floatBetweenRow.holds Try.pinned (OpenSpec.ofChange floatBetweenWrong)

/-- 'anticlinelaw3.FloatNexts': WHATEVER THE INPUT: true; the input reads as it did. -/
def floatNextsSpec : ChangeSpec := { name := "floatNexts", fn := fun _ => fun
  | [d1, d2, d3] => { results := [.lit (.bool true)], args := [d1, d2, d3] }
  | _ => none }
def floatNextsRow : OpenClaim := { program := "ytjcmiedpgabdbaa", sum := "2435d9f16892a719232220c7536804b5d0a8911f1ed0bca313e8444f28476062", func := "anticline/anticlinelaw3.FloatNexts", spec := "floatNexts", unfollowed := true, recurses := true, apart := false }
def FloatNextsSaid : Prop := floatNextsRow.holds Try.pinned (OpenSpec.ofChange floatNextsSpec)

/-- ITS FALSE NEIGHBOUR: 'it returns false'. Refute it at one input. -/
def floatNextsWrong : ChangeSpec := { name := "floatNexts", fn := fun _ => fun
  | [d1, d2, d3] => { results := [.lit (.bool false)], args := [d1, d2, d3] }
  | _ => none }
def FloatNextsWrongFalsely : Prop := floatNextsRow.holds Try.pinned (OpenSpec.ofChange floatNextsWrong)

/-- 'anticlinelaw3.FloatTurned': WHATEVER THE INPUT: true; the input reads as it did. -/
def floatTurnedSpec : ChangeSpec := { name := "floatTurned", fn := fun _ => fun
  | [d1, d2, d3, d4, d5] => { results := [.lit (.bool true)], args := [d1, d2, d3, d4, d5] }
  | _ => none }
def floatTurnedRow : OpenClaim := { program := "ytjcmiedpgabdbaa", sum := "2435d9f16892a719232220c7536804b5d0a8911f1ed0bca313e8444f28476062", func := "anticline/anticlinelaw3.FloatTurned", spec := "floatTurned", unfollowed := true, recurses := true, apart := false }
def FloatTurnedSaid : Prop := floatTurnedRow.holds Try.pinned (OpenSpec.ofChange floatTurnedSpec)

/-- ITS FALSE NEIGHBOUR: 'it returns false'. Refute it at one input. -/
def floatTurnedWrong : ChangeSpec := { name := "floatTurned", fn := fun _ => fun
  | [d1, d2, d3, d4, d5] => { results := [.lit (.bool false)], args := [d1, d2, d3, d4, d5] }
  | _ => none }
def FloatTurnedWrongFalsely : Prop := floatTurnedRow.holds Try.pinned (OpenSpec.ofChange floatTurnedWrong)

/-- 'anticlinelaw3.FloatScales': WHATEVER THE INPUT: true; the input reads as it did. -/
def floatScalesSpec : ChangeSpec := { name := "floatScales", fn := fun _ => fun
  | [d1, d2, d3, d4] => { results := [.lit (.bool true)], args := [d1, d2, d3, d4] }
  | _ => none }
def floatScalesRow : OpenClaim := { program := "ytjcmiedpgabdbaa", sum := "2435d9f16892a719232220c7536804b5d0a8911f1ed0bca313e8444f28476062", func := "anticline/anticlinelaw3.FloatScales", spec := "floatScales", unfollowed := true, recurses := true, apart := false }
def FloatScalesSaid : Prop := floatScalesRow.holds Try.pinned (OpenSpec.ofChange floatScalesSpec)

/-- ITS FALSE NEIGHBOUR: 'it returns false'. Refute it at one input. -/
def floatScalesWrong : ChangeSpec := { name := "floatScales", fn := fun _ => fun
  | [d1, d2, d3, d4] => { results := [.lit (.bool false)], args := [d1, d2, d3, d4] }
  | _ => none }
def FloatScalesWrongFalsely : Prop := floatScalesRow.holds Try.pinned (OpenSpec.ofChange floatScalesWrong)

/-- 'anticlinelaw3.FloatOrder': WHATEVER THE INPUT: true; the input reads as it did. -/
def floatOrderSpec : ChangeSpec := { name := "floatOrder", fn := fun _ => fun
  | [d1, d2, d3, d4, d5] => { results := [.lit (.bool true)], args := [d1, d2, d3, d4, d5] }
  | _ => none }
def floatOrderRow : OpenClaim := { program := "ytjcmiedpgabdbaa", sum := "2435d9f16892a719232220c7536804b5d0a8911f1ed0bca313e8444f28476062", func := "anticline/anticlinelaw3.FloatOrder", spec := "floatOrder", unfollowed := true, recurses := true, apart := false }
def FloatOrderSaid : Prop := floatOrderRow.holds Try.pinned (OpenSpec.ofChange floatOrderSpec)

/-- ITS FALSE NEIGHBOUR: 'it returns false'. Refute it at one input. -/
def floatOrderWrong : ChangeSpec := { name := "floatOrder", fn := fun _ => fun
  | [d1, d2, d3, d4, d5] => { results := [.lit (.bool false)], args := [d1, d2, d3, d4, d5] }
  | _ => none }
def FloatOrderWrongFalsely : Prop := floatOrderRow.holds Try.pinned (OpenSpec.ofChange floatOrderWrong)

/-- 'anticlinelaw3.FloatFma': WHATEVER THE INPUT: true; the input reads as it did. -/
def floatFmaSpec : ChangeSpec := { name := "floatFma", fn := fun _ => fun
  | [d1, d2, d3, d4, d5, d6, d7] => { results := [.lit (.bool true)], args := [d1, d2, d3, d4, d5, d6, d7] }
  | _ => none }
def floatFmaRow : OpenClaim := { program := "ytjcmiedpgabdbaa", sum := "2435d9f16892a719232220c7536804b5d0a8911f1ed0bca313e8444f28476062", func := "anticline/anticlinelaw3.FloatFma", spec := "floatFma", unfollowed := true, recurses := true, apart := false }
def FloatFmaSaid : Prop := floatFmaRow.holds Try.pinned (OpenSpec.ofChange floatFmaSpec)

/-- ITS FALSE NEIGHBOUR: 'it returns false'. Refute it at one input. -/
def floatFmaWrong : ChangeSpec := { name := "floatFma", fn := fun _ => fun
  | [d1, d2, d3, d4, d5, d6, d7] => { results := [.lit (.bool false)], args := [d1, d2, d3, d4, d5, d6, d7] }
  | _ => none }
def FloatFmaWrongFalsely : Prop := floatFmaRow.holds Try.pinned (OpenSpec.ofChange floatFmaWrong)

/-- 'anticlinelaw3.FloatOf': WHATEVER THE INPUT: true; the input reads as it did. -/
def floatOfSpec : ChangeSpec := { name := "floatOf", fn := fun _ => fun
  | [d1, d2, d3, d4, d5] => { results := [.lit (.bool true)], args := [d1, d2, d3, d4, d5] }
  | _ => none }
def floatOfRow : OpenClaim := { program := "ytjcmiedpgabdbaa", sum := "2435d9f16892a719232220c7536804b5d0a8911f1ed0bca313e8444f28476062", func := "anticline/anticlinelaw3.FloatOf", spec := "floatOf", unfollowed := true, recurses := true, apart := false }
def FloatOfSaid : Prop := floatOfRow.holds Try.pinned (OpenSpec.ofChange floatOfSpec)

/-- ITS FALSE NEIGHBOUR: 'it returns false'. Refute it at one input. -/
def floatOfWrong : ChangeSpec := { name := "floatOf", fn := fun _ => fun
  | [d1, d2, d3, d4, d5] => { results := [.lit (.bool false)], args := [d1, d2, d3, d4, d5] }
  | _ => none }
def FloatOfWrongFalsely : Prop := floatOfRow.holds Try.pinned (OpenSpec.ofChange floatOfWrong)

/-- 'anticlinelaw3.FloatBack': WHATEVER THE INPUT: true; the input reads as it did. -/
def floatBackSpec : ChangeSpec := { name := "floatBack", fn := fun _ => fun
  | [d1, d2, d3] => { results := [.lit (.bool true)], args := [d1, d2, d3] }
  | _ => none }
def floatBackRow : OpenClaim := { program := "ytjcmiedpgabdbaa", sum := "2435d9f16892a719232220c7536804b5d0a8911f1ed0bca313e8444f28476062", func := "anticline/anticlinelaw3.FloatBack", spec := "floatBack", unfollowed := true, recurses := true, apart := false }
def FloatBackSaid : Prop := floatBackRow.holds Try.pinned (OpenSpec.ofChange floatBackSpec)

/-- ITS FALSE NEIGHBOUR: 'it returns false'. Refute it at one input. -/
def floatBackWrong : ChangeSpec := { name := "floatBack", fn := fun _ => fun
  | [d1, d2, d3] => { results := [.lit (.bool false)], args := [d1, d2, d3] }
  | _ => none }
def FloatBackWrongFalsely : Prop := floatBackRow.holds Try.pinned (OpenSpec.ofChange floatBackWrong)

/-- 'anticlinelaw3.FloatInts': WHATEVER THE INPUT: true; the input reads as it did. -/
def floatIntsSpec : ChangeSpec := { name := "floatInts", fn := fun _ => fun
  | [d1, d2, d3] => { results := [.lit (.bool true)], args := [d1, d2, d3] }
  | _ => none }
def floatIntsRow : OpenClaim := { program := "ytjcmiedpgabdbaa", sum := "2435d9f16892a719232220c7536804b5d0a8911f1ed0bca313e8444f28476062", func := "anticline/anticlinelaw3.FloatInts", spec := "floatInts", unfollowed := true, recurses := true, apart := false }
def FloatIntsSaid : Prop := floatIntsRow.holds Try.pinned (OpenSpec.ofChange floatIntsSpec)

/-- ITS FALSE NEIGHBOUR: 'it returns false'. Refute it at one input. -/
def floatIntsWrong : ChangeSpec := { name := "floatInts", fn := fun _ => fun
  | [d1, d2, d3] => { results := [.lit (.bool false)], args := [d1, d2, d3] }
  | _ => none }
def FloatIntsWrongFalsely : Prop := floatIntsRow.holds Try.pinned (OpenSpec.ofChange floatIntsWrong)

/-- 'anticlinelaw3.FloatRoots': WHATEVER THE INPUT: true; the input reads as it did. -/
def floatRootsSpec : ChangeSpec := { name := "floatRoots", fn := fun _ => fun
  | [d1, d2, d3] => { results := [.lit (.bool true)], args := [d1, d2, d3] }
  | _ => none }
def floatRootsRow : OpenClaim := { program := "ytjcmiedpgabdbaa", sum := "2435d9f16892a719232220c7536804b5d0a8911f1ed0bca313e8444f28476062", func := "anticline/anticlinelaw3.FloatRoots", spec := "floatRoots", unfollowed := true, recurses := true, apart := false }
def FloatRootsSaid : Prop := floatRootsRow.holds Try.pinned (OpenSpec.ofChange floatRootsSpec)

/-- ITS FALSE NEIGHBOUR: 'it returns false'. Refute it at one input. -/
def floatRootsWrong : ChangeSpec := { name := "floatRoots", fn := fun _ => fun
  | [d1, d2, d3] => { results := [.lit (.bool false)], args := [d1, d2, d3] }
  | _ => none }
def FloatRootsWrongFalsely : Prop := floatRootsRow.holds Try.pinned (OpenSpec.ofChange floatRootsWrong)

/-- 'anticlinelaw3.FloatModes': WHATEVER THE INPUT: true; the input reads as it did. -/
def floatModesSpec : ChangeSpec := { name := "floatModes", fn := fun _ => fun
  | [d1, d2, d3, d4, d5] => { results := [.lit (.bool true)], args := [d1, d2, d3, d4, d5] }
  | _ => none }
def floatModesRow : OpenClaim := { program := "ytjcmiedpgabdbaa", sum := "2435d9f16892a719232220c7536804b5d0a8911f1ed0bca313e8444f28476062", func := "anticline/anticlinelaw3.FloatModes", spec := "floatModes", unfollowed := true, recurses := true, apart := false }
def FloatModesSaid : Prop := floatModesRow.holds Try.pinned (OpenSpec.ofChange floatModesSpec)

/-- ITS FALSE NEIGHBOUR: 'it returns false'. Refute it at one input. -/
def floatModesWrong : ChangeSpec := { name := "floatModes", fn := fun _ => fun
  | [d1, d2, d3, d4, d5] => { results := [.lit (.bool false)], args := [d1, d2, d3, d4, d5] }
  | _ => none }
def FloatModesWrongFalsely : Prop := floatModesRow.holds Try.pinned (OpenSpec.ofChange floatModesWrong)

/-- 'anticlinelaw3.FloatSame': WHATEVER THE INPUT: true; the input reads as it did. -/
def floatSameSpec : ChangeSpec := { name := "floatSame", fn := fun _ => fun
  | [d1, d2, d3, d4, d5] => { results := [.lit (.bool true)], args := [d1, d2, d3, d4, d5] }
  | _ => none }
def floatSameRow : OpenClaim := { program := "ytjcmiedpgabdbaa", sum := "2435d9f16892a719232220c7536804b5d0a8911f1ed0bca313e8444f28476062", func := "anticline/anticlinelaw3.FloatSame", spec := "floatSame", unfollowed := true, recurses := true, apart := false }
def FloatSameSaid : Prop := floatSameRow.holds Try.pinned (OpenSpec.ofChange floatSameSpec)

/-- ITS FALSE NEIGHBOUR: 'it returns false'. Refute it at one input. -/
def floatSameWrong : ChangeSpec := { name := "floatSame", fn := fun _ => fun
  | [d1, d2, d3, d4, d5] => { results := [.lit (.bool false)], args := [d1, d2, d3, d4, d5] }
  | _ => none }
def FloatSameWrongFalsely : Prop := floatSameRow.holds Try.pinned (OpenSpec.ofChange floatSameWrong)

/-- 'anticlinelaw3.FloatKnown': WHATEVER THE INPUT: true; the input reads as it did. -/
def floatKnownSpec : ChangeSpec := { name := "floatKnown", fn := fun _ => fun
  | [d] => { results := [.lit (.bool true)], args := [d] }
  | _ => none }
def floatKnownRow : OpenClaim := { program := "ytjcmiedpgabdbaa", sum := "2435d9f16892a719232220c7536804b5d0a8911f1ed0bca313e8444f28476062", func := "anticline/anticlinelaw3.FloatKnown", spec := "floatKnown", unfollowed := true, recurses := true, apart := false }
def FloatKnownSaid : Prop := floatKnownRow.holds Try.pinned (OpenSpec.ofChange floatKnownSpec)

/-- ITS FALSE NEIGHBOUR: 'it returns false'. Refute it at one input. -/
def floatKnownWrong : ChangeSpec := { name := "floatKnown", fn := fun _ => fun
  | [d] => { results := [.lit (.bool false)], args := [d] }
  | _ => none }
def FloatKnownWrongFalsely : Prop := floatKnownRow.holds Try.pinned (OpenSpec.ofChange floatKnownWrong)

/-- 'anticlinelaw3.FloatOps': WHATEVER THE INPUT: true; the input reads as it did. -/
def floatOpsSpec : ChangeSpec := { name := "floatOps", fn := fun _ => fun
  | [d1, d2, d3, d4, d5] => { results := [.lit (.bool true)], args := [d1, d2, d3, d4, d5] }
  | _ => none }
def floatOpsRow : OpenClaim := { program := "ytjcmiedpgabdbaa", sum := "2435d9f16892a719232220c7536804b5d0a8911f1ed0bca313e8444f28476062", func := "anticline/anticlinelaw3.FloatOps", spec := "floatOps", unfollowed := true, recurses := true, apart := false }
def FloatOpsSaid : Prop := floatOpsRow.holds Try.pinned (OpenSpec.ofChange floatOpsSpec)

/-- ITS FALSE NEIGHBOUR: 'it returns false'. Refute it at one input. -/
def floatOpsWrong : ChangeSpec := { name := "floatOps", fn := fun _ => fun
  | [d1, d2, d3, d4, d5] => { results := [.lit (.bool false)], args := [d1, d2, d3, d4, d5] }
  | _ => none }
def FloatOpsWrongFalsely : Prop := floatOpsRow.holds Try.pinned (OpenSpec.ofChange floatOpsWrong)

/- THE SECOND FORM. 'bulk': how many values and letters a reading holds, each counted each time it is reached (what is shared counts as often as it is met; a slice's spare places count too). A statement '..UptoSaid' is the law's where the arguments, and the package variables that the reading takes, are together of bulk at most 1048576: NARROWER than '..Said'. Prove '..Said' where nothing that the law and all that it calls make is longer than what came in: it says more and counts as full. Else prove '..UptoSaid'. A law counts once. -/
mutual
def uptoBulk {H : Type} : DataW H → Nat
  | .lit (.string bytes) => bytes.length + 1
  | .lit _ => 1
  | .nil => 1
  | .ptr d => uptoBulk d + 1
  | .slice elems spare => uptoBulkAll elems + uptoBulkAll spare + 1
  | .agg parts => uptoBulkAll parts + 1
  | .iface _ d => uptoBulk d + 1
  | .map entries => uptoBulkEntries entries + 1
  | .held _ => 1
def uptoBulkAll {H : Type} : List (DataW H) → Nat
  | [] => 0
  | d :: r => uptoBulk d + uptoBulkAll r
def uptoBulkEntries {H : Type} : List (Lit × DataW H) → Nat
  | [] => 0
  | x :: r => uptoBulkEntry x + uptoBulkEntries r
def uptoBulkEntry {H : Type} : Lit × DataW H → Nat
  | (.string bytes, d) => bytes.length + uptoBulk d + 1
  | (_, d) => uptoBulk d + 1
 end
def uptoSmall : (H : Type) → List (DataW H) → Bool := fun _ ds => decide (uptoBulkAll ds ≤ 1048576)
def OpenSpec.upto (s : _root_.Go.ChangeSpec) : _root_.Go.OpenSpec := { _root_.Go.OpenSpec.ofChange s with cond := some uptoSmall }

/-- 'anticlinelaw16.CertRounds', WHERE WHAT IT READS IS OF BULK AT MOST 1048576: true; the input reads as it did. -/
def certRoundsUptoRow : OpenClaim := { program := "ytjcmiedpgabdbaa", sum := "2435d9f16892a719232220c7536804b5d0a8911f1ed0bca313e8444f28476062", func := "anticline/anticlinelaw16.CertRounds", spec := "certRounds", apart := false, narrowed := true }
def CertRoundsUptoSaid : Prop := certRoundsUptoRow.holds Try.pinned (OpenSpec.upto certRoundsSpec)

/-- 'anticlinelaw3.FloatBetween', WHERE WHAT IT READS IS OF BULK AT MOST 1048576: true; the input reads as it did. -/
def floatBetweenUptoRow : OpenClaim := { program := "ytjcmiedpgabdbaa", sum := "2435d9f16892a719232220c7536804b5d0a8911f1ed0bca313e8444f28476062", func := "anticline/anticlinelaw3.FloatBetween", spec := "floatBetween", unfollowed := true, recurses := true, apart := false, narrowed := true }
def FloatBetweenUptoSaid : Prop := floatBetweenUptoRow.holds Try.pinned (OpenSpec.upto floatBetweenSpec)

/-- 'anticlinelaw3.FloatNexts', WHERE WHAT IT READS IS OF BULK AT MOST 1048576: true; the input reads as it did. -/
def floatNextsUptoRow : OpenClaim := { program := "ytjcmiedpgabdbaa", sum := "2435d9f16892a719232220c7536804b5d0a8911f1ed0bca313e8444f28476062", func := "anticline/anticlinelaw3.FloatNexts", spec := "floatNexts", unfollowed := true, recurses := true, apart := false, narrowed := true }
def FloatNextsUptoSaid : Prop := floatNextsUptoRow.holds Try.pinned (OpenSpec.upto floatNextsSpec)

/-- 'anticlinelaw3.FloatTurned', WHERE WHAT IT READS IS OF BULK AT MOST 1048576: true; the input reads as it did. -/
def floatTurnedUptoRow : OpenClaim := { program := "ytjcmiedpgabdbaa", sum := "2435d9f16892a719232220c7536804b5d0a8911f1ed0bca313e8444f28476062", func := "anticline/anticlinelaw3.FloatTurned", spec := "floatTurned", unfollowed := true, recurses := true, apart := false, narrowed := true }
def FloatTurnedUptoSaid : Prop := floatTurnedUptoRow.holds Try.pinned (OpenSpec.upto floatTurnedSpec)

/-- 'anticlinelaw3.FloatScales', WHERE WHAT IT READS IS OF BULK AT MOST 1048576: true; the input reads as it did. -/
def floatScalesUptoRow : OpenClaim := { program := "ytjcmiedpgabdbaa", sum := "2435d9f16892a719232220c7536804b5d0a8911f1ed0bca313e8444f28476062", func := "anticline/anticlinelaw3.FloatScales", spec := "floatScales", unfollowed := true, recurses := true, apart := false, narrowed := true }
def FloatScalesUptoSaid : Prop := floatScalesUptoRow.holds Try.pinned (OpenSpec.upto floatScalesSpec)

/-- 'anticlinelaw3.FloatOrder', WHERE WHAT IT READS IS OF BULK AT MOST 1048576: true; the input reads as it did. -/
def floatOrderUptoRow : OpenClaim := { program := "ytjcmiedpgabdbaa", sum := "2435d9f16892a719232220c7536804b5d0a8911f1ed0bca313e8444f28476062", func := "anticline/anticlinelaw3.FloatOrder", spec := "floatOrder", unfollowed := true, recurses := true, apart := false, narrowed := true }
def FloatOrderUptoSaid : Prop := floatOrderUptoRow.holds Try.pinned (OpenSpec.upto floatOrderSpec)

/-- 'anticlinelaw3.FloatFma', WHERE WHAT IT READS IS OF BULK AT MOST 1048576: true; the input reads as it did. -/
def floatFmaUptoRow : OpenClaim := { program := "ytjcmiedpgabdbaa", sum := "2435d9f16892a719232220c7536804b5d0a8911f1ed0bca313e8444f28476062", func := "anticline/anticlinelaw3.FloatFma", spec := "floatFma", unfollowed := true, recurses := true, apart := false, narrowed := true }
def FloatFmaUptoSaid : Prop := floatFmaUptoRow.holds Try.pinned (OpenSpec.upto floatFmaSpec)

/-- 'anticlinelaw3.FloatOf', WHERE WHAT IT READS IS OF BULK AT MOST 1048576: true; the input reads as it did. -/
def floatOfUptoRow : OpenClaim := { program := "ytjcmiedpgabdbaa", sum := "2435d9f16892a719232220c7536804b5d0a8911f1ed0bca313e8444f28476062", func := "anticline/anticlinelaw3.FloatOf", spec := "floatOf", unfollowed := true, recurses := true, apart := false, narrowed := true }
def FloatOfUptoSaid : Prop := floatOfUptoRow.holds Try.pinned (OpenSpec.upto floatOfSpec)

/-- 'anticlinelaw3.FloatBack', WHERE WHAT IT READS IS OF BULK AT MOST 1048576: true; the input reads as it did. -/
def floatBackUptoRow : OpenClaim := { program := "ytjcmiedpgabdbaa", sum := "2435d9f16892a719232220c7536804b5d0a8911f1ed0bca313e8444f28476062", func := "anticline/anticlinelaw3.FloatBack", spec := "floatBack", unfollowed := true, recurses := true, apart := false, narrowed := true }
def FloatBackUptoSaid : Prop := floatBackUptoRow.holds Try.pinned (OpenSpec.upto floatBackSpec)

/-- 'anticlinelaw3.FloatInts', WHERE WHAT IT READS IS OF BULK AT MOST 1048576: true; the input reads as it did. -/
def floatIntsUptoRow : OpenClaim := { program := "ytjcmiedpgabdbaa", sum := "2435d9f16892a719232220c7536804b5d0a8911f1ed0bca313e8444f28476062", func := "anticline/anticlinelaw3.FloatInts", spec := "floatInts", unfollowed := true, recurses := true, apart := false, narrowed := true }
def FloatIntsUptoSaid : Prop := floatIntsUptoRow.holds Try.pinned (OpenSpec.upto floatIntsSpec)

/-- 'anticlinelaw3.FloatRoots', WHERE WHAT IT READS IS OF BULK AT MOST 1048576: true; the input reads as it did. -/
def floatRootsUptoRow : OpenClaim := { program := "ytjcmiedpgabdbaa", sum := "2435d9f16892a719232220c7536804b5d0a8911f1ed0bca313e8444f28476062", func := "anticline/anticlinelaw3.FloatRoots", spec := "floatRoots", unfollowed := true, recurses := true, apart := false, narrowed := true }
def FloatRootsUptoSaid : Prop := floatRootsUptoRow.holds Try.pinned (OpenSpec.upto floatRootsSpec)

/-- 'anticlinelaw3.FloatModes', WHERE WHAT IT READS IS OF BULK AT MOST 1048576: true; the input reads as it did. -/
def floatModesUptoRow : OpenClaim := { program := "ytjcmiedpgabdbaa", sum := "2435d9f16892a719232220c7536804b5d0a8911f1ed0bca313e8444f28476062", func := "anticline/anticlinelaw3.FloatModes", spec := "floatModes", unfollowed := true, recurses := true, apart := false, narrowed := true }
def FloatModesUptoSaid : Prop := floatModesUptoRow.holds Try.pinned (OpenSpec.upto floatModesSpec)

/-- 'anticlinelaw3.FloatSame', WHERE WHAT IT READS IS OF BULK AT MOST 1048576: true; the input reads as it did. -/
def floatSameUptoRow : OpenClaim := { program := "ytjcmiedpgabdbaa", sum := "2435d9f16892a719232220c7536804b5d0a8911f1ed0bca313e8444f28476062", func := "anticline/anticlinelaw3.FloatSame", spec := "floatSame", unfollowed := true, recurses := true, apart := false, narrowed := true }
def FloatSameUptoSaid : Prop := floatSameUptoRow.holds Try.pinned (OpenSpec.upto floatSameSpec)

/-- 'anticlinelaw3.FloatKnown', WHERE WHAT IT READS IS OF BULK AT MOST 1048576: true; the input reads as it did. -/
def floatKnownUptoRow : OpenClaim := { program := "ytjcmiedpgabdbaa", sum := "2435d9f16892a719232220c7536804b5d0a8911f1ed0bca313e8444f28476062", func := "anticline/anticlinelaw3.FloatKnown", spec := "floatKnown", unfollowed := true, recurses := true, apart := false, narrowed := true }
def FloatKnownUptoSaid : Prop := floatKnownUptoRow.holds Try.pinned (OpenSpec.upto floatKnownSpec)

/-- 'anticlinelaw3.FloatOps', WHERE WHAT IT READS IS OF BULK AT MOST 1048576: true; the input reads as it did. -/
def floatOpsUptoRow : OpenClaim := { program := "ytjcmiedpgabdbaa", sum := "2435d9f16892a719232220c7536804b5d0a8911f1ed0bca313e8444f28476062", func := "anticline/anticlinelaw3.FloatOps", spec := "floatOps", unfollowed := true, recurses := true, apart := false, narrowed := true }
def FloatOpsUptoSaid : Prop := floatOpsUptoRow.holds Try.pinned (OpenSpec.upto floatOpsSpec)

end Rows
end Go.Proofs.Ytjcmiedpgabdbaa
