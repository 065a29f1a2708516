/-
  No cell of these rows narrows 'for every input' (looked for: loops, veiled, ifaces, maps, wideKeys, modest, calm, conditions, laid).
  DERIVED. THE GIVEN ROWS OF THIS SEAT. 6 by the template 'for every input the law returns true; each argument reads behind the call as it read before'; 0 by the template 'total and deterministic' (their statements: YtjfcphohgicolaaGreatTotals.lean).
  GIVEN WITH THE SEED: the statements are not yours to turn. If you find one false, say at which input.
  Laid BY PROGRAM, IN A SANDBOX (cutbox-rows.mjs): the forced cells as the released guide's own fill.sh prints them over the translation 2d580f54d1a21c70… (all of the seat's roots in one cut). By AI agents, Wed Nov 11 2026. No macro, syntax, notation, axiom, sorry.
-/
import Derived.Test.YtjfcphohgicolaaGreatChecked
import GoSem.Claim
import GoSem.ClaimJoined
import GoSem.ClaimMapViews
import Derived.JoinedTies
import Derived.KernelRfl
namespace Go.Proofs.YtjfcphohgicolaaGreat
/- THE CELL 'sum', in the pinned program and in every row, IS THE sha256 OF THE DUMP (.gsa) THAT YtjfcphohgicolaaGreatProg.lean LOADS. Nothing in Lean hashes anything: it is a label: what it is worth is what the hold of that sum in a sandbox is worth. -/
noncomputable def Tryz.pinned : Pinned := { name := "ytjfcphohgicolaagreat", sum := "2d580f54d1a21c70f18d7ad5efd4b4e0cfc56bc00a01bbfa301fcd7228c21fdf", checked := Tryz.checked }
namespace Rows
def none {H : Type} : Left H := { results := [], args := [] }

/-- 'anticlinelaw13.GkoFactors': WHATEVER THE INPUT: true; the input reads as it did. -/
def gkoFactorsSpec : ChangeSpec := { name := "gkoFactors", fn := fun _ => fun
  | [d1, d2, d3, d4] => { results := [.lit (.bool true)], args := [d1, d2, d3, d4] }
  | _ => none }
def gkoFactorsRow : OpenClaim := { program := "ytjfcphohgicolaagreat", sum := "2d580f54d1a21c70f18d7ad5efd4b4e0cfc56bc00a01bbfa301fcd7228c21fdf", func := "anticline/anticlinelaw13.GkoFactors", spec := "gkoFactors", unfollowed := true, recurses := true, plainKeys := false, apart := false }
def GkoFactorsSaid : Prop := gkoFactorsRow.holds Tryz.pinned (OpenSpec.ofChange gkoFactorsSpec)

/-- ITS FALSE NEIGHBOUR: 'it returns false'. Refute it at one input. -/
def gkoFactorsWrong : ChangeSpec := { name := "gkoFactors", fn := fun _ => fun
  | [d1, d2, d3, d4] => { results := [.lit (.bool false)], args := [d1, d2, d3, d4] }
  | _ => none }
def GkoFactorsWrongFalsely : Prop := gkoFactorsRow.holds Tryz.pinned (OpenSpec.ofChange gkoFactorsWrong)

/-- 'anticlinelaw13.GkoParts': WHATEVER THE INPUT: true; the input reads as it did. -/
def gkoPartsSpec : ChangeSpec := { name := "gkoParts", fn := fun _ => fun
  | [d1, d2, d3] => { results := [.lit (.bool true)], args := [d1, d2, d3] }
  | _ => none }
def gkoPartsRow : OpenClaim := { program := "ytjfcphohgicolaagreat", sum := "2d580f54d1a21c70f18d7ad5efd4b4e0cfc56bc00a01bbfa301fcd7228c21fdf", func := "anticline/anticlinelaw13.GkoParts", spec := "gkoParts", unfollowed := true, recurses := true, plainKeys := false, apart := false }
def GkoPartsSaid : Prop := gkoPartsRow.holds Tryz.pinned (OpenSpec.ofChange gkoPartsSpec)

/-- ITS FALSE NEIGHBOUR: 'it returns false'. Refute it at one input. -/
def gkoPartsWrong : ChangeSpec := { name := "gkoParts", fn := fun _ => fun
  | [d1, d2, d3] => { results := [.lit (.bool false)], args := [d1, d2, d3] }
  | _ => none }
def GkoPartsWrongFalsely : Prop := gkoPartsRow.holds Tryz.pinned (OpenSpec.ofChange gkoPartsWrong)

/-- 'anticlinelaw13.GkoGrowth': WHATEVER THE INPUT: true; the input reads as it did. -/
def gkoGrowthSpec : ChangeSpec := { name := "gkoGrowth", fn := fun _ => fun
  | [d1, d2, d3] => { results := [.lit (.bool true)], args := [d1, d2, d3] }
  | _ => none }
def gkoGrowthRow : OpenClaim := { program := "ytjfcphohgicolaagreat", sum := "2d580f54d1a21c70f18d7ad5efd4b4e0cfc56bc00a01bbfa301fcd7228c21fdf", func := "anticline/anticlinelaw13.GkoGrowth", spec := "gkoGrowth", unfollowed := true, recurses := true, plainKeys := false, apart := false }
def GkoGrowthSaid : Prop := gkoGrowthRow.holds Tryz.pinned (OpenSpec.ofChange gkoGrowthSpec)

/-- ITS FALSE NEIGHBOUR: 'it returns false'. Refute it at one input. -/
def gkoGrowthWrong : ChangeSpec := { name := "gkoGrowth", fn := fun _ => fun
  | [d1, d2, d3] => { results := [.lit (.bool false)], args := [d1, d2, d3] }
  | _ => none }
def GkoGrowthWrongFalsely : Prop := gkoGrowthRow.holds Tryz.pinned (OpenSpec.ofChange gkoGrowthWrong)

/-- 'anticlinelaw13.GkoRows': WHATEVER THE INPUT: true; the input reads as it did. -/
def gkoRowsSpec : ChangeSpec := { name := "gkoRows", fn := fun _ => fun
  | [d1, d2, d3] => { results := [.lit (.bool true)], args := [d1, d2, d3] }
  | _ => none }
def gkoRowsRow : OpenClaim := { program := "ytjfcphohgicolaagreat", sum := "2d580f54d1a21c70f18d7ad5efd4b4e0cfc56bc00a01bbfa301fcd7228c21fdf", func := "anticline/anticlinelaw13.GkoRows", spec := "gkoRows", unfollowed := true, recurses := true, plainKeys := false, apart := false }
def GkoRowsSaid : Prop := gkoRowsRow.holds Tryz.pinned (OpenSpec.ofChange gkoRowsSpec)

/-- ITS FALSE NEIGHBOUR: 'it returns false'. Refute it at one input. -/
def gkoRowsWrong : ChangeSpec := { name := "gkoRows", fn := fun _ => fun
  | [d1, d2, d3] => { results := [.lit (.bool false)], args := [d1, d2, d3] }
  | _ => none }
def GkoRowsWrongFalsely : Prop := gkoRowsRow.holds Tryz.pinned (OpenSpec.ofChange gkoRowsWrong)

/-- 'anticlinelaw11.SchurSolves': WHATEVER THE INPUT: true; the input reads as it did. -/
def schurSolvesSpec : ChangeSpec := { name := "schurSolves", fn := fun _ => fun
  | [d1, d2, d3, d4] => { results := [.lit (.bool true)], args := [d1, d2, d3, d4] }
  | _ => none }
def schurSolvesRow : OpenClaim := { program := "ytjfcphohgicolaagreat", sum := "2d580f54d1a21c70f18d7ad5efd4b4e0cfc56bc00a01bbfa301fcd7228c21fdf", func := "anticline/anticlinelaw11.SchurSolves", spec := "schurSolves", unfollowed := true, recurses := true, plainKeys := false, apart := false }
def SchurSolvesSaid : Prop := schurSolvesRow.holds Tryz.pinned (OpenSpec.ofChange schurSolvesSpec)

/-- ITS FALSE NEIGHBOUR: 'it returns false'. Refute it at one input. -/
def schurSolvesWrong : ChangeSpec := { name := "schurSolves", fn := fun _ => fun
  | [d1, d2, d3, d4] => { results := [.lit (.bool false)], args := [d1, d2, d3, d4] }
  | _ => none }
def SchurSolvesWrongFalsely : Prop := schurSolvesRow.holds Tryz.pinned (OpenSpec.ofChange schurSolvesWrong)

/-- 'anticlinelaw13.GkoSolves': WHATEVER THE INPUT: true; the input reads as it did. -/
def gkoSolvesSpec : ChangeSpec := { name := "gkoSolves", fn := fun _ => fun
  | [d1, d2, d3, d4] => { results := [.lit (.bool true)], args := [d1, d2, d3, d4] }
  | _ => none }
def gkoSolvesRow : OpenClaim := { program := "ytjfcphohgicolaagreat", sum := "2d580f54d1a21c70f18d7ad5efd4b4e0cfc56bc00a01bbfa301fcd7228c21fdf", func := "anticline/anticlinelaw13.GkoSolves", spec := "gkoSolves", unfollowed := true, recurses := true, plainKeys := false, apart := false }
def GkoSolvesSaid : Prop := gkoSolvesRow.holds Tryz.pinned (OpenSpec.ofChange gkoSolvesSpec)

/-- ITS FALSE NEIGHBOUR: 'it returns false'. Refute it at one input. -/
def gkoSolvesWrong : ChangeSpec := { name := "gkoSolves", fn := fun _ => fun
  | [d1, d2, d3, d4] => { results := [.lit (.bool false)], args := [d1, d2, d3, d4] }
  | _ => none }
def GkoSolvesWrongFalsely : Prop := gkoSolvesRow.holds Tryz.pinned (OpenSpec.ofChange gkoSolvesWrong)

/- THE SECOND FORM. 'bulk': how many values and letters a reading holds, each counted each time it is reached (what is shared counts as often as it is met; a slice's spare places count too). A statement '..UptoSaid' is the law's where the arguments, and the package variables that the reading takes, are together of bulk at most 1048576: NARROWER than '..Said'. Prove '..Said' where nothing that the law and all that it calls make is longer than what came in: it says more and counts as full. Else prove '..UptoSaid'. A law counts once. -/
mutual
def uptoBulk {H : Type} : DataW H → Nat
  | .lit (.string bytes) => bytes.length + 1
  | .lit _ => 1
  | .nil => 1
  | .ptr d => uptoBulk d + 1
  | .slice elems spare => uptoBulkAll elems + uptoBulkAll spare + 1
  | .agg parts => uptoBulkAll parts + 1
  | .iface _ d => uptoBulk d + 1
  | .map entries => uptoBulkEntries entries + 1
  | .held _ => 1
def uptoBulkAll {H : Type} : List (DataW H) → Nat
  | [] => 0
  | d :: r => uptoBulk d + uptoBulkAll r
def uptoBulkEntries {H : Type} : List (Lit × DataW H) → Nat
  | [] => 0
  | x :: r => uptoBulkEntry x + uptoBulkEntries r
def uptoBulkEntry {H : Type} : Lit × DataW H → Nat
  | (.string bytes, d) => bytes.length + uptoBulk d + 1
  | (_, d) => uptoBulk d + 1
 end
def uptoSmall : (H : Type) → List (DataW H) → Bool := fun _ ds => decide (uptoBulkAll ds ≤ 1048576)
def OpenSpec.upto (s : _root_.Go.ChangeSpec) : _root_.Go.OpenSpec := { _root_.Go.OpenSpec.ofChange s with cond := some uptoSmall }

/-- 'anticlinelaw13.GkoFactors', WHERE WHAT IT READS IS OF BULK AT MOST 1048576: true; the input reads as it did. -/
def gkoFactorsUptoRow : OpenClaim := { program := "ytjfcphohgicolaagreat", sum := "2d580f54d1a21c70f18d7ad5efd4b4e0cfc56bc00a01bbfa301fcd7228c21fdf", func := "anticline/anticlinelaw13.GkoFactors", spec := "gkoFactors", unfollowed := true, recurses := true, plainKeys := false, apart := false, narrowed := true }
def GkoFactorsUptoSaid : Prop := gkoFactorsUptoRow.holds Tryz.pinned (OpenSpec.upto gkoFactorsSpec)

/-- 'anticlinelaw13.GkoParts', WHERE WHAT IT READS IS OF BULK AT MOST 1048576: true; the input reads as it did. -/
def gkoPartsUptoRow : OpenClaim := { program := "ytjfcphohgicolaagreat", sum := "2d580f54d1a21c70f18d7ad5efd4b4e0cfc56bc00a01bbfa301fcd7228c21fdf", func := "anticline/anticlinelaw13.GkoParts", spec := "gkoParts", unfollowed := true, recurses := true, plainKeys := false, apart := false, narrowed := true }
def GkoPartsUptoSaid : Prop := gkoPartsUptoRow.holds Tryz.pinned (OpenSpec.upto gkoPartsSpec)

/-- 'anticlinelaw13.GkoGrowth', WHERE WHAT IT READS IS OF BULK AT MOST 1048576: true; the input reads as it did. -/
def gkoGrowthUptoRow : OpenClaim := { program := "ytjfcphohgicolaagreat", sum := "2d580f54d1a21c70f18d7ad5efd4b4e0cfc56bc00a01bbfa301fcd7228c21fdf", func := "anticline/anticlinelaw13.GkoGrowth", spec := "gkoGrowth", unfollowed := true, recurses := true, plainKeys := false, apart := false, narrowed := true }
def GkoGrowthUptoSaid : Prop := gkoGrowthUptoRow.holds Tryz.pinned (OpenSpec.upto gkoGrowthSpec)

/-- 'anticlinelaw13.GkoRows', WHERE WHAT IT READS IS OF BULK AT MOST 1048576: true; the input reads as it did. -/
def gkoRowsUptoRow : OpenClaim := { program := "ytjfcphohgicolaagreat", sum := "2d580f54d1a21c70f18d7ad5efd4b4e0cfc56bc00a01bbfa301fcd7228c21fdf", func := "anticline/anticlinelaw13.GkoRows", spec := "gkoRows", unfollowed := true, recurses := true, plainKeys := false, apart := false, narrowed := true }
def GkoRowsUptoSaid : Prop := gkoRowsUptoRow.holds Tryz.pinned (OpenSpec.upto gkoRowsSpec)

/-- 'anticlinelaw11.SchurSolves', WHERE WHAT IT READS IS OF BULK AT MOST 1048576: true; the input reads as it did. -/
def schurSolvesUptoRow : OpenClaim := { program := "ytjfcphohgicolaagreat", sum := "2d580f54d1a21c70f18d7ad5efd4b4e0cfc56bc00a01bbfa301fcd7228c21fdf", func := "anticline/anticlinelaw11.SchurSolves", spec := "schurSolves", unfollowed := true, recurses := true, plainKeys := false, apart := false, narrowed := true }
def SchurSolvesUptoSaid : Prop := schurSolvesUptoRow.holds Tryz.pinned (OpenSpec.upto schurSolvesSpec)

/-- 'anticlinelaw13.GkoSolves', WHERE WHAT IT READS IS OF BULK AT MOST 1048576: true; the input reads as it did. -/
def gkoSolvesUptoRow : OpenClaim := { program := "ytjfcphohgicolaagreat", sum := "2d580f54d1a21c70f18d7ad5efd4b4e0cfc56bc00a01bbfa301fcd7228c21fdf", func := "anticline/anticlinelaw13.GkoSolves", spec := "gkoSolves", unfollowed := true, recurses := true, plainKeys := false, apart := false, narrowed := true }
def GkoSolvesUptoSaid : Prop := gkoSolvesUptoRow.holds Tryz.pinned (OpenSpec.upto gkoSolvesSpec)

end Rows
end Go.Proofs.YtjfcphohgicolaaGreat
