/-
  No cell of these rows narrows 'for every input' (looked for: loops, veiled, ifaces, maps, wideKeys, modest, calm, conditions, laid).
  DERIVED. THE GIVEN ROWS OF THIS SEAT. 13 by the template 'for every input the law returns true; each argument reads behind the call as it read before'; 0 by the template 'total and deterministic' (their statements: YtkaooejeljdbnaaTotals.lean).
  GIVEN WITH THE SEED: the statements are not yours to turn. If you find one false, say at which input.
  Laid BY PROGRAM, IN A SANDBOX (cutbox-rows.mjs): the forced cells as the released guide's own fill.sh prints them over the translation 1d67ab3e979e57bb… (all of the seat's roots in one cut). By AI agents, Wed Nov 11 2026. No macro, syntax, notation, axiom, sorry.
-/
import Derived.Test.YtkaooejeljdbnaaChecked
import GoSem.Claim
import GoSem.ClaimJoined
import GoSem.ClaimMapViews
import Derived.JoinedTies
import Derived.KernelRfl
namespace Go.Proofs.Ytkaooejeljdbnaa
/- THE CELL 'sum', in the pinned program and in every row, IS THE sha256 OF THE DUMP (.gsa) THAT YtkaooejeljdbnaaProg.lean LOADS. Nothing in Lean hashes anything: it is a label: what it is worth is what the hold of that sum in a sandbox is worth. -/
noncomputable def Try.pinned : Pinned := { name := "ytkaooejeljdbnaa", sum := "1d67ab3e979e57bbeb011d1c717fdea5458277861341b3b590238fbc822eabd0", checked := Try.checked }
namespace Rows
def none {H : Type} : Left H := { results := [], args := [] }

/-- 'anticlinelaw14.VdmThrough': WHATEVER THE INPUT: true; the input reads as it did. -/
def vdmThroughSpec : ChangeSpec := { name := "vdmThrough", fn := fun _ => fun
  | [d1, d2, d3, d4] => { results := [.lit (.bool true)], args := [d1, d2, d3, d4] }
  | _ => none }
def vdmThroughRow : OpenClaim := { program := "ytkaooejeljdbnaa", sum := "1d67ab3e979e57bbeb011d1c717fdea5458277861341b3b590238fbc822eabd0", func := "anticline/anticlinelaw14.VdmThrough", spec := "vdmThrough", unfollowed := true, recurses := true, plainKeys := false, apart := false }
def VdmThroughSaid : Prop := vdmThroughRow.holds Try.pinned (OpenSpec.ofChange vdmThroughSpec)

/-- ITS FALSE NEIGHBOUR: 'it returns false'. Refute it at one input. -/
def vdmThroughWrong : ChangeSpec := { name := "vdmThrough", fn := fun _ => fun
  | [d1, d2, d3, d4] => { results := [.lit (.bool false)], args := [d1, d2, d3, d4] }
  | _ => none }
def VdmThroughWrongFalsely : Prop := vdmThroughRow.holds Try.pinned (OpenSpec.ofChange vdmThroughWrong)

/-- 'anticlinelaw14.VdmMoments': WHATEVER THE INPUT: true; the input reads as it did. -/
def vdmMomentsSpec : ChangeSpec := { name := "vdmMoments", fn := fun _ => fun
  | [d1, d2, d3, d4] => { results := [.lit (.bool true)], args := [d1, d2, d3, d4] }
  | _ => none }
def vdmMomentsRow : OpenClaim := { program := "ytkaooejeljdbnaa", sum := "1d67ab3e979e57bbeb011d1c717fdea5458277861341b3b590238fbc822eabd0", func := "anticline/anticlinelaw14.VdmMoments", spec := "vdmMoments", unfollowed := true, recurses := true, plainKeys := false, apart := false }
def VdmMomentsSaid : Prop := vdmMomentsRow.holds Try.pinned (OpenSpec.ofChange vdmMomentsSpec)

/-- ITS FALSE NEIGHBOUR: 'it returns false'. Refute it at one input. -/
def vdmMomentsWrong : ChangeSpec := { name := "vdmMoments", fn := fun _ => fun
  | [d1, d2, d3, d4] => { results := [.lit (.bool false)], args := [d1, d2, d3, d4] }
  | _ => none }
def VdmMomentsWrongFalsely : Prop := vdmMomentsRow.holds Try.pinned (OpenSpec.ofChange vdmMomentsWrong)

/-- 'anticlinelaw14.VdmBoth': WHATEVER THE INPUT: true; the input reads as it did. -/
def vdmBothSpec : ChangeSpec := { name := "vdmBoth", fn := fun _ => fun
  | [d1, d2, d3, d4] => { results := [.lit (.bool true)], args := [d1, d2, d3, d4] }
  | _ => none }
def vdmBothRow : OpenClaim := { program := "ytkaooejeljdbnaa", sum := "1d67ab3e979e57bbeb011d1c717fdea5458277861341b3b590238fbc822eabd0", func := "anticline/anticlinelaw14.VdmBoth", spec := "vdmBoth", unfollowed := true, recurses := true, plainKeys := false, apart := false }
def VdmBothSaid : Prop := vdmBothRow.holds Try.pinned (OpenSpec.ofChange vdmBothSpec)

/-- ITS FALSE NEIGHBOUR: 'it returns false'. Refute it at one input. -/
def vdmBothWrong : ChangeSpec := { name := "vdmBoth", fn := fun _ => fun
  | [d1, d2, d3, d4] => { results := [.lit (.bool false)], args := [d1, d2, d3, d4] }
  | _ => none }
def VdmBothWrongFalsely : Prop := vdmBothRow.holds Try.pinned (OpenSpec.ofChange vdmBothWrong)

/-- 'anticlinelaw16.CertRounds': WHATEVER THE INPUT: true; the input reads as it did. -/
def certRoundsSpec : ChangeSpec := { name := "certRounds", fn := fun _ => fun
  | [d1, d2, d3] => { results := [.lit (.bool true)], args := [d1, d2, d3] }
  | _ => none }
def certRoundsRow : OpenClaim := { program := "ytkaooejeljdbnaa", sum := "1d67ab3e979e57bbeb011d1c717fdea5458277861341b3b590238fbc822eabd0", func := "anticline/anticlinelaw16.CertRounds", spec := "certRounds", plainKeys := false, apart := false }
def CertRoundsSaid : Prop := certRoundsRow.holds Try.pinned (OpenSpec.ofChange certRoundsSpec)

/-- ITS FALSE NEIGHBOUR: 'it returns false'. Refute it at one input. -/
def certRoundsWrong : ChangeSpec := { name := "certRounds", fn := fun _ => fun
  | [d1, d2, d3] => { results := [.lit (.bool false)], args := [d1, d2, d3] }
  | _ => none }
def CertRoundsWrongFalsely : Prop := certRoundsRow.holds Try.pinned (OpenSpec.ofChange certRoundsWrong)

/-- 'anticlinelaw15.CauProduct': WHATEVER THE INPUT: true; the input reads as it did. -/
def cauProductSpec : ChangeSpec := { name := "cauProduct", fn := fun _ => fun
  | [d1, d2] => { results := [.lit (.bool true)], args := [d1, d2] }
  | _ => none }
def cauProductRow : OpenClaim := { program := "ytkaooejeljdbnaa", sum := "1d67ab3e979e57bbeb011d1c717fdea5458277861341b3b590238fbc822eabd0", func := "anticline/anticlinelaw15.CauProduct", spec := "cauProduct", unfollowed := true, recurses := true, plainKeys := false, apart := false }
def CauProductSaid : Prop := cauProductRow.holds Try.pinned (OpenSpec.ofChange cauProductSpec)

/-- ITS FALSE NEIGHBOUR: 'it returns false'. Refute it at one input. -/
def cauProductWrong : ChangeSpec := { name := "cauProduct", fn := fun _ => fun
  | [d1, d2] => { results := [.lit (.bool false)], args := [d1, d2] }
  | _ => none }
def CauProductWrongFalsely : Prop := cauProductRow.holds Try.pinned (OpenSpec.ofChange cauProductWrong)

/-- 'anticlinelaw15.CauUndoes': WHATEVER THE INPUT: true; the input reads as it did. -/
def cauUndoesSpec : ChangeSpec := { name := "cauUndoes", fn := fun _ => fun
  | [d1, d2] => { results := [.lit (.bool true)], args := [d1, d2] }
  | _ => none }
def cauUndoesRow : OpenClaim := { program := "ytkaooejeljdbnaa", sum := "1d67ab3e979e57bbeb011d1c717fdea5458277861341b3b590238fbc822eabd0", func := "anticline/anticlinelaw15.CauUndoes", spec := "cauUndoes", unfollowed := true, recurses := true, plainKeys := false, apart := false }
def CauUndoesSaid : Prop := cauUndoesRow.holds Try.pinned (OpenSpec.ofChange cauUndoesSpec)

/-- ITS FALSE NEIGHBOUR: 'it returns false'. Refute it at one input. -/
def cauUndoesWrong : ChangeSpec := { name := "cauUndoes", fn := fun _ => fun
  | [d1, d2] => { results := [.lit (.bool false)], args := [d1, d2] }
  | _ => none }
def CauUndoesWrongFalsely : Prop := cauUndoesRow.holds Try.pinned (OpenSpec.ofChange cauUndoesWrong)

/-- 'anticlinelaw15.CauHilbert': WHATEVER THE INPUT: true; the input reads as it did. -/
def cauHilbertSpec : ChangeSpec := { name := "cauHilbert", fn := fun _ => fun
  | [d] => { results := [.lit (.bool true)], args := [d] }
  | _ => none }
def cauHilbertRow : OpenClaim := { program := "ytkaooejeljdbnaa", sum := "1d67ab3e979e57bbeb011d1c717fdea5458277861341b3b590238fbc822eabd0", func := "anticline/anticlinelaw15.CauHilbert", spec := "cauHilbert", unfollowed := true, recurses := true, plainKeys := false, apart := false }
def CauHilbertSaid : Prop := cauHilbertRow.holds Try.pinned (OpenSpec.ofChange cauHilbertSpec)

/-- ITS FALSE NEIGHBOUR: 'it returns false'. Refute it at one input. -/
def cauHilbertWrong : ChangeSpec := { name := "cauHilbert", fn := fun _ => fun
  | [d] => { results := [.lit (.bool false)], args := [d] }
  | _ => none }
def CauHilbertWrongFalsely : Prop := cauHilbertRow.holds Try.pinned (OpenSpec.ofChange cauHilbertWrong)

/-- 'anticlinelaw15.CauTwins': WHATEVER THE INPUT: true; the input reads as it did. -/
def cauTwinsSpec : ChangeSpec := { name := "cauTwins", fn := fun _ => fun
  | [d1, d2, d3, d4, d5, d6] => { results := [.lit (.bool true)], args := [d1, d2, d3, d4, d5, d6] }
  | _ => none }
def cauTwinsRow : OpenClaim := { program := "ytkaooejeljdbnaa", sum := "1d67ab3e979e57bbeb011d1c717fdea5458277861341b3b590238fbc822eabd0", func := "anticline/anticlinelaw15.CauTwins", spec := "cauTwins", unfollowed := true, recurses := true, plainKeys := false, apart := false }
def CauTwinsSaid : Prop := cauTwinsRow.holds Try.pinned (OpenSpec.ofChange cauTwinsSpec)

/-- ITS FALSE NEIGHBOUR: 'it returns false'. Refute it at one input. -/
def cauTwinsWrong : ChangeSpec := { name := "cauTwins", fn := fun _ => fun
  | [d1, d2, d3, d4, d5, d6] => { results := [.lit (.bool false)], args := [d1, d2, d3, d4, d5, d6] }
  | _ => none }
def CauTwinsWrongFalsely : Prop := cauTwinsRow.holds Try.pinned (OpenSpec.ofChange cauTwinsWrong)

/-- 'anticlinelaw15.CauSolves': WHATEVER THE INPUT: true; the input reads as it did. -/
def cauSolvesSpec : ChangeSpec := { name := "cauSolves", fn := fun _ => fun
  | [d1, d2, d3] => { results := [.lit (.bool true)], args := [d1, d2, d3] }
  | _ => none }
def cauSolvesRow : OpenClaim := { program := "ytkaooejeljdbnaa", sum := "1d67ab3e979e57bbeb011d1c717fdea5458277861341b3b590238fbc822eabd0", func := "anticline/anticlinelaw15.CauSolves", spec := "cauSolves", unfollowed := true, recurses := true, plainKeys := false, apart := false }
def CauSolvesSaid : Prop := cauSolvesRow.holds Try.pinned (OpenSpec.ofChange cauSolvesSpec)

/-- ITS FALSE NEIGHBOUR: 'it returns false'. Refute it at one input. -/
def cauSolvesWrong : ChangeSpec := { name := "cauSolves", fn := fun _ => fun
  | [d1, d2, d3] => { results := [.lit (.bool false)], args := [d1, d2, d3] }
  | _ => none }
def CauSolvesWrongFalsely : Prop := cauSolvesRow.holds Try.pinned (OpenSpec.ofChange cauSolvesWrong)

/-- 'anticlinelaw11.SchurKnown': WHATEVER THE INPUT: true; the input reads as it did. -/
def schurKnownSpec : ChangeSpec := { name := "schurKnown", fn := fun _ => fun
  | [d] => { results := [.lit (.bool true)], args := [d] }
  | _ => none }
def schurKnownRow : OpenClaim := { program := "ytkaooejeljdbnaa", sum := "1d67ab3e979e57bbeb011d1c717fdea5458277861341b3b590238fbc822eabd0", func := "anticline/anticlinelaw11.SchurKnown", spec := "schurKnown", unfollowed := true, recurses := true, plainKeys := false, apart := false }
def SchurKnownSaid : Prop := schurKnownRow.holds Try.pinned (OpenSpec.ofChange schurKnownSpec)

/-- ITS FALSE NEIGHBOUR: 'it returns false'. Refute it at one input. -/
def schurKnownWrong : ChangeSpec := { name := "schurKnown", fn := fun _ => fun
  | [d] => { results := [.lit (.bool false)], args := [d] }
  | _ => none }
def SchurKnownWrongFalsely : Prop := schurKnownRow.holds Try.pinned (OpenSpec.ofChange schurKnownWrong)

/-- 'anticlinelaw11.SchurParts': WHATEVER THE INPUT: true; the input reads as it did. -/
def schurPartsSpec : ChangeSpec := { name := "schurParts", fn := fun _ => fun
  | [d1, d2, d3] => { results := [.lit (.bool true)], args := [d1, d2, d3] }
  | _ => none }
def schurPartsRow : OpenClaim := { program := "ytkaooejeljdbnaa", sum := "1d67ab3e979e57bbeb011d1c717fdea5458277861341b3b590238fbc822eabd0", func := "anticline/anticlinelaw11.SchurParts", spec := "schurParts", unfollowed := true, recurses := true, plainKeys := false, apart := false }
def SchurPartsSaid : Prop := schurPartsRow.holds Try.pinned (OpenSpec.ofChange schurPartsSpec)

/-- ITS FALSE NEIGHBOUR: 'it returns false'. Refute it at one input. -/
def schurPartsWrong : ChangeSpec := { name := "schurParts", fn := fun _ => fun
  | [d1, d2, d3] => { results := [.lit (.bool false)], args := [d1, d2, d3] }
  | _ => none }
def SchurPartsWrongFalsely : Prop := schurPartsRow.holds Try.pinned (OpenSpec.ofChange schurPartsWrong)

/-- 'anticlinelaw13.GkoScaled': WHATEVER THE INPUT: true; the input reads as it did. -/
def gkoScaledSpec : ChangeSpec := { name := "gkoScaled", fn := fun _ => fun
  | [d1, d2, d3] => { results := [.lit (.bool true)], args := [d1, d2, d3] }
  | _ => none }
def gkoScaledRow : OpenClaim := { program := "ytkaooejeljdbnaa", sum := "1d67ab3e979e57bbeb011d1c717fdea5458277861341b3b590238fbc822eabd0", func := "anticline/anticlinelaw13.GkoScaled", spec := "gkoScaled", unfollowed := true, recurses := true, plainKeys := false, apart := false }
def GkoScaledSaid : Prop := gkoScaledRow.holds Try.pinned (OpenSpec.ofChange gkoScaledSpec)

/-- ITS FALSE NEIGHBOUR: 'it returns false'. Refute it at one input. -/
def gkoScaledWrong : ChangeSpec := { name := "gkoScaled", fn := fun _ => fun
  | [d1, d2, d3] => { results := [.lit (.bool false)], args := [d1, d2, d3] }
  | _ => none }
def GkoScaledWrongFalsely : Prop := gkoScaledRow.holds Try.pinned (OpenSpec.ofChange gkoScaledWrong)

/-- 'anticlinelaw13.GkoKnown': WHATEVER THE INPUT: true; the input reads as it did. -/
def gkoKnownSpec : ChangeSpec := { name := "gkoKnown", fn := fun _ => fun
  | [d] => { results := [.lit (.bool true)], args := [d] }
  | _ => none }
def gkoKnownRow : OpenClaim := { program := "ytkaooejeljdbnaa", sum := "1d67ab3e979e57bbeb011d1c717fdea5458277861341b3b590238fbc822eabd0", func := "anticline/anticlinelaw13.GkoKnown", spec := "gkoKnown", unfollowed := true, recurses := true, plainKeys := false, apart := false }
def GkoKnownSaid : Prop := gkoKnownRow.holds Try.pinned (OpenSpec.ofChange gkoKnownSpec)

/-- ITS FALSE NEIGHBOUR: 'it returns false'. Refute it at one input. -/
def gkoKnownWrong : ChangeSpec := { name := "gkoKnown", fn := fun _ => fun
  | [d] => { results := [.lit (.bool false)], args := [d] }
  | _ => none }
def GkoKnownWrongFalsely : Prop := gkoKnownRow.holds Try.pinned (OpenSpec.ofChange gkoKnownWrong)

/- THE SECOND FORM. 'bulk': how many values and letters a reading holds, each counted each time it is reached (what is shared counts as often as it is met; a slice's spare places count too). A statement '..UptoSaid' is the law's where the arguments, and the package variables that the reading takes, are together of bulk at most 1048576: NARROWER than '..Said'. Prove '..Said' where nothing that the law and all that it calls make is longer than what came in: it says more and counts as full. Else prove '..UptoSaid'. A law counts once. -/
mutual
def uptoBulk {H : Type} : DataW H → Nat
  | .lit (.string bytes) => bytes.length + 1
  | .lit _ => 1
  | .nil => 1
  | .ptr d => uptoBulk d + 1
  | .slice elems spare => uptoBulkAll elems + uptoBulkAll spare + 1
  | .agg parts => uptoBulkAll parts + 1
  | .iface _ d => uptoBulk d + 1
  | .map entries => uptoBulkEntries entries + 1
  | .held _ => 1
def uptoBulkAll {H : Type} : List (DataW H) → Nat
  | [] => 0
  | d :: r => uptoBulk d + uptoBulkAll r
def uptoBulkEntries {H : Type} : List (Lit × DataW H) → Nat
  | [] => 0
  | x :: r => uptoBulkEntry x + uptoBulkEntries r
def uptoBulkEntry {H : Type} : Lit × DataW H → Nat
  | (.string bytes, d) => bytes.length + uptoBulk d + 1
  | (_, d) => uptoBulk d + 1
 end
def uptoSmall : (H : Type) → List (DataW H) → Bool := fun _ ds => decide (uptoBulkAll ds ≤ 1048576)
def OpenSpec.upto (s : _root_.Go.ChangeSpec) : _root_.Go.OpenSpec := { _root_.Go.OpenSpec.ofChange s with cond := some uptoSmall }

/-- 'anticlinelaw14.VdmThrough', WHERE WHAT IT READS IS OF BULK AT MOST 1048576: true; the input reads as it did. -/
def vdmThroughUptoRow : OpenClaim := { program := "ytkaooejeljdbnaa", sum := "1d67ab3e979e57bbeb011d1c717fdea5458277861341b3b590238fbc822eabd0", func := "anticline/anticlinelaw14.VdmThrough", spec := "vdmThrough", unfollowed := true, recurses := true, plainKeys := false, apart := false, narrowed := true }
def VdmThroughUptoSaid : Prop := vdmThroughUptoRow.holds Try.pinned (OpenSpec.upto vdmThroughSpec)

/-- 'anticlinelaw14.VdmMoments', WHERE WHAT IT READS IS OF BULK AT MOST 1048576: true; the input reads as it did. -/
def vdmMomentsUptoRow : OpenClaim := { program := "ytkaooejeljdbnaa", sum := "1d67ab3e979e57bbeb011d1c717fdea5458277861341b3b590238fbc822eabd0", func := "anticline/anticlinelaw14.VdmMoments", spec := "vdmMoments", unfollowed := true, recurses := true, plainKeys := false, apart := false, narrowed := true }
def VdmMomentsUptoSaid : Prop := vdmMomentsUptoRow.holds Try.pinned (OpenSpec.upto vdmMomentsSpec)

/-- 'anticlinelaw14.VdmBoth', WHERE WHAT IT READS IS OF BULK AT MOST 1048576: true; the input reads as it did. -/
def vdmBothUptoRow : OpenClaim := { program := "ytkaooejeljdbnaa", sum := "1d67ab3e979e57bbeb011d1c717fdea5458277861341b3b590238fbc822eabd0", func := "anticline/anticlinelaw14.VdmBoth", spec := "vdmBoth", unfollowed := true, recurses := true, plainKeys := false, apart := false, narrowed := true }
def VdmBothUptoSaid : Prop := vdmBothUptoRow.holds Try.pinned (OpenSpec.upto vdmBothSpec)

/-- 'anticlinelaw16.CertRounds', WHERE WHAT IT READS IS OF BULK AT MOST 1048576: true; the input reads as it did. -/
def certRoundsUptoRow : OpenClaim := { program := "ytkaooejeljdbnaa", sum := "1d67ab3e979e57bbeb011d1c717fdea5458277861341b3b590238fbc822eabd0", func := "anticline/anticlinelaw16.CertRounds", spec := "certRounds", plainKeys := false, apart := false, narrowed := true }
def CertRoundsUptoSaid : Prop := certRoundsUptoRow.holds Try.pinned (OpenSpec.upto certRoundsSpec)

/-- 'anticlinelaw15.CauProduct', WHERE WHAT IT READS IS OF BULK AT MOST 1048576: true; the input reads as it did. -/
def cauProductUptoRow : OpenClaim := { program := "ytkaooejeljdbnaa", sum := "1d67ab3e979e57bbeb011d1c717fdea5458277861341b3b590238fbc822eabd0", func := "anticline/anticlinelaw15.CauProduct", spec := "cauProduct", unfollowed := true, recurses := true, plainKeys := false, apart := false, narrowed := true }
def CauProductUptoSaid : Prop := cauProductUptoRow.holds Try.pinned (OpenSpec.upto cauProductSpec)

/-- 'anticlinelaw15.CauUndoes', WHERE WHAT IT READS IS OF BULK AT MOST 1048576: true; the input reads as it did. -/
def cauUndoesUptoRow : OpenClaim := { program := "ytkaooejeljdbnaa", sum := "1d67ab3e979e57bbeb011d1c717fdea5458277861341b3b590238fbc822eabd0", func := "anticline/anticlinelaw15.CauUndoes", spec := "cauUndoes", unfollowed := true, recurses := true, plainKeys := false, apart := false, narrowed := true }
def CauUndoesUptoSaid : Prop := cauUndoesUptoRow.holds Try.pinned (OpenSpec.upto cauUndoesSpec)

/-- 'anticlinelaw15.CauHilbert', WHERE WHAT IT READS IS OF BULK AT MOST 1048576: true; the input reads as it did. -/
def cauHilbertUptoRow : OpenClaim := { program := "ytkaooejeljdbnaa", sum := "1d67ab3e979e57bbeb011d1c717fdea5458277861341b3b590238fbc822eabd0", func := "anticline/anticlinelaw15.CauHilbert", spec := "cauHilbert", unfollowed := true, recurses := true, plainKeys := false, apart := false, narrowed := true }
def CauHilbertUptoSaid : Prop := cauHilbertUptoRow.holds Try.pinned (OpenSpec.upto cauHilbertSpec)

/-- 'anticlinelaw15.CauTwins', WHERE WHAT IT READS IS OF BULK AT MOST 1048576: true; the input reads as it did. -/
def cauTwinsUptoRow : OpenClaim := { program := "ytkaooejeljdbnaa", sum := "1d67ab3e979e57bbeb011d1c717fdea5458277861341b3b590238fbc822eabd0", func := "anticline/anticlinelaw15.CauTwins", spec := "cauTwins", unfollowed := true, recurses := true, plainKeys := false, apart := false, narrowed := true }
def CauTwinsUptoSaid : Prop := cauTwinsUptoRow.holds Try.pinned (OpenSpec.upto cauTwinsSpec)

/-- 'anticlinelaw15.CauSolves', WHERE WHAT IT READS IS OF BULK AT MOST 1048576: true; the input reads as it did. -/
def cauSolvesUptoRow : OpenClaim := { program := "ytkaooejeljdbnaa", sum := "1d67ab3e979e57bbeb011d1c717fdea5458277861341b3b590238fbc822eabd0", func := "anticline/anticlinelaw15.CauSolves", spec := "cauSolves", unfollowed := true, recurses := true, plainKeys := false, apart := false, narrowed := true }
def CauSolvesUptoSaid : Prop := cauSolvesUptoRow.holds Try.pinned (OpenSpec.upto cauSolvesSpec)

/-- 'anticlinelaw11.SchurKnown', WHERE WHAT IT READS IS OF BULK AT MOST 1048576: true; the input reads as it did. -/
def schurKnownUptoRow : OpenClaim := { program := "ytkaooejeljdbnaa", sum := "1d67ab3e979e57bbeb011d1c717fdea5458277861341b3b590238fbc822eabd0", func := "anticline/anticlinelaw11.SchurKnown", spec := "schurKnown", unfollowed := true, recurses := true, plainKeys := false, apart := false, narrowed := true }
def SchurKnownUptoSaid : Prop := schurKnownUptoRow.holds Try.pinned (OpenSpec.upto schurKnownSpec)

/-- 'anticlinelaw11.SchurParts', WHERE WHAT IT READS IS OF BULK AT MOST 1048576: true; the input reads as it did. -/
def schurPartsUptoRow : OpenClaim := { program := "ytkaooejeljdbnaa", sum := "1d67ab3e979e57bbeb011d1c717fdea5458277861341b3b590238fbc822eabd0", func := "anticline/anticlinelaw11.SchurParts", spec := "schurParts", unfollowed := true, recurses := true, plainKeys := false, apart := false, narrowed := true }
def SchurPartsUptoSaid : Prop := schurPartsUptoRow.holds Try.pinned (OpenSpec.upto schurPartsSpec)

/-- 'anticlinelaw13.GkoScaled', WHERE WHAT IT READS IS OF BULK AT MOST 1048576: true; the input reads as it did. -/
def gkoScaledUptoRow : OpenClaim := { program := "ytkaooejeljdbnaa", sum := "1d67ab3e979e57bbeb011d1c717fdea5458277861341b3b590238fbc822eabd0", func := "anticline/anticlinelaw13.GkoScaled", spec := "gkoScaled", unfollowed := true, recurses := true, plainKeys := false, apart := false, narrowed := true }
def GkoScaledUptoSaid : Prop := gkoScaledUptoRow.holds Try.pinned (OpenSpec.upto gkoScaledSpec)

/-- 'anticlinelaw13.GkoKnown', WHERE WHAT IT READS IS OF BULK AT MOST 1048576: true; the input reads as it did. -/
def gkoKnownUptoRow : OpenClaim := { program := "ytkaooejeljdbnaa", sum := "1d67ab3e979e57bbeb011d1c717fdea5458277861341b3b590238fbc822eabd0", func := "anticline/anticlinelaw13.GkoKnown", spec := "gkoKnown", unfollowed := true, recurses := true, plainKeys := false, apart := false, narrowed := true }
def GkoKnownUptoSaid : Prop := gkoKnownUptoRow.holds Try.pinned (OpenSpec.upto gkoKnownSpec)

end Rows
end Go.Proofs.Ytkaooejeljdbnaa
