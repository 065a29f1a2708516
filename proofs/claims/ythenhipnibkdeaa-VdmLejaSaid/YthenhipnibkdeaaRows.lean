/-
  No cell of these rows narrows 'for every input' (looked for: loops, veiled, ifaces, maps, wideKeys, modest, calm, conditions, laid).
  DERIVED. THE GIVEN ROWS OF THIS SEAT. 8 by the template 'for every input the law returns true; each argument reads behind the call as it read before'; 0 by the template 'total and deterministic' (their statements: YthenhipnibkdeaaTotals.lean).
  GIVEN WITH THE SEED: the statements are not yours to turn. If you find one false, say at which input.
  Laid BY PROGRAM, IN A SANDBOX (cutbox-rows.mjs): the forced cells as the released guide's own fill.sh prints them over the translation c58eb75beed55301… (all of the seat's roots in one cut). By AI agents, Wed Nov 11 2026. No macro, syntax, notation, axiom, sorry.
-/
import Derived.Test.YthenhipnibkdeaaChecked
import GoSem.Claim
import GoSem.ClaimJoined
import GoSem.ClaimMapViews
import Derived.JoinedTies
import Derived.KernelRfl
namespace Go.Proofs.Ythenhipnibkdeaa
/- THE CELL 'sum', in the pinned program and in every row, IS THE sha256 OF THE DUMP (.gsa) THAT YthenhipnibkdeaaProg.lean LOADS. Nothing in Lean hashes anything: it is a label: what it is worth is what the hold of that sum in a sandbox is worth. -/
noncomputable def Try.pinned : Pinned := { name := "ythenhipnibkdeaa", sum := "c58eb75beed55301e931a22c8a379378d5f5cfb93a53ea73f559b063150cb57b", checked := Try.checked }
namespace Rows
def none {H : Type} : Left H := { results := [], args := [] }

/-- 'anticlinelaw14.VdmThrough': WHATEVER THE INPUT: true; the input reads as it did. -/
def vdmThroughSpec : ChangeSpec := { name := "vdmThrough", fn := fun _ => fun
  | [d1, d2, d3, d4] => { results := [.lit (.bool true)], args := [d1, d2, d3, d4] }
  | _ => none }
def vdmThroughRow : OpenClaim := { program := "ythenhipnibkdeaa", sum := "c58eb75beed55301e931a22c8a379378d5f5cfb93a53ea73f559b063150cb57b", func := "anticline/anticlinelaw14.VdmThrough", spec := "vdmThrough", unfollowed := true, recurses := true, apart := false }
def VdmThroughSaid : Prop := vdmThroughRow.holds Try.pinned (OpenSpec.ofChange vdmThroughSpec)

/-- ITS FALSE NEIGHBOUR: 'it returns false'. Refute it at one input. -/
def vdmThroughWrong : ChangeSpec := { name := "vdmThrough", fn := fun _ => fun
  | [d1, d2, d3, d4] => { results := [.lit (.bool false)], args := [d1, d2, d3, d4] }
  | _ => none }
def VdmThroughWrongFalsely : Prop := vdmThroughRow.holds Try.pinned (OpenSpec.ofChange vdmThroughWrong)

/-- 'anticlinelaw14.VdmAt': WHATEVER THE INPUT: true; the input reads as it did. -/
def vdmAtSpec : ChangeSpec := { name := "vdmAt", fn := fun _ => fun
  | [d1, d2, d3, d4] => { results := [.lit (.bool true)], args := [d1, d2, d3, d4] }
  | _ => none }
def vdmAtRow : OpenClaim := { program := "ythenhipnibkdeaa", sum := "c58eb75beed55301e931a22c8a379378d5f5cfb93a53ea73f559b063150cb57b", func := "anticline/anticlinelaw14.VdmAt", spec := "vdmAt", unfollowed := true, recurses := true, apart := false }
def VdmAtSaid : Prop := vdmAtRow.holds Try.pinned (OpenSpec.ofChange vdmAtSpec)

/-- ITS FALSE NEIGHBOUR: 'it returns false'. Refute it at one input. -/
def vdmAtWrong : ChangeSpec := { name := "vdmAt", fn := fun _ => fun
  | [d1, d2, d3, d4] => { results := [.lit (.bool false)], args := [d1, d2, d3, d4] }
  | _ => none }
def VdmAtWrongFalsely : Prop := vdmAtRow.holds Try.pinned (OpenSpec.ofChange vdmAtWrong)

/-- 'anticlinelaw14.VdmOrder': WHATEVER THE INPUT: true; the input reads as it did. -/
def vdmOrderSpec : ChangeSpec := { name := "vdmOrder", fn := fun _ => fun
  | [d1, d2, d3, d4] => { results := [.lit (.bool true)], args := [d1, d2, d3, d4] }
  | _ => none }
def vdmOrderRow : OpenClaim := { program := "ythenhipnibkdeaa", sum := "c58eb75beed55301e931a22c8a379378d5f5cfb93a53ea73f559b063150cb57b", func := "anticline/anticlinelaw14.VdmOrder", spec := "vdmOrder", unfollowed := true, recurses := true, apart := false }
def VdmOrderSaid : Prop := vdmOrderRow.holds Try.pinned (OpenSpec.ofChange vdmOrderSpec)

/-- ITS FALSE NEIGHBOUR: 'it returns false'. Refute it at one input. -/
def vdmOrderWrong : ChangeSpec := { name := "vdmOrder", fn := fun _ => fun
  | [d1, d2, d3, d4] => { results := [.lit (.bool false)], args := [d1, d2, d3, d4] }
  | _ => none }
def VdmOrderWrongFalsely : Prop := vdmOrderRow.holds Try.pinned (OpenSpec.ofChange vdmOrderWrong)

/-- 'anticlinelaw14.VdmSame': WHATEVER THE INPUT: true; the input reads as it did. -/
def vdmSameSpec : ChangeSpec := { name := "vdmSame", fn := fun _ => fun
  | [d1, d2, d3] => { results := [.lit (.bool true)], args := [d1, d2, d3] }
  | _ => none }
def vdmSameRow : OpenClaim := { program := "ythenhipnibkdeaa", sum := "c58eb75beed55301e931a22c8a379378d5f5cfb93a53ea73f559b063150cb57b", func := "anticline/anticlinelaw14.VdmSame", spec := "vdmSame", unfollowed := true, recurses := true, apart := false }
def VdmSameSaid : Prop := vdmSameRow.holds Try.pinned (OpenSpec.ofChange vdmSameSpec)

/-- ITS FALSE NEIGHBOUR: 'it returns false'. Refute it at one input. -/
def vdmSameWrong : ChangeSpec := { name := "vdmSame", fn := fun _ => fun
  | [d1, d2, d3] => { results := [.lit (.bool false)], args := [d1, d2, d3] }
  | _ => none }
def VdmSameWrongFalsely : Prop := vdmSameRow.holds Try.pinned (OpenSpec.ofChange vdmSameWrong)

/-- 'anticlinelaw14.VdmMoments': WHATEVER THE INPUT: true; the input reads as it did. -/
def vdmMomentsSpec : ChangeSpec := { name := "vdmMoments", fn := fun _ => fun
  | [d1, d2, d3, d4] => { results := [.lit (.bool true)], args := [d1, d2, d3, d4] }
  | _ => none }
def vdmMomentsRow : OpenClaim := { program := "ythenhipnibkdeaa", sum := "c58eb75beed55301e931a22c8a379378d5f5cfb93a53ea73f559b063150cb57b", func := "anticline/anticlinelaw14.VdmMoments", spec := "vdmMoments", unfollowed := true, recurses := true, apart := false }
def VdmMomentsSaid : Prop := vdmMomentsRow.holds Try.pinned (OpenSpec.ofChange vdmMomentsSpec)

/-- ITS FALSE NEIGHBOUR: 'it returns false'. Refute it at one input. -/
def vdmMomentsWrong : ChangeSpec := { name := "vdmMoments", fn := fun _ => fun
  | [d1, d2, d3, d4] => { results := [.lit (.bool false)], args := [d1, d2, d3, d4] }
  | _ => none }
def VdmMomentsWrongFalsely : Prop := vdmMomentsRow.holds Try.pinned (OpenSpec.ofChange vdmMomentsWrong)

/-- 'anticlinelaw14.VdmBoth': WHATEVER THE INPUT: true; the input reads as it did. -/
def vdmBothSpec : ChangeSpec := { name := "vdmBoth", fn := fun _ => fun
  | [d1, d2, d3, d4] => { results := [.lit (.bool true)], args := [d1, d2, d3, d4] }
  | _ => none }
def vdmBothRow : OpenClaim := { program := "ythenhipnibkdeaa", sum := "c58eb75beed55301e931a22c8a379378d5f5cfb93a53ea73f559b063150cb57b", func := "anticline/anticlinelaw14.VdmBoth", spec := "vdmBoth", unfollowed := true, recurses := true, apart := false }
def VdmBothSaid : Prop := vdmBothRow.holds Try.pinned (OpenSpec.ofChange vdmBothSpec)

/-- ITS FALSE NEIGHBOUR: 'it returns false'. Refute it at one input. -/
def vdmBothWrong : ChangeSpec := { name := "vdmBoth", fn := fun _ => fun
  | [d1, d2, d3, d4] => { results := [.lit (.bool false)], args := [d1, d2, d3, d4] }
  | _ => none }
def VdmBothWrongFalsely : Prop := vdmBothRow.holds Try.pinned (OpenSpec.ofChange vdmBothWrong)

/-- 'anticlinelaw14.VdmLeja': WHATEVER THE INPUT: true; the input reads as it did. -/
def vdmLejaSpec : ChangeSpec := { name := "vdmLeja", fn := fun _ => fun
  | [d1, d2] => { results := [.lit (.bool true)], args := [d1, d2] }
  | _ => none }
def vdmLejaRow : OpenClaim := { program := "ythenhipnibkdeaa", sum := "c58eb75beed55301e931a22c8a379378d5f5cfb93a53ea73f559b063150cb57b", func := "anticline/anticlinelaw14.VdmLeja", spec := "vdmLeja", unfollowed := true, recurses := true, apart := false }
def VdmLejaSaid : Prop := vdmLejaRow.holds Try.pinned (OpenSpec.ofChange vdmLejaSpec)

/-- ITS FALSE NEIGHBOUR: 'it returns false'. Refute it at one input. -/
def vdmLejaWrong : ChangeSpec := { name := "vdmLeja", fn := fun _ => fun
  | [d1, d2] => { results := [.lit (.bool false)], args := [d1, d2] }
  | _ => none }
def VdmLejaWrongFalsely : Prop := vdmLejaRow.holds Try.pinned (OpenSpec.ofChange vdmLejaWrong)

/-- 'anticlinelaw14.VdmKnown': WHATEVER THE INPUT: true; the input reads as it did. -/
def vdmKnownSpec : ChangeSpec := { name := "vdmKnown", fn := fun _ => fun
  | [d] => { results := [.lit (.bool true)], args := [d] }
  | _ => none }
def vdmKnownRow : OpenClaim := { program := "ythenhipnibkdeaa", sum := "c58eb75beed55301e931a22c8a379378d5f5cfb93a53ea73f559b063150cb57b", func := "anticline/anticlinelaw14.VdmKnown", spec := "vdmKnown", unfollowed := true, recurses := true, apart := false }
def VdmKnownSaid : Prop := vdmKnownRow.holds Try.pinned (OpenSpec.ofChange vdmKnownSpec)

/-- ITS FALSE NEIGHBOUR: 'it returns false'. Refute it at one input. -/
def vdmKnownWrong : ChangeSpec := { name := "vdmKnown", fn := fun _ => fun
  | [d] => { results := [.lit (.bool false)], args := [d] }
  | _ => none }
def VdmKnownWrongFalsely : Prop := vdmKnownRow.holds Try.pinned (OpenSpec.ofChange vdmKnownWrong)

/- THE SECOND FORM. 'bulk': how many values and letters a reading holds, each counted each time it is reached (what is shared counts as often as it is met; a slice's spare places count too). A statement '..UptoSaid' is the law's where the arguments, and the package variables that the reading takes, are together of bulk at most 1048576: NARROWER than '..Said'. Prove '..Said' where nothing that the law and all that it calls make is longer than what came in: it says more and counts as full. Else prove '..UptoSaid'. A law counts once. -/
mutual
def uptoBulk {H : Type} : DataW H → Nat
  | .lit (.string bytes) => bytes.length + 1
  | .lit _ => 1
  | .nil => 1
  | .ptr d => uptoBulk d + 1
  | .slice elems spare => uptoBulkAll elems + uptoBulkAll spare + 1
  | .agg parts => uptoBulkAll parts + 1
  | .iface _ d => uptoBulk d + 1
  | .map entries => uptoBulkEntries entries + 1
  | .held _ => 1
def uptoBulkAll {H : Type} : List (DataW H) → Nat
  | [] => 0
  | d :: r => uptoBulk d + uptoBulkAll r
def uptoBulkEntries {H : Type} : List (Lit × DataW H) → Nat
  | [] => 0
  | x :: r => uptoBulkEntry x + uptoBulkEntries r
def uptoBulkEntry {H : Type} : Lit × DataW H → Nat
  | (.string bytes, d) => bytes.length + uptoBulk d + 1
  | (_, d) => uptoBulk d + 1
 end
def uptoSmall : (H : Type) → List (DataW H) → Bool := fun _ ds => decide (uptoBulkAll ds ≤ 1048576)
def OpenSpec.upto (s : _root_.Go.ChangeSpec) : _root_.Go.OpenSpec := { _root_.Go.OpenSpec.ofChange s with cond := some uptoSmall }

/-- 'anticlinelaw14.VdmThrough', WHERE WHAT IT READS IS OF BULK AT MOST 1048576: true; the input reads as it did. -/
def vdmThroughUptoRow : OpenClaim := { program := "ythenhipnibkdeaa", sum := "c58eb75beed55301e931a22c8a379378d5f5cfb93a53ea73f559b063150cb57b", func := "anticline/anticlinelaw14.VdmThrough", spec := "vdmThrough", unfollowed := true, recurses := true, apart := false, narrowed := true }
def VdmThroughUptoSaid : Prop := vdmThroughUptoRow.holds Try.pinned (OpenSpec.upto vdmThroughSpec)

/-- 'anticlinelaw14.VdmAt', WHERE WHAT IT READS IS OF BULK AT MOST 1048576: true; the input reads as it did. -/
def vdmAtUptoRow : OpenClaim := { program := "ythenhipnibkdeaa", sum := "c58eb75beed55301e931a22c8a379378d5f5cfb93a53ea73f559b063150cb57b", func := "anticline/anticlinelaw14.VdmAt", spec := "vdmAt", unfollowed := true, recurses := true, apart := false, narrowed := true }
def VdmAtUptoSaid : Prop := vdmAtUptoRow.holds Try.pinned (OpenSpec.upto vdmAtSpec)

/-- 'anticlinelaw14.VdmOrder', WHERE WHAT IT READS IS OF BULK AT MOST 1048576: true; the input reads as it did. -/
def vdmOrderUptoRow : OpenClaim := { program := "ythenhipnibkdeaa", sum := "c58eb75beed55301e931a22c8a379378d5f5cfb93a53ea73f559b063150cb57b", func := "anticline/anticlinelaw14.VdmOrder", spec := "vdmOrder", unfollowed := true, recurses := true, apart := false, narrowed := true }
def VdmOrderUptoSaid : Prop := vdmOrderUptoRow.holds Try.pinned (OpenSpec.upto vdmOrderSpec)

/-- 'anticlinelaw14.VdmSame', WHERE WHAT IT READS IS OF BULK AT MOST 1048576: true; the input reads as it did. -/
def vdmSameUptoRow : OpenClaim := { program := "ythenhipnibkdeaa", sum := "c58eb75beed55301e931a22c8a379378d5f5cfb93a53ea73f559b063150cb57b", func := "anticline/anticlinelaw14.VdmSame", spec := "vdmSame", unfollowed := true, recurses := true, apart := false, narrowed := true }
def VdmSameUptoSaid : Prop := vdmSameUptoRow.holds Try.pinned (OpenSpec.upto vdmSameSpec)

/-- 'anticlinelaw14.VdmMoments', WHERE WHAT IT READS IS OF BULK AT MOST 1048576: true; the input reads as it did. -/
def vdmMomentsUptoRow : OpenClaim := { program := "ythenhipnibkdeaa", sum := "c58eb75beed55301e931a22c8a379378d5f5cfb93a53ea73f559b063150cb57b", func := "anticline/anticlinelaw14.VdmMoments", spec := "vdmMoments", unfollowed := true, recurses := true, apart := false, narrowed := true }
def VdmMomentsUptoSaid : Prop := vdmMomentsUptoRow.holds Try.pinned (OpenSpec.upto vdmMomentsSpec)

/-- 'anticlinelaw14.VdmBoth', WHERE WHAT IT READS IS OF BULK AT MOST 1048576: true; the input reads as it did. -/
def vdmBothUptoRow : OpenClaim := { program := "ythenhipnibkdeaa", sum := "c58eb75beed55301e931a22c8a379378d5f5cfb93a53ea73f559b063150cb57b", func := "anticline/anticlinelaw14.VdmBoth", spec := "vdmBoth", unfollowed := true, recurses := true, apart := false, narrowed := true }
def VdmBothUptoSaid : Prop := vdmBothUptoRow.holds Try.pinned (OpenSpec.upto vdmBothSpec)

/-- 'anticlinelaw14.VdmLeja', WHERE WHAT IT READS IS OF BULK AT MOST 1048576: true; the input reads as it did. -/
def vdmLejaUptoRow : OpenClaim := { program := "ythenhipnibkdeaa", sum := "c58eb75beed55301e931a22c8a379378d5f5cfb93a53ea73f559b063150cb57b", func := "anticline/anticlinelaw14.VdmLeja", spec := "vdmLeja", unfollowed := true, recurses := true, apart := false, narrowed := true }
def VdmLejaUptoSaid : Prop := vdmLejaUptoRow.holds Try.pinned (OpenSpec.upto vdmLejaSpec)

/-- 'anticlinelaw14.VdmKnown', WHERE WHAT IT READS IS OF BULK AT MOST 1048576: true; the input reads as it did. -/
def vdmKnownUptoRow : OpenClaim := { program := "ythenhipnibkdeaa", sum := "c58eb75beed55301e931a22c8a379378d5f5cfb93a53ea73f559b063150cb57b", func := "anticline/anticlinelaw14.VdmKnown", spec := "vdmKnown", unfollowed := true, recurses := true, apart := false, narrowed := true }
def VdmKnownUptoSaid : Prop := vdmKnownUptoRow.holds Try.pinned (OpenSpec.upto vdmKnownSpec)

end Rows
end Go.Proofs.Ythenhipnibkdeaa
