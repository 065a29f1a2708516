/-
  No cell of these rows narrows 'for every input' (looked for: loops, veiled, ifaces, maps, wideKeys, modest, calm, conditions, laid).
  DERIVED. THE GIVEN ROWS OF THIS SEAT. 8 by the template 'for every input the law returns true; each argument reads behind the call as it read before'; 0 by the template 'total and deterministic' (their statements: YtacklcbgkigcaaaGreatTotals.lean).
  GIVEN WITH THE SEED: the statements are not yours to turn. If you find one false, say at which input.
  Laid BY PROGRAM, IN A SANDBOX (cutbox-rows.mjs): the forced cells as the released guide's own fill.sh prints them over the translation f0ed0039af658b02… (all of the seat's roots in one cut). By AI agents, Wed Nov 11 2026. No macro, syntax, notation, axiom, sorry.
-/
import Derived.Test.YtacklcbgkigcaaaGreatChecked
import GoSem.Claim
import GoSem.ClaimJoined
import GoSem.ClaimMapViews
import Derived.JoinedTies
import Derived.KernelRfl
namespace Go.Proofs.YtacklcbgkigcaaaGreat
/- THE CELL 'sum', in the pinned program and in every row, IS THE sha256 OF THE DUMP (.gsa) THAT YtacklcbgkigcaaaGreatProg.lean LOADS. Nothing in Lean hashes anything: it is a label: what it is worth is what the hold of that sum in a sandbox is worth. -/
noncomputable def Tryz.pinned : Pinned := { name := "ytacklcbgkigcaaagreat", sum := "f0ed0039af658b023a7316806a69e6619b8ca8a0ec4da645a104e7df39423134", checked := Tryz.checked }
namespace Rows
def none {H : Type} : Left H := { results := [], args := [] }

/-- 'anticlinelaw4.IvalWider': WHATEVER THE INPUT: true; the input reads as it did. -/
def ivalWiderSpec : ChangeSpec := { name := "ivalWider", fn := fun _ => fun
  | [d1, d2, d3, d4, d5] => { results := [.lit (.bool true)], args := [d1, d2, d3, d4, d5] }
  | _ => none }
def ivalWiderRow : OpenClaim := { program := "ytacklcbgkigcaaagreat", sum := "f0ed0039af658b023a7316806a69e6619b8ca8a0ec4da645a104e7df39423134", func := "anticline/anticlinelaw4.IvalWider", spec := "ivalWider", unfollowed := true, recurses := true, apart := false }
def IvalWiderSaid : Prop := ivalWiderRow.holds Tryz.pinned (OpenSpec.ofChange ivalWiderSpec)

/-- ITS FALSE NEIGHBOUR: 'it returns false'. Refute it at one input. -/
def ivalWiderWrong : ChangeSpec := { name := "ivalWider", fn := fun _ => fun
  | [d1, d2, d3, d4, d5] => { results := [.lit (.bool false)], args := [d1, d2, d3, d4, d5] }
  | _ => none }
def IvalWiderWrongFalsely : Prop := ivalWiderRow.holds Tryz.pinned (OpenSpec.ofChange ivalWiderWrong)

/-- 'anticlinelaw4.IvalDots': WHATEVER THE INPUT: true; the input reads as it did. -/
def ivalDotsSpec : ChangeSpec := { name := "ivalDots", fn := fun _ => fun
  | [d1, d2, d3, d4] => { results := [.lit (.bool true)], args := [d1, d2, d3, d4] }
  | _ => none }
def ivalDotsRow : OpenClaim := { program := "ytacklcbgkigcaaagreat", sum := "f0ed0039af658b023a7316806a69e6619b8ca8a0ec4da645a104e7df39423134", func := "anticline/anticlinelaw4.IvalDots", spec := "ivalDots", unfollowed := true, recurses := true, apart := false }
def IvalDotsSaid : Prop := ivalDotsRow.holds Tryz.pinned (OpenSpec.ofChange ivalDotsSpec)

/-- ITS FALSE NEIGHBOUR: 'it returns false'. Refute it at one input. -/
def ivalDotsWrong : ChangeSpec := { name := "ivalDots", fn := fun _ => fun
  | [d1, d2, d3, d4] => { results := [.lit (.bool false)], args := [d1, d2, d3, d4] }
  | _ => none }
def IvalDotsWrongFalsely : Prop := ivalDotsRow.holds Tryz.pinned (OpenSpec.ofChange ivalDotsWrong)

/-- 'anticlinelaw4.IvalOps': WHATEVER THE INPUT: true; the input reads as it did. -/
def ivalOpsSpec : ChangeSpec := { name := "ivalOps", fn := fun _ => fun
  | [d1, d2, d3, d4, d5] => { results := [.lit (.bool true)], args := [d1, d2, d3, d4, d5] }
  | _ => none }
def ivalOpsRow : OpenClaim := { program := "ytacklcbgkigcaaagreat", sum := "f0ed0039af658b023a7316806a69e6619b8ca8a0ec4da645a104e7df39423134", func := "anticline/anticlinelaw4.IvalOps", spec := "ivalOps", unfollowed := true, recurses := true, apart := false }
def IvalOpsSaid : Prop := ivalOpsRow.holds Tryz.pinned (OpenSpec.ofChange ivalOpsSpec)

/-- ITS FALSE NEIGHBOUR: 'it returns false'. Refute it at one input. -/
def ivalOpsWrong : ChangeSpec := { name := "ivalOps", fn := fun _ => fun
  | [d1, d2, d3, d4, d5] => { results := [.lit (.bool false)], args := [d1, d2, d3, d4, d5] }
  | _ => none }
def IvalOpsWrongFalsely : Prop := ivalOpsRow.holds Tryz.pinned (OpenSpec.ofChange ivalOpsWrong)

/-- 'anticlinelaw4.IvalHolds': WHATEVER THE INPUT: true; the input reads as it did. -/
def ivalHoldsSpec : ChangeSpec := { name := "ivalHolds", fn := fun _ => fun
  | [d1, d2, d3, d4, d5, d6] => { results := [.lit (.bool true)], args := [d1, d2, d3, d4, d5, d6] }
  | _ => none }
def ivalHoldsRow : OpenClaim := { program := "ytacklcbgkigcaaagreat", sum := "f0ed0039af658b023a7316806a69e6619b8ca8a0ec4da645a104e7df39423134", func := "anticline/anticlinelaw4.IvalHolds", spec := "ivalHolds", unfollowed := true, recurses := true, apart := false }
def IvalHoldsSaid : Prop := ivalHoldsRow.holds Tryz.pinned (OpenSpec.ofChange ivalHoldsSpec)

/-- ITS FALSE NEIGHBOUR: 'it returns false'. Refute it at one input. -/
def ivalHoldsWrong : ChangeSpec := { name := "ivalHolds", fn := fun _ => fun
  | [d1, d2, d3, d4, d5, d6] => { results := [.lit (.bool false)], args := [d1, d2, d3, d4, d5, d6] }
  | _ => none }
def IvalHoldsWrongFalsely : Prop := ivalHoldsRow.holds Tryz.pinned (OpenSpec.ofChange ivalHoldsWrong)

/-- 'anticlinelaw16.CertEta': WHATEVER THE INPUT: true; the input reads as it did. -/
def certEtaSpec : ChangeSpec := { name := "certEta", fn := fun _ => fun
  | [d1, d2, d3, d4, d5, d6] => { results := [.lit (.bool true)], args := [d1, d2, d3, d4, d5, d6] }
  | _ => none }
def certEtaRow : OpenClaim := { program := "ytacklcbgkigcaaagreat", sum := "f0ed0039af658b023a7316806a69e6619b8ca8a0ec4da645a104e7df39423134", func := "anticline/anticlinelaw16.CertEta", spec := "certEta", unfollowed := true, recurses := true, apart := false }
def CertEtaSaid : Prop := certEtaRow.holds Tryz.pinned (OpenSpec.ofChange certEtaSpec)

/-- ITS FALSE NEIGHBOUR: 'it returns false'. Refute it at one input. -/
def certEtaWrong : ChangeSpec := { name := "certEta", fn := fun _ => fun
  | [d1, d2, d3, d4, d5, d6] => { results := [.lit (.bool false)], args := [d1, d2, d3, d4, d5, d6] }
  | _ => none }
def CertEtaWrongFalsely : Prop := certEtaRow.holds Tryz.pinned (OpenSpec.ofChange certEtaWrong)

/-- 'anticlinelaw16.CertNear': WHATEVER THE INPUT: true; the input reads as it did. -/
def certNearSpec : ChangeSpec := { name := "certNear", fn := fun _ => fun
  | [d1, d2, d3] => { results := [.lit (.bool true)], args := [d1, d2, d3] }
  | _ => none }
def certNearRow : OpenClaim := { program := "ytacklcbgkigcaaagreat", sum := "f0ed0039af658b023a7316806a69e6619b8ca8a0ec4da645a104e7df39423134", func := "anticline/anticlinelaw16.CertNear", spec := "certNear", unfollowed := true, recurses := true, apart := false }
def CertNearSaid : Prop := certNearRow.holds Tryz.pinned (OpenSpec.ofChange certNearSpec)

/-- ITS FALSE NEIGHBOUR: 'it returns false'. Refute it at one input. -/
def certNearWrong : ChangeSpec := { name := "certNear", fn := fun _ => fun
  | [d1, d2, d3] => { results := [.lit (.bool false)], args := [d1, d2, d3] }
  | _ => none }
def CertNearWrongFalsely : Prop := certNearRow.holds Tryz.pinned (OpenSpec.ofChange certNearWrong)

/-- 'anticlinelaw16.CertBack': WHATEVER THE INPUT: true; the input reads as it did. -/
def certBackSpec : ChangeSpec := { name := "certBack", fn := fun _ => fun
  | [d1, d2, d3, d4] => { results := [.lit (.bool true)], args := [d1, d2, d3, d4] }
  | _ => none }
def certBackRow : OpenClaim := { program := "ytacklcbgkigcaaagreat", sum := "f0ed0039af658b023a7316806a69e6619b8ca8a0ec4da645a104e7df39423134", func := "anticline/anticlinelaw16.CertBack", spec := "certBack", unfollowed := true, recurses := true, apart := false }
def CertBackSaid : Prop := certBackRow.holds Tryz.pinned (OpenSpec.ofChange certBackSpec)

/-- ITS FALSE NEIGHBOUR: 'it returns false'. Refute it at one input. -/
def certBackWrong : ChangeSpec := { name := "certBack", fn := fun _ => fun
  | [d1, d2, d3, d4] => { results := [.lit (.bool false)], args := [d1, d2, d3, d4] }
  | _ => none }
def CertBackWrongFalsely : Prop := certBackRow.holds Tryz.pinned (OpenSpec.ofChange certBackWrong)

/-- 'anticlinelaw16.CertScale': WHATEVER THE INPUT: true; the input reads as it did. -/
def certScaleSpec : ChangeSpec := { name := "certScale", fn := fun _ => fun
  | [d1, d2, d3, d4, d5] => { results := [.lit (.bool true)], args := [d1, d2, d3, d4, d5] }
  | _ => none }
def certScaleRow : OpenClaim := { program := "ytacklcbgkigcaaagreat", sum := "f0ed0039af658b023a7316806a69e6619b8ca8a0ec4da645a104e7df39423134", func := "anticline/anticlinelaw16.CertScale", spec := "certScale", unfollowed := true, recurses := true, apart := false }
def CertScaleSaid : Prop := certScaleRow.holds Tryz.pinned (OpenSpec.ofChange certScaleSpec)

/-- ITS FALSE NEIGHBOUR: 'it returns false'. Refute it at one input. -/
def certScaleWrong : ChangeSpec := { name := "certScale", fn := fun _ => fun
  | [d1, d2, d3, d4, d5] => { results := [.lit (.bool false)], args := [d1, d2, d3, d4, d5] }
  | _ => none }
def CertScaleWrongFalsely : Prop := certScaleRow.holds Tryz.pinned (OpenSpec.ofChange certScaleWrong)

/- THE SECOND FORM. 'bulk': how many values and letters a reading holds, each counted each time it is reached (what is shared counts as often as it is met; a slice's spare places count too). A statement '..UptoSaid' is the law's where the arguments, and the package variables that the reading takes, are together of bulk at most 1048576: NARROWER than '..Said'. Prove '..Said' where nothing that the law and all that it calls make is longer than what came in: it says more and counts as full. Else prove '..UptoSaid'. A law counts once. -/
mutual
def uptoBulk {H : Type} : DataW H → Nat
  | .lit (.string bytes) => bytes.length + 1
  | .lit _ => 1
  | .nil => 1
  | .ptr d => uptoBulk d + 1
  | .slice elems spare => uptoBulkAll elems + uptoBulkAll spare + 1
  | .agg parts => uptoBulkAll parts + 1
  | .iface _ d => uptoBulk d + 1
  | .map entries => uptoBulkEntries entries + 1
  | .held _ => 1
def uptoBulkAll {H : Type} : List (DataW H) → Nat
  | [] => 0
  | d :: r => uptoBulk d + uptoBulkAll r
def uptoBulkEntries {H : Type} : List (Lit × DataW H) → Nat
  | [] => 0
  | x :: r => uptoBulkEntry x + uptoBulkEntries r
def uptoBulkEntry {H : Type} : Lit × DataW H → Nat
  | (.string bytes, d) => bytes.length + uptoBulk d + 1
  | (_, d) => uptoBulk d + 1
 end
def uptoSmall : (H : Type) → List (DataW H) → Bool := fun _ ds => decide (uptoBulkAll ds ≤ 1048576)
def OpenSpec.upto (s : _root_.Go.ChangeSpec) : _root_.Go.OpenSpec := { _root_.Go.OpenSpec.ofChange s with cond := some uptoSmall }

/-- 'anticlinelaw4.IvalWider', WHERE WHAT IT READS IS OF BULK AT MOST 1048576: true; the input reads as it did. -/
def ivalWiderUptoRow : OpenClaim := { program := "ytacklcbgkigcaaagreat", sum := "f0ed0039af658b023a7316806a69e6619b8ca8a0ec4da645a104e7df39423134", func := "anticline/anticlinelaw4.IvalWider", spec := "ivalWider", unfollowed := true, recurses := true, apart := false, narrowed := true }
def IvalWiderUptoSaid : Prop := ivalWiderUptoRow.holds Tryz.pinned (OpenSpec.upto ivalWiderSpec)

/-- 'anticlinelaw4.IvalDots', WHERE WHAT IT READS IS OF BULK AT MOST 1048576: true; the input reads as it did. -/
def ivalDotsUptoRow : OpenClaim := { program := "ytacklcbgkigcaaagreat", sum := "f0ed0039af658b023a7316806a69e6619b8ca8a0ec4da645a104e7df39423134", func := "anticline/anticlinelaw4.IvalDots", spec := "ivalDots", unfollowed := true, recurses := true, apart := false, narrowed := true }
def IvalDotsUptoSaid : Prop := ivalDotsUptoRow.holds Tryz.pinned (OpenSpec.upto ivalDotsSpec)

/-- 'anticlinelaw4.IvalOps', WHERE WHAT IT READS IS OF BULK AT MOST 1048576: true; the input reads as it did. -/
def ivalOpsUptoRow : OpenClaim := { program := "ytacklcbgkigcaaagreat", sum := "f0ed0039af658b023a7316806a69e6619b8ca8a0ec4da645a104e7df39423134", func := "anticline/anticlinelaw4.IvalOps", spec := "ivalOps", unfollowed := true, recurses := true, apart := false, narrowed := true }
def IvalOpsUptoSaid : Prop := ivalOpsUptoRow.holds Tryz.pinned (OpenSpec.upto ivalOpsSpec)

/-- 'anticlinelaw4.IvalHolds', WHERE WHAT IT READS IS OF BULK AT MOST 1048576: true; the input reads as it did. -/
def ivalHoldsUptoRow : OpenClaim := { program := "ytacklcbgkigcaaagreat", sum := "f0ed0039af658b023a7316806a69e6619b8ca8a0ec4da645a104e7df39423134", func := "anticline/anticlinelaw4.IvalHolds", spec := "ivalHolds", unfollowed := true, recurses := true, apart := false, narrowed := true }
def IvalHoldsUptoSaid : Prop := ivalHoldsUptoRow.holds Tryz.pinned (OpenSpec.upto ivalHoldsSpec)

/-- 'anticlinelaw16.CertEta', WHERE WHAT IT READS IS OF BULK AT MOST 1048576: true; the input reads as it did. -/
def certEtaUptoRow : OpenClaim := { program := "ytacklcbgkigcaaagreat", sum := "f0ed0039af658b023a7316806a69e6619b8ca8a0ec4da645a104e7df39423134", func := "anticline/anticlinelaw16.CertEta", spec := "certEta", unfollowed := true, recurses := true, apart := false, narrowed := true }
def CertEtaUptoSaid : Prop := certEtaUptoRow.holds Tryz.pinned (OpenSpec.upto certEtaSpec)

/-- 'anticlinelaw16.CertNear', WHERE WHAT IT READS IS OF BULK AT MOST 1048576: true; the input reads as it did. -/
def certNearUptoRow : OpenClaim := { program := "ytacklcbgkigcaaagreat", sum := "f0ed0039af658b023a7316806a69e6619b8ca8a0ec4da645a104e7df39423134", func := "anticline/anticlinelaw16.CertNear", spec := "certNear", unfollowed := true, recurses := true, apart := false, narrowed := true }
def CertNearUptoSaid : Prop := certNearUptoRow.holds Tryz.pinned (OpenSpec.upto certNearSpec)

/-- 'anticlinelaw16.CertBack', WHERE WHAT IT READS IS OF BULK AT MOST 1048576: true; the input reads as it did. -/
def certBackUptoRow : OpenClaim := { program := "ytacklcbgkigcaaagreat", sum := "f0ed0039af658b023a7316806a69e6619b8ca8a0ec4da645a104e7df39423134", func := "anticline/anticlinelaw16.CertBack", spec := "certBack", unfollowed := true, recurses := true, apart := false, narrowed := true }
def CertBackUptoSaid : Prop := certBackUptoRow.holds Tryz.pinned (OpenSpec.upto certBackSpec)

/-- 'anticlinelaw16.CertScale', WHERE WHAT IT READS IS OF BULK AT MOST 1048576: true; the input reads as it did. -/
def certScaleUptoRow : OpenClaim := { program := "ytacklcbgkigcaaagreat", sum := "f0ed0039af658b023a7316806a69e6619b8ca8a0ec4da645a104e7df39423134", func := "anticline/anticlinelaw16.CertScale", spec := "certScale", unfollowed := true, recurses := true, apart := false, narrowed := true }
def CertScaleUptoSaid : Prop := certScaleUptoRow.holds Tryz.pinned (OpenSpec.upto certScaleSpec)

end Rows
end Go.Proofs.YtacklcbgkigcaaaGreat
