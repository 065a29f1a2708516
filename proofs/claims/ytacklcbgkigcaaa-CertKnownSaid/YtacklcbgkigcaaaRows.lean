/-
  No cell of these rows narrows 'for every input' (looked for: loops, veiled, ifaces, maps, wideKeys, modest, calm, conditions, laid).
  DERIVED. THE GIVEN ROWS OF THIS SEAT. 6 by the template 'for every input the law returns true; each argument reads behind the call as it read before'; 0 by the template 'total and deterministic' (their statements: YtacklcbgkigcaaaTotals.lean).
  GIVEN WITH THE SEED: the statements are not yours to turn. If you find one false, say at which input.
  Laid BY PROGRAM, IN A SANDBOX (cutbox-rows.mjs): the forced cells as the released guide's own fill.sh prints them over the translation 3c745ae65d03ed23… (all of the seat's roots in one cut). By AI agents, Wed Nov 11 2026. No macro, syntax, notation, axiom, sorry.
-/
import Derived.Test.YtacklcbgkigcaaaChecked
import GoSem.Claim
import GoSem.ClaimJoined
import GoSem.ClaimMapViews
import Derived.JoinedTies
import Derived.KernelRfl
namespace Go.Proofs.Ytacklcbgkigcaaa
/- THE CELL 'sum', in the pinned program and in every row, IS THE sha256 OF THE DUMP (.gsa) THAT YtacklcbgkigcaaaProg.lean LOADS. Nothing in Lean hashes anything: it is a label: what it is worth is what the hold of that sum in a sandbox is worth. -/
noncomputable def Try.pinned : Pinned := { name := "ytacklcbgkigcaaa", sum := "3c745ae65d03ed23e0b819a7ce818ee7f69303603b80314ce9b07be671ba1158", checked := Try.checked }
namespace Rows
def none {H : Type} : Left H := { results := [], args := [] }

/-- 'anticlinelaw4.IvalNarrow': WHATEVER THE INPUT: true; the input reads as it did. -/
def ivalNarrowSpec : ChangeSpec := { name := "ivalNarrow", fn := fun _ => fun
  | [d1, d2, d3] => { results := [.lit (.bool true)], args := [d1, d2, d3] }
  | _ => none }
def ivalNarrowRow : OpenClaim := { program := "ytacklcbgkigcaaa", sum := "3c745ae65d03ed23e0b819a7ce818ee7f69303603b80314ce9b07be671ba1158", func := "anticline/anticlinelaw4.IvalNarrow", spec := "ivalNarrow", apart := false }
def IvalNarrowSaid : Prop := ivalNarrowRow.holds Try.pinned (OpenSpec.ofChange ivalNarrowSpec)

/-- ITS FALSE NEIGHBOUR: 'it returns false'. Refute it at one input. -/
def ivalNarrowWrong : ChangeSpec := { name := "ivalNarrow", fn := fun _ => fun
  | [d1, d2, d3] => { results := [.lit (.bool false)], args := [d1, d2, d3] }
  | _ => none }
def IvalNarrowWrongFalsely : Prop := ivalNarrowRow.holds Try.pinned (OpenSpec.ofChange ivalNarrowWrong)

/-- 'anticlinelaw4.IvalSame': WHATEVER THE INPUT: true; the input reads as it did. -/
def ivalSameSpec : ChangeSpec := { name := "ivalSame", fn := fun _ => fun
  | [d1, d2, d3, d4, d5] => { results := [.lit (.bool true)], args := [d1, d2, d3, d4, d5] }
  | _ => none }
def ivalSameRow : OpenClaim := { program := "ytacklcbgkigcaaa", sum := "3c745ae65d03ed23e0b819a7ce818ee7f69303603b80314ce9b07be671ba1158", func := "anticline/anticlinelaw4.IvalSame", spec := "ivalSame", unfollowed := true, recurses := true, apart := false }
def IvalSameSaid : Prop := ivalSameRow.holds Try.pinned (OpenSpec.ofChange ivalSameSpec)

/-- ITS FALSE NEIGHBOUR: 'it returns false'. Refute it at one input. -/
def ivalSameWrong : ChangeSpec := { name := "ivalSame", fn := fun _ => fun
  | [d1, d2, d3, d4, d5] => { results := [.lit (.bool false)], args := [d1, d2, d3, d4, d5] }
  | _ => none }
def IvalSameWrongFalsely : Prop := ivalSameRow.holds Try.pinned (OpenSpec.ofChange ivalSameWrong)

/-- 'anticlinelaw4.IvalKnown': WHATEVER THE INPUT: true; the input reads as it did. -/
def ivalKnownSpec : ChangeSpec := { name := "ivalKnown", fn := fun _ => fun
  | [d] => { results := [.lit (.bool true)], args := [d] }
  | _ => none }
def ivalKnownRow : OpenClaim := { program := "ytacklcbgkigcaaa", sum := "3c745ae65d03ed23e0b819a7ce818ee7f69303603b80314ce9b07be671ba1158", func := "anticline/anticlinelaw4.IvalKnown", spec := "ivalKnown", unfollowed := true, recurses := true, apart := false }
def IvalKnownSaid : Prop := ivalKnownRow.holds Try.pinned (OpenSpec.ofChange ivalKnownSpec)

/-- ITS FALSE NEIGHBOUR: 'it returns false'. Refute it at one input. -/
def ivalKnownWrong : ChangeSpec := { name := "ivalKnown", fn := fun _ => fun
  | [d] => { results := [.lit (.bool false)], args := [d] }
  | _ => none }
def IvalKnownWrongFalsely : Prop := ivalKnownRow.holds Try.pinned (OpenSpec.ofChange ivalKnownWrong)

/-- 'anticlinelaw16.CertSizes': WHATEVER THE INPUT: true; the input reads as it did. -/
def certSizesSpec : ChangeSpec := { name := "certSizes", fn := fun _ => fun
  | [d1, d2, d3, d4] => { results := [.lit (.bool true)], args := [d1, d2, d3, d4] }
  | _ => none }
def certSizesRow : OpenClaim := { program := "ytacklcbgkigcaaa", sum := "3c745ae65d03ed23e0b819a7ce818ee7f69303603b80314ce9b07be671ba1158", func := "anticline/anticlinelaw16.CertSizes", spec := "certSizes", unfollowed := true, recurses := true, apart := false }
def CertSizesSaid : Prop := certSizesRow.holds Try.pinned (OpenSpec.ofChange certSizesSpec)

/-- ITS FALSE NEIGHBOUR: 'it returns false'. Refute it at one input. -/
def certSizesWrong : ChangeSpec := { name := "certSizes", fn := fun _ => fun
  | [d1, d2, d3, d4] => { results := [.lit (.bool false)], args := [d1, d2, d3, d4] }
  | _ => none }
def CertSizesWrongFalsely : Prop := certSizesRow.holds Try.pinned (OpenSpec.ofChange certSizesWrong)

/-- 'anticlinelaw16.CertRounds': WHATEVER THE INPUT: true; the input reads as it did. -/
def certRoundsSpec : ChangeSpec := { name := "certRounds", fn := fun _ => fun
  | [d1, d2, d3] => { results := [.lit (.bool true)], args := [d1, d2, d3] }
  | _ => none }
def certRoundsRow : OpenClaim := { program := "ytacklcbgkigcaaa", sum := "3c745ae65d03ed23e0b819a7ce818ee7f69303603b80314ce9b07be671ba1158", func := "anticline/anticlinelaw16.CertRounds", spec := "certRounds", apart := false }
def CertRoundsSaid : Prop := certRoundsRow.holds Try.pinned (OpenSpec.ofChange certRoundsSpec)

/-- ITS FALSE NEIGHBOUR: 'it returns false'. Refute it at one input. -/
def certRoundsWrong : ChangeSpec := { name := "certRounds", fn := fun _ => fun
  | [d1, d2, d3] => { results := [.lit (.bool false)], args := [d1, d2, d3] }
  | _ => none }
def CertRoundsWrongFalsely : Prop := certRoundsRow.holds Try.pinned (OpenSpec.ofChange certRoundsWrong)

/-- 'anticlinelaw16.CertKnown': WHATEVER THE INPUT: true; the input reads as it did. -/
def certKnownSpec : ChangeSpec := { name := "certKnown", fn := fun _ => fun
  | [d] => { results := [.lit (.bool true)], args := [d] }
  | _ => none }
def certKnownRow : OpenClaim := { program := "ytacklcbgkigcaaa", sum := "3c745ae65d03ed23e0b819a7ce818ee7f69303603b80314ce9b07be671ba1158", func := "anticline/anticlinelaw16.CertKnown", spec := "certKnown", unfollowed := true, recurses := true, apart := false }
def CertKnownSaid : Prop := certKnownRow.holds Try.pinned (OpenSpec.ofChange certKnownSpec)

/-- ITS FALSE NEIGHBOUR: 'it returns false'. Refute it at one input. -/
def certKnownWrong : ChangeSpec := { name := "certKnown", fn := fun _ => fun
  | [d] => { results := [.lit (.bool false)], args := [d] }
  | _ => none }
def CertKnownWrongFalsely : Prop := certKnownRow.holds Try.pinned (OpenSpec.ofChange certKnownWrong)

/- THE SECOND FORM. 'bulk': how many values and letters a reading holds, each counted each time it is reached (what is shared counts as often as it is met; a slice's spare places count too). A statement '..UptoSaid' is the law's where the arguments, and the package variables that the reading takes, are together of bulk at most 1048576: NARROWER than '..Said'. Prove '..Said' where nothing that the law and all that it calls make is longer than what came in: it says more and counts as full. Else prove '..UptoSaid'. A law counts once. -/
mutual
def uptoBulk {H : Type} : DataW H → Nat
  | .lit (.string bytes) => bytes.length + 1
  | .lit _ => 1
  | .nil => 1
  | .ptr d => uptoBulk d + 1
  | .slice elems spare => uptoBulkAll elems + uptoBulkAll spare + 1
  | .agg parts => uptoBulkAll parts + 1
  | .iface _ d => uptoBulk d + 1
  | .map entries => uptoBulkEntries entries + 1
  | .held _ => 1
def uptoBulkAll {H : Type} : List (DataW H) → Nat
  | [] => 0
  | d :: r => uptoBulk d + uptoBulkAll r
def uptoBulkEntries {H : Type} : List (Lit × DataW H) → Nat
  | [] => 0
  | x :: r => uptoBulkEntry x + uptoBulkEntries r
def uptoBulkEntry {H : Type} : Lit × DataW H → Nat
  | (.string bytes, d) => bytes.length + uptoBulk d + 1
  | (_, d) => uptoBulk d + 1
 end
def uptoSmall : (H : Type) → List (DataW H) → Bool := fun _ ds => decide (uptoBulkAll ds ≤ 1048576)
def OpenSpec.upto (s : _root_.Go.ChangeSpec) : _root_.Go.OpenSpec := { _root_.Go.OpenSpec.ofChange s with cond := some uptoSmall }

/-- 'anticlinelaw4.IvalNarrow', WHERE WHAT IT READS IS OF BULK AT MOST 1048576: true; the input reads as it did. -/
def ivalNarrowUptoRow : OpenClaim := { program := "ytacklcbgkigcaaa", sum := "3c745ae65d03ed23e0b819a7ce818ee7f69303603b80314ce9b07be671ba1158", func := "anticline/anticlinelaw4.IvalNarrow", spec := "ivalNarrow", apart := false, narrowed := true }
def IvalNarrowUptoSaid : Prop := ivalNarrowUptoRow.holds Try.pinned (OpenSpec.upto ivalNarrowSpec)

/-- 'anticlinelaw4.IvalSame', WHERE WHAT IT READS IS OF BULK AT MOST 1048576: true; the input reads as it did. -/
def ivalSameUptoRow : OpenClaim := { program := "ytacklcbgkigcaaa", sum := "3c745ae65d03ed23e0b819a7ce818ee7f69303603b80314ce9b07be671ba1158", func := "anticline/anticlinelaw4.IvalSame", spec := "ivalSame", unfollowed := true, recurses := true, apart := false, narrowed := true }
def IvalSameUptoSaid : Prop := ivalSameUptoRow.holds Try.pinned (OpenSpec.upto ivalSameSpec)

/-- 'anticlinelaw4.IvalKnown', WHERE WHAT IT READS IS OF BULK AT MOST 1048576: true; the input reads as it did. -/
def ivalKnownUptoRow : OpenClaim := { program := "ytacklcbgkigcaaa", sum := "3c745ae65d03ed23e0b819a7ce818ee7f69303603b80314ce9b07be671ba1158", func := "anticline/anticlinelaw4.IvalKnown", spec := "ivalKnown", unfollowed := true, recurses := true, apart := false, narrowed := true }
def IvalKnownUptoSaid : Prop := ivalKnownUptoRow.holds Try.pinned (OpenSpec.upto ivalKnownSpec)

/-- 'anticlinelaw16.CertSizes', WHERE WHAT IT READS IS OF BULK AT MOST 1048576: true; the input reads as it did. -/
def certSizesUptoRow : OpenClaim := { program := "ytacklcbgkigcaaa", sum := "3c745ae65d03ed23e0b819a7ce818ee7f69303603b80314ce9b07be671ba1158", func := "anticline/anticlinelaw16.CertSizes", spec := "certSizes", unfollowed := true, recurses := true, apart := false, narrowed := true }
def CertSizesUptoSaid : Prop := certSizesUptoRow.holds Try.pinned (OpenSpec.upto certSizesSpec)

/-- 'anticlinelaw16.CertRounds', WHERE WHAT IT READS IS OF BULK AT MOST 1048576: true; the input reads as it did. -/
def certRoundsUptoRow : OpenClaim := { program := "ytacklcbgkigcaaa", sum := "3c745ae65d03ed23e0b819a7ce818ee7f69303603b80314ce9b07be671ba1158", func := "anticline/anticlinelaw16.CertRounds", spec := "certRounds", apart := false, narrowed := true }
def CertRoundsUptoSaid : Prop := certRoundsUptoRow.holds Try.pinned (OpenSpec.upto certRoundsSpec)

/-- 'anticlinelaw16.CertKnown', WHERE WHAT IT READS IS OF BULK AT MOST 1048576: true; the input reads as it did. -/
def certKnownUptoRow : OpenClaim := { program := "ytacklcbgkigcaaa", sum := "3c745ae65d03ed23e0b819a7ce818ee7f69303603b80314ce9b07be671ba1158", func := "anticline/anticlinelaw16.CertKnown", spec := "certKnown", unfollowed := true, recurses := true, apart := false, narrowed := true }
def CertKnownUptoSaid : Prop := certKnownUptoRow.holds Try.pinned (OpenSpec.upto certKnownSpec)

end Rows
end Go.Proofs.Ytacklcbgkigcaaa
