/-
  No cell of these rows narrows 'for every input' (looked for: loops, veiled, ifaces, maps, wideKeys, modest, calm, conditions, laid).
  DERIVED. THE GIVEN ROWS OF THIS SEAT. 9 by the template 'for every input the law returns true; each argument reads behind the call as it read before'; 0 by the template 'total and deterministic' (their statements: YtbnadohabbmebaaTotals.lean).
  GIVEN WITH THE SEED: the statements are not yours to turn. If you find one false, say at which input.
  Laid BY PROGRAM, IN A SANDBOX (cutbox-rows.mjs): the forced cells as the released guide's own fill.sh prints them over the translation e3d9302a9e852428… (all of the seat's roots in one cut). By AI agents, Wed Nov 11 2026. No macro, syntax, notation, axiom, sorry.
-/
import Derived.Test.YtbnadohabbmebaaChecked
import GoSem.Claim
import GoSem.ClaimJoined
import GoSem.ClaimMapViews
import Derived.JoinedTies
import Derived.KernelRfl
namespace Go.Proofs.Ytbnadohabbmebaa
/- THE CELL 'sum', in the pinned program and in every row, IS THE sha256 OF THE DUMP (.gsa) THAT YtbnadohabbmebaaProg.lean LOADS. Nothing in Lean hashes anything: it is a label: what it is worth is what the hold of that sum in a sandbox is worth. -/
noncomputable def Try.pinned : Pinned := { name := "ytbnadohabbmebaa", sum := "e3d9302a9e8524287109c1fa62ef70f6ab33ae267eb48b6fb6c3901a52301427", checked := Try.checked }
namespace Rows
def none {H : Type} : Left H := { results := [], args := [] }

/-- 'octroilaw01.NumAdds': WHATEVER THE INPUT: true; the input reads as it did. -/
def numAddsSpec : ChangeSpec := { name := "numAdds", fn := fun _ => fun
  | [d1, d2, d3, d4, d5] => { results := [.lit (.bool true)], args := [d1, d2, d3, d4, d5] }
  | _ => none }
def numAddsRow : OpenClaim := { program := "ytbnadohabbmebaa", sum := "e3d9302a9e8524287109c1fa62ef70f6ab33ae267eb48b6fb6c3901a52301427", func := "octroi/octroilaw01.NumAdds", spec := "numAdds", apart := false }
def NumAddsSaid : Prop := numAddsRow.holds Try.pinned (OpenSpec.ofChange numAddsSpec)

/-- ITS FALSE NEIGHBOUR: 'it returns false'. Refute it at one input. -/
def numAddsWrong : ChangeSpec := { name := "numAdds", fn := fun _ => fun
  | [d1, d2, d3, d4, d5] => { results := [.lit (.bool false)], args := [d1, d2, d3, d4, d5] }
  | _ => none }
def NumAddsWrongFalsely : Prop := numAddsRow.holds Try.pinned (OpenSpec.ofChange numAddsWrong)

/-- 'octroilaw01.NumSums': WHATEVER THE INPUT: true; the input reads as it did. -/
def numSumsSpec : ChangeSpec := { name := "numSums", fn := fun _ => fun
  | [d] => { results := [.lit (.bool true)], args := [d] }
  | _ => none }
def numSumsRow : OpenClaim := { program := "ytbnadohabbmebaa", sum := "e3d9302a9e8524287109c1fa62ef70f6ab33ae267eb48b6fb6c3901a52301427", func := "octroi/octroilaw01.NumSums", spec := "numSums", apart := false }
def NumSumsSaid : Prop := numSumsRow.holds Try.pinned (OpenSpec.ofChange numSumsSpec)

/-- ITS FALSE NEIGHBOUR: 'it returns false'. Refute it at one input. -/
def numSumsWrong : ChangeSpec := { name := "numSums", fn := fun _ => fun
  | [d] => { results := [.lit (.bool false)], args := [d] }
  | _ => none }
def NumSumsWrongFalsely : Prop := numSumsRow.holds Try.pinned (OpenSpec.ofChange numSumsWrong)

/-- 'octroilaw01.NumOrder': WHATEVER THE INPUT: true; the input reads as it did. -/
def numOrderSpec : ChangeSpec := { name := "numOrder", fn := fun _ => fun
  | [d1, d2] => { results := [.lit (.bool true)], args := [d1, d2] }
  | _ => none }
def numOrderRow : OpenClaim := { program := "ytbnadohabbmebaa", sum := "e3d9302a9e8524287109c1fa62ef70f6ab33ae267eb48b6fb6c3901a52301427", func := "octroi/octroilaw01.NumOrder", spec := "numOrder", apart := false }
def NumOrderSaid : Prop := numOrderRow.holds Try.pinned (OpenSpec.ofChange numOrderSpec)

/-- ITS FALSE NEIGHBOUR: 'it returns false'. Refute it at one input. -/
def numOrderWrong : ChangeSpec := { name := "numOrder", fn := fun _ => fun
  | [d1, d2] => { results := [.lit (.bool false)], args := [d1, d2] }
  | _ => none }
def NumOrderWrongFalsely : Prop := numOrderRow.holds Try.pinned (OpenSpec.ofChange numOrderWrong)

/-- 'octroilaw01.NumZero': WHATEVER THE INPUT: true; the input reads as it did. -/
def numZeroSpec : ChangeSpec := { name := "numZero", fn := fun _ => fun
  | [d1, d2, d3] => { results := [.lit (.bool true)], args := [d1, d2, d3] }
  | _ => none }
def numZeroRow : OpenClaim := { program := "ytbnadohabbmebaa", sum := "e3d9302a9e8524287109c1fa62ef70f6ab33ae267eb48b6fb6c3901a52301427", func := "octroi/octroilaw01.NumZero", spec := "numZero", apart := false }
def NumZeroSaid : Prop := numZeroRow.holds Try.pinned (OpenSpec.ofChange numZeroSpec)

/-- ITS FALSE NEIGHBOUR: 'it returns false'. Refute it at one input. -/
def numZeroWrong : ChangeSpec := { name := "numZero", fn := fun _ => fun
  | [d1, d2, d3] => { results := [.lit (.bool false)], args := [d1, d2, d3] }
  | _ => none }
def NumZeroWrongFalsely : Prop := numZeroRow.holds Try.pinned (OpenSpec.ofChange numZeroWrong)

/-- 'octroilaw01.NumBounds': WHATEVER THE INPUT: true; the input reads as it did. -/
def numBoundsSpec : ChangeSpec := { name := "numBounds", fn := fun _ => fun
  | [d1, d2, d3] => { results := [.lit (.bool true)], args := [d1, d2, d3] }
  | _ => none }
def numBoundsRow : OpenClaim := { program := "ytbnadohabbmebaa", sum := "e3d9302a9e8524287109c1fa62ef70f6ab33ae267eb48b6fb6c3901a52301427", func := "octroi/octroilaw01.NumBounds", spec := "numBounds", apart := false }
def NumBoundsSaid : Prop := numBoundsRow.holds Try.pinned (OpenSpec.ofChange numBoundsSpec)

/-- ITS FALSE NEIGHBOUR: 'it returns false'. Refute it at one input. -/
def numBoundsWrong : ChangeSpec := { name := "numBounds", fn := fun _ => fun
  | [d1, d2, d3] => { results := [.lit (.bool false)], args := [d1, d2, d3] }
  | _ => none }
def NumBoundsWrongFalsely : Prop := numBoundsRow.holds Try.pinned (OpenSpec.ofChange numBoundsWrong)

/-- 'octroilaw01.NumNext': WHATEVER THE INPUT: true; the input reads as it did. -/
def numNextSpec : ChangeSpec := { name := "numNext", fn := fun _ => fun
  | [d1, d2, d3] => { results := [.lit (.bool true)], args := [d1, d2, d3] }
  | _ => none }
def numNextRow : OpenClaim := { program := "ytbnadohabbmebaa", sum := "e3d9302a9e8524287109c1fa62ef70f6ab33ae267eb48b6fb6c3901a52301427", func := "octroi/octroilaw01.NumNext", spec := "numNext", apart := false }
def NumNextSaid : Prop := numNextRow.holds Try.pinned (OpenSpec.ofChange numNextSpec)

/-- ITS FALSE NEIGHBOUR: 'it returns false'. Refute it at one input. -/
def numNextWrong : ChangeSpec := { name := "numNext", fn := fun _ => fun
  | [d1, d2, d3] => { results := [.lit (.bool false)], args := [d1, d2, d3] }
  | _ => none }
def NumNextWrongFalsely : Prop := numNextRow.holds Try.pinned (OpenSpec.ofChange numNextWrong)

/-- 'octroilaw01.NumParts': WHATEVER THE INPUT: true; the input reads as it did. -/
def numPartsSpec : ChangeSpec := { name := "numParts", fn := fun _ => fun
  | [d1, d2] => { results := [.lit (.bool true)], args := [d1, d2] }
  | _ => none }
def numPartsRow : OpenClaim := { program := "ytbnadohabbmebaa", sum := "e3d9302a9e8524287109c1fa62ef70f6ab33ae267eb48b6fb6c3901a52301427", func := "octroi/octroilaw01.NumParts", spec := "numParts", apart := false }
def NumPartsSaid : Prop := numPartsRow.holds Try.pinned (OpenSpec.ofChange numPartsSpec)

/-- ITS FALSE NEIGHBOUR: 'it returns false'. Refute it at one input. -/
def numPartsWrong : ChangeSpec := { name := "numParts", fn := fun _ => fun
  | [d1, d2] => { results := [.lit (.bool false)], args := [d1, d2] }
  | _ => none }
def NumPartsWrongFalsely : Prop := numPartsRow.holds Try.pinned (OpenSpec.ofChange numPartsWrong)

/-- 'octroilaw01.NumBytes': WHATEVER THE INPUT: true; the input reads as it did. -/
def numBytesSpec : ChangeSpec := { name := "numBytes", fn := fun _ => fun
  | [d1, d2, d3] => { results := [.lit (.bool true)], args := [d1, d2, d3] }
  | _ => none }
def numBytesRow : OpenClaim := { program := "ytbnadohabbmebaa", sum := "e3d9302a9e8524287109c1fa62ef70f6ab33ae267eb48b6fb6c3901a52301427", func := "octroi/octroilaw01.NumBytes", spec := "numBytes", apart := false }
def NumBytesSaid : Prop := numBytesRow.holds Try.pinned (OpenSpec.ofChange numBytesSpec)

/-- ITS FALSE NEIGHBOUR: 'it returns false'. Refute it at one input. -/
def numBytesWrong : ChangeSpec := { name := "numBytes", fn := fun _ => fun
  | [d1, d2, d3] => { results := [.lit (.bool false)], args := [d1, d2, d3] }
  | _ => none }
def NumBytesWrongFalsely : Prop := numBytesRow.holds Try.pinned (OpenSpec.ofChange numBytesWrong)

/-- 'octroilaw01.NumBack': WHATEVER THE INPUT: true; the input reads as it did. -/
def numBackSpec : ChangeSpec := { name := "numBack", fn := fun _ => fun
  | [d1, d2, d3] => { results := [.lit (.bool true)], args := [d1, d2, d3] }
  | _ => none }
def numBackRow : OpenClaim := { program := "ytbnadohabbmebaa", sum := "e3d9302a9e8524287109c1fa62ef70f6ab33ae267eb48b6fb6c3901a52301427", func := "octroi/octroilaw01.NumBack", spec := "numBack", apart := false }
def NumBackSaid : Prop := numBackRow.holds Try.pinned (OpenSpec.ofChange numBackSpec)

/-- ITS FALSE NEIGHBOUR: 'it returns false'. Refute it at one input. -/
def numBackWrong : ChangeSpec := { name := "numBack", fn := fun _ => fun
  | [d1, d2, d3] => { results := [.lit (.bool false)], args := [d1, d2, d3] }
  | _ => none }
def NumBackWrongFalsely : Prop := numBackRow.holds Try.pinned (OpenSpec.ofChange numBackWrong)

/- THE SECOND FORM. 'bulk': how many values and letters a reading holds, each counted each time it is reached (what is shared counts as often as it is met; a slice's spare places count too). A statement '..UptoSaid' is the law's where the arguments, and the package variables that the reading takes, are together of bulk at most 1048576: NARROWER than '..Said'. Prove '..Said' where nothing that the law and all that it calls make is longer than what came in: it says more and counts as full. Else prove '..UptoSaid'. A law counts once. -/
mutual
def uptoBulk {H : Type} : DataW H → Nat
  | .lit (.string bytes) => bytes.length + 1
  | .lit _ => 1
  | .nil => 1
  | .ptr d => uptoBulk d + 1
  | .slice elems spare => uptoBulkAll elems + uptoBulkAll spare + 1
  | .agg parts => uptoBulkAll parts + 1
  | .iface _ d => uptoBulk d + 1
  | .map entries => uptoBulkEntries entries + 1
  | .held _ => 1
def uptoBulkAll {H : Type} : List (DataW H) → Nat
  | [] => 0
  | d :: r => uptoBulk d + uptoBulkAll r
def uptoBulkEntries {H : Type} : List (Lit × DataW H) → Nat
  | [] => 0
  | x :: r => uptoBulkEntry x + uptoBulkEntries r
def uptoBulkEntry {H : Type} : Lit × DataW H → Nat
  | (.string bytes, d) => bytes.length + uptoBulk d + 1
  | (_, d) => uptoBulk d + 1
 end
def uptoSmall : (H : Type) → List (DataW H) → Bool := fun _ ds => decide (uptoBulkAll ds ≤ 1048576)
def OpenSpec.upto (s : _root_.Go.ChangeSpec) : _root_.Go.OpenSpec := { _root_.Go.OpenSpec.ofChange s with cond := some uptoSmall }

/-- 'octroilaw01.NumAdds', WHERE WHAT IT READS IS OF BULK AT MOST 1048576: true; the input reads as it did. -/
def numAddsUptoRow : OpenClaim := { program := "ytbnadohabbmebaa", sum := "e3d9302a9e8524287109c1fa62ef70f6ab33ae267eb48b6fb6c3901a52301427", func := "octroi/octroilaw01.NumAdds", spec := "numAdds", apart := false, narrowed := true }
def NumAddsUptoSaid : Prop := numAddsUptoRow.holds Try.pinned (OpenSpec.upto numAddsSpec)

/-- 'octroilaw01.NumSums', WHERE WHAT IT READS IS OF BULK AT MOST 1048576: true; the input reads as it did. -/
def numSumsUptoRow : OpenClaim := { program := "ytbnadohabbmebaa", sum := "e3d9302a9e8524287109c1fa62ef70f6ab33ae267eb48b6fb6c3901a52301427", func := "octroi/octroilaw01.NumSums", spec := "numSums", apart := false, narrowed := true }
def NumSumsUptoSaid : Prop := numSumsUptoRow.holds Try.pinned (OpenSpec.upto numSumsSpec)

/-- 'octroilaw01.NumOrder', WHERE WHAT IT READS IS OF BULK AT MOST 1048576: true; the input reads as it did. -/
def numOrderUptoRow : OpenClaim := { program := "ytbnadohabbmebaa", sum := "e3d9302a9e8524287109c1fa62ef70f6ab33ae267eb48b6fb6c3901a52301427", func := "octroi/octroilaw01.NumOrder", spec := "numOrder", apart := false, narrowed := true }
def NumOrderUptoSaid : Prop := numOrderUptoRow.holds Try.pinned (OpenSpec.upto numOrderSpec)

/-- 'octroilaw01.NumZero', WHERE WHAT IT READS IS OF BULK AT MOST 1048576: true; the input reads as it did. -/
def numZeroUptoRow : OpenClaim := { program := "ytbnadohabbmebaa", sum := "e3d9302a9e8524287109c1fa62ef70f6ab33ae267eb48b6fb6c3901a52301427", func := "octroi/octroilaw01.NumZero", spec := "numZero", apart := false, narrowed := true }
def NumZeroUptoSaid : Prop := numZeroUptoRow.holds Try.pinned (OpenSpec.upto numZeroSpec)

/-- 'octroilaw01.NumBounds', WHERE WHAT IT READS IS OF BULK AT MOST 1048576: true; the input reads as it did. -/
def numBoundsUptoRow : OpenClaim := { program := "ytbnadohabbmebaa", sum := "e3d9302a9e8524287109c1fa62ef70f6ab33ae267eb48b6fb6c3901a52301427", func := "octroi/octroilaw01.NumBounds", spec := "numBounds", apart := false, narrowed := true }
def NumBoundsUptoSaid : Prop := numBoundsUptoRow.holds Try.pinned (OpenSpec.upto numBoundsSpec)

/-- 'octroilaw01.NumNext', WHERE WHAT IT READS IS OF BULK AT MOST 1048576: true; the input reads as it did. -/
def numNextUptoRow : OpenClaim := { program := "ytbnadohabbmebaa", sum := "e3d9302a9e8524287109c1fa62ef70f6ab33ae267eb48b6fb6c3901a52301427", func := "octroi/octroilaw01.NumNext", spec := "numNext", apart := false, narrowed := true }
def NumNextUptoSaid : Prop := numNextUptoRow.holds Try.pinned (OpenSpec.upto numNextSpec)

/-- 'octroilaw01.NumParts', WHERE WHAT IT READS IS OF BULK AT MOST 1048576: true; the input reads as it did. -/
def numPartsUptoRow : OpenClaim := { program := "ytbnadohabbmebaa", sum := "e3d9302a9e8524287109c1fa62ef70f6ab33ae267eb48b6fb6c3901a52301427", func := "octroi/octroilaw01.NumParts", spec := "numParts", apart := false, narrowed := true }
def NumPartsUptoSaid : Prop := numPartsUptoRow.holds Try.pinned (OpenSpec.upto numPartsSpec)

/-- 'octroilaw01.NumBytes', WHERE WHAT IT READS IS OF BULK AT MOST 1048576: true; the input reads as it did. -/
def numBytesUptoRow : OpenClaim := { program := "ytbnadohabbmebaa", sum := "e3d9302a9e8524287109c1fa62ef70f6ab33ae267eb48b6fb6c3901a52301427", func := "octroi/octroilaw01.NumBytes", spec := "numBytes", apart := false, narrowed := true }
def NumBytesUptoSaid : Prop := numBytesUptoRow.holds Try.pinned (OpenSpec.upto numBytesSpec)

/-- 'octroilaw01.NumBack', WHERE WHAT IT READS IS OF BULK AT MOST 1048576: true; the input reads as it did. -/
def numBackUptoRow : OpenClaim := { program := "ytbnadohabbmebaa", sum := "e3d9302a9e8524287109c1fa62ef70f6ab33ae267eb48b6fb6c3901a52301427", func := "octroi/octroilaw01.NumBack", spec := "numBack", apart := false, narrowed := true }
def NumBackUptoSaid : Prop := numBackUptoRow.holds Try.pinned (OpenSpec.upto numBackSpec)

end Rows
end Go.Proofs.Ytbnadohabbmebaa
