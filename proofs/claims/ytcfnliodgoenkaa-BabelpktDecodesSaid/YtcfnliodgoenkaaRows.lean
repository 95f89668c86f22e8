/-
  No cell of these rows narrows 'for every input' (looked for: loops, veiled, ifaces, maps, wideKeys, modest, calm, conditions, laid).
  DERIVED. THE GIVEN ROWS OF THIS SEAT. 8 by the template 'for every input the law returns true; each argument reads behind the call as it read before'; 0 by the template 'total and deterministic' (their statements: YtcfnliodgoenkaaTotals.lean).
  GIVEN WITH THE SEED: the statements are not yours to turn. If you find one false, say at which input.
  Laid BY PROGRAM, IN A SANDBOX (cutbox-rows.mjs): the forced cells as the released guide's own fill.sh prints them over the translation ec3e450195c79252… (all of the seat's roots in one cut). By AI agents, Wed Nov 11 2026. No macro, syntax, notation, axiom, sorry.
-/
import Derived.Test.YtcfnliodgoenkaaChecked
import GoSem.Claim
import GoSem.ClaimJoined
import GoSem.ClaimMapViews
import Derived.JoinedTies
import Derived.KernelRfl
namespace Go.Proofs.Ytcfnliodgoenkaa
/- THE CELL 'sum', in the pinned program and in every row, IS THE sha256 OF THE DUMP (.gsa) THAT YtcfnliodgoenkaaProg.lean LOADS. Nothing in Lean hashes anything: it is a label: what it is worth is what the hold of that sum in a sandbox is worth. -/
noncomputable def Try.pinned : Pinned := { name := "ytcfnliodgoenkaa", sum := "ec3e450195c79252272c77ac0f3f615eb3781af738896819ba60f22e88189849", checked := Try.checked }
namespace Rows
def none {H : Type} : Left H := { results := [], args := [] }

/-- 'octroilaw06.BabelpktEncodes': WHATEVER THE INPUT: true; the input reads as it did. -/
def babelpktEncodesSpec : ChangeSpec := { name := "babelpktEncodes", fn := fun _ => fun
  | [d1, d2, d3, d4] => { results := [.lit (.bool true)], args := [d1, d2, d3, d4] }
  | _ => none }
def babelpktEncodesRow : OpenClaim := { program := "ytcfnliodgoenkaa", sum := "ec3e450195c79252272c77ac0f3f615eb3781af738896819ba60f22e88189849", func := "octroi/octroilaw06.BabelpktEncodes", spec := "babelpktEncodes", unfollowed := true, recurses := true, apart := false }
def BabelpktEncodesSaid : Prop := babelpktEncodesRow.holds Try.pinned (OpenSpec.ofChange babelpktEncodesSpec)

/-- ITS FALSE NEIGHBOUR: 'it returns false'. Refute it at one input. -/
def babelpktEncodesWrong : ChangeSpec := { name := "babelpktEncodes", fn := fun _ => fun
  | [d1, d2, d3, d4] => { results := [.lit (.bool false)], args := [d1, d2, d3, d4] }
  | _ => none }
def BabelpktEncodesWrongFalsely : Prop := babelpktEncodesRow.holds Try.pinned (OpenSpec.ofChange babelpktEncodesWrong)

/-- 'octroilaw06.BabelpktSqueezes': WHATEVER THE INPUT: true; the input reads as it did. -/
def babelpktSqueezesSpec : ChangeSpec := { name := "babelpktSqueezes", fn := fun _ => fun
  | [d1, d2, d3] => { results := [.lit (.bool true)], args := [d1, d2, d3] }
  | _ => none }
def babelpktSqueezesRow : OpenClaim := { program := "ytcfnliodgoenkaa", sum := "ec3e450195c79252272c77ac0f3f615eb3781af738896819ba60f22e88189849", func := "octroi/octroilaw06.BabelpktSqueezes", spec := "babelpktSqueezes", unfollowed := true, recurses := true, apart := false }
def BabelpktSqueezesSaid : Prop := babelpktSqueezesRow.holds Try.pinned (OpenSpec.ofChange babelpktSqueezesSpec)

/-- ITS FALSE NEIGHBOUR: 'it returns false'. Refute it at one input. -/
def babelpktSqueezesWrong : ChangeSpec := { name := "babelpktSqueezes", fn := fun _ => fun
  | [d1, d2, d3] => { results := [.lit (.bool false)], args := [d1, d2, d3] }
  | _ => none }
def BabelpktSqueezesWrongFalsely : Prop := babelpktSqueezesRow.holds Try.pinned (OpenSpec.ofChange babelpktSqueezesWrong)

/-- 'octroilaw06.BabelpktShort': WHATEVER THE INPUT: true; the input reads as it did. -/
def babelpktShortSpec : ChangeSpec := { name := "babelpktShort", fn := fun _ => fun
  | [d1, d2] => { results := [.lit (.bool true)], args := [d1, d2] }
  | _ => none }
def babelpktShortRow : OpenClaim := { program := "ytcfnliodgoenkaa", sum := "ec3e450195c79252272c77ac0f3f615eb3781af738896819ba60f22e88189849", func := "octroi/octroilaw06.BabelpktShort", spec := "babelpktShort", unfollowed := true, recurses := true, apart := false }
def BabelpktShortSaid : Prop := babelpktShortRow.holds Try.pinned (OpenSpec.ofChange babelpktShortSpec)

/-- ITS FALSE NEIGHBOUR: 'it returns false'. Refute it at one input. -/
def babelpktShortWrong : ChangeSpec := { name := "babelpktShort", fn := fun _ => fun
  | [d1, d2] => { results := [.lit (.bool false)], args := [d1, d2] }
  | _ => none }
def BabelpktShortWrongFalsely : Prop := babelpktShortRow.holds Try.pinned (OpenSpec.ofChange babelpktShortWrong)

/-- 'octroilaw06.BabelpktDecodes': WHATEVER THE INPUT: true; the input reads as it did. -/
def babelpktDecodesSpec : ChangeSpec := { name := "babelpktDecodes", fn := fun _ => fun
  | [d] => { results := [.lit (.bool true)], args := [d] }
  | _ => none }
def babelpktDecodesRow : OpenClaim := { program := "ytcfnliodgoenkaa", sum := "ec3e450195c79252272c77ac0f3f615eb3781af738896819ba60f22e88189849", func := "octroi/octroilaw06.BabelpktDecodes", spec := "babelpktDecodes", unfollowed := true, recurses := true, apart := false }
def BabelpktDecodesSaid : Prop := babelpktDecodesRow.holds Try.pinned (OpenSpec.ofChange babelpktDecodesSpec)

/-- ITS FALSE NEIGHBOUR: 'it returns false'. Refute it at one input. -/
def babelpktDecodesWrong : ChangeSpec := { name := "babelpktDecodes", fn := fun _ => fun
  | [d] => { results := [.lit (.bool false)], args := [d] }
  | _ => none }
def BabelpktDecodesWrongFalsely : Prop := babelpktDecodesRow.holds Try.pinned (OpenSpec.ofChange babelpktDecodesWrong)

/-- 'octroilaw06.BabelpktBack': WHATEVER THE INPUT: true; the input reads as it did. -/
def babelpktBackSpec : ChangeSpec := { name := "babelpktBack", fn := fun _ => fun
  | [d] => { results := [.lit (.bool true)], args := [d] }
  | _ => none }
def babelpktBackRow : OpenClaim := { program := "ytcfnliodgoenkaa", sum := "ec3e450195c79252272c77ac0f3f615eb3781af738896819ba60f22e88189849", func := "octroi/octroilaw06.BabelpktBack", spec := "babelpktBack", unfollowed := true, recurses := true, apart := false }
def BabelpktBackSaid : Prop := babelpktBackRow.holds Try.pinned (OpenSpec.ofChange babelpktBackSpec)

/-- ITS FALSE NEIGHBOUR: 'it returns false'. Refute it at one input. -/
def babelpktBackWrong : ChangeSpec := { name := "babelpktBack", fn := fun _ => fun
  | [d] => { results := [.lit (.bool false)], args := [d] }
  | _ => none }
def BabelpktBackWrongFalsely : Prop := babelpktBackRow.holds Try.pinned (OpenSpec.ofChange babelpktBackWrong)

/-- 'octroilaw06.BabelpktCuts': WHATEVER THE INPUT: true; the input reads as it did. -/
def babelpktCutsSpec : ChangeSpec := { name := "babelpktCuts", fn := fun _ => fun
  | [d1, d2, d3] => { results := [.lit (.bool true)], args := [d1, d2, d3] }
  | _ => none }
def babelpktCutsRow : OpenClaim := { program := "ytcfnliodgoenkaa", sum := "ec3e450195c79252272c77ac0f3f615eb3781af738896819ba60f22e88189849", func := "octroi/octroilaw06.BabelpktCuts", spec := "babelpktCuts", unfollowed := true, recurses := true, apart := false }
def BabelpktCutsSaid : Prop := babelpktCutsRow.holds Try.pinned (OpenSpec.ofChange babelpktCutsSpec)

/-- ITS FALSE NEIGHBOUR: 'it returns false'. Refute it at one input. -/
def babelpktCutsWrong : ChangeSpec := { name := "babelpktCuts", fn := fun _ => fun
  | [d1, d2, d3] => { results := [.lit (.bool false)], args := [d1, d2, d3] }
  | _ => none }
def BabelpktCutsWrongFalsely : Prop := babelpktCutsRow.holds Try.pinned (OpenSpec.ofChange babelpktCutsWrong)

/-- 'octroilaw06.BabelpktAgain': WHATEVER THE INPUT: true; the input reads as it did. -/
def babelpktAgainSpec : ChangeSpec := { name := "babelpktAgain", fn := fun _ => fun
  | [d] => { results := [.lit (.bool true)], args := [d] }
  | _ => none }
def babelpktAgainRow : OpenClaim := { program := "ytcfnliodgoenkaa", sum := "ec3e450195c79252272c77ac0f3f615eb3781af738896819ba60f22e88189849", func := "octroi/octroilaw06.BabelpktAgain", spec := "babelpktAgain", unfollowed := true, recurses := true, apart := false }
def BabelpktAgainSaid : Prop := babelpktAgainRow.holds Try.pinned (OpenSpec.ofChange babelpktAgainSpec)

/-- ITS FALSE NEIGHBOUR: 'it returns false'. Refute it at one input. -/
def babelpktAgainWrong : ChangeSpec := { name := "babelpktAgain", fn := fun _ => fun
  | [d] => { results := [.lit (.bool false)], args := [d] }
  | _ => none }
def BabelpktAgainWrongFalsely : Prop := babelpktAgainRow.holds Try.pinned (OpenSpec.ofChange babelpktAgainWrong)

/-- 'octroilaw06.BabelpktStrange': WHATEVER THE INPUT: true; the input reads as it did. -/
def babelpktStrangeSpec : ChangeSpec := { name := "babelpktStrange", fn := fun _ => fun
  | [d1, d2, d3] => { results := [.lit (.bool true)], args := [d1, d2, d3] }
  | _ => none }
def babelpktStrangeRow : OpenClaim := { program := "ytcfnliodgoenkaa", sum := "ec3e450195c79252272c77ac0f3f615eb3781af738896819ba60f22e88189849", func := "octroi/octroilaw06.BabelpktStrange", spec := "babelpktStrange", unfollowed := true, recurses := true, apart := false }
def BabelpktStrangeSaid : Prop := babelpktStrangeRow.holds Try.pinned (OpenSpec.ofChange babelpktStrangeSpec)

/-- ITS FALSE NEIGHBOUR: 'it returns false'. Refute it at one input. -/
def babelpktStrangeWrong : ChangeSpec := { name := "babelpktStrange", fn := fun _ => fun
  | [d1, d2, d3] => { results := [.lit (.bool false)], args := [d1, d2, d3] }
  | _ => none }
def BabelpktStrangeWrongFalsely : Prop := babelpktStrangeRow.holds Try.pinned (OpenSpec.ofChange babelpktStrangeWrong)

/- THE SECOND FORM. 'bulk': how many values and letters a reading holds, each counted each time it is reached (what is shared counts as often as it is met; a slice's spare places count too). A statement '..UptoSaid' is the law's where the arguments, and the package variables that the reading takes, are together of bulk at most 1048576: NARROWER than '..Said'. Prove '..Said' where nothing that the law and all that it calls make is longer than what came in: it says more and counts as full. Else prove '..UptoSaid'. A law counts once. -/
mutual
def uptoBulk {H : Type} : DataW H → Nat
  | .lit (.string bytes) => bytes.length + 1
  | .lit _ => 1
  | .nil => 1
  | .ptr d => uptoBulk d + 1
  | .slice elems spare => uptoBulkAll elems + uptoBulkAll spare + 1
  | .agg parts => uptoBulkAll parts + 1
  | .iface _ d => uptoBulk d + 1
  | .map entries => uptoBulkEntries entries + 1
  | .held _ => 1
def uptoBulkAll {H : Type} : List (DataW H) → Nat
  | [] => 0
  | d :: r => uptoBulk d + uptoBulkAll r
def uptoBulkEntries {H : Type} : List (Lit × DataW H) → Nat
  | [] => 0
  | x :: r => uptoBulkEntry x + uptoBulkEntries r
def uptoBulkEntry {H : Type} : Lit × DataW H → Nat
  | (.string bytes, d) => bytes.length + uptoBulk d + 1
  | (_, d) => uptoBulk d + 1
 end
def uptoSmall : (H : Type) → List (DataW H) → Bool := fun _ ds => decide (uptoBulkAll ds ≤ 1048576)
def OpenSpec.upto (s : _root_.Go.ChangeSpec) : _root_.Go.OpenSpec := { _root_.Go.OpenSpec.ofChange s with cond := some uptoSmall }

/-- 'octroilaw06.BabelpktEncodes', WHERE WHAT IT READS IS OF BULK AT MOST 1048576: true; the input reads as it did. -/
def babelpktEncodesUptoRow : OpenClaim := { program := "ytcfnliodgoenkaa", sum := "ec3e450195c79252272c77ac0f3f615eb3781af738896819ba60f22e88189849", func := "octroi/octroilaw06.BabelpktEncodes", spec := "babelpktEncodes", unfollowed := true, recurses := true, apart := false, narrowed := true }
def BabelpktEncodesUptoSaid : Prop := babelpktEncodesUptoRow.holds Try.pinned (OpenSpec.upto babelpktEncodesSpec)

/-- 'octroilaw06.BabelpktSqueezes', WHERE WHAT IT READS IS OF BULK AT MOST 1048576: true; the input reads as it did. -/
def babelpktSqueezesUptoRow : OpenClaim := { program := "ytcfnliodgoenkaa", sum := "ec3e450195c79252272c77ac0f3f615eb3781af738896819ba60f22e88189849", func := "octroi/octroilaw06.BabelpktSqueezes", spec := "babelpktSqueezes", unfollowed := true, recurses := true, apart := false, narrowed := true }
def BabelpktSqueezesUptoSaid : Prop := babelpktSqueezesUptoRow.holds Try.pinned (OpenSpec.upto babelpktSqueezesSpec)

/-- 'octroilaw06.BabelpktShort', WHERE WHAT IT READS IS OF BULK AT MOST 1048576: true; the input reads as it did. -/
def babelpktShortUptoRow : OpenClaim := { program := "ytcfnliodgoenkaa", sum := "ec3e450195c79252272c77ac0f3f615eb3781af738896819ba60f22e88189849", func := "octroi/octroilaw06.BabelpktShort", spec := "babelpktShort", unfollowed := true, recurses := true, apart := false, narrowed := true }
def BabelpktShortUptoSaid : Prop := babelpktShortUptoRow.holds Try.pinned (OpenSpec.upto babelpktShortSpec)

/-- 'octroilaw06.BabelpktDecodes', WHERE WHAT IT READS IS OF BULK AT MOST 1048576: true; the input reads as it did. -/
def babelpktDecodesUptoRow : OpenClaim := { program := "ytcfnliodgoenkaa", sum := "ec3e450195c79252272c77ac0f3f615eb3781af738896819ba60f22e88189849", func := "octroi/octroilaw06.BabelpktDecodes", spec := "babelpktDecodes", unfollowed := true, recurses := true, apart := false, narrowed := true }
def BabelpktDecodesUptoSaid : Prop := babelpktDecodesUptoRow.holds Try.pinned (OpenSpec.upto babelpktDecodesSpec)

/-- 'octroilaw06.BabelpktBack', WHERE WHAT IT READS IS OF BULK AT MOST 1048576: true; the input reads as it did. -/
def babelpktBackUptoRow : OpenClaim := { program := "ytcfnliodgoenkaa", sum := "ec3e450195c79252272c77ac0f3f615eb3781af738896819ba60f22e88189849", func := "octroi/octroilaw06.BabelpktBack", spec := "babelpktBack", unfollowed := true, recurses := true, apart := false, narrowed := true }
def BabelpktBackUptoSaid : Prop := babelpktBackUptoRow.holds Try.pinned (OpenSpec.upto babelpktBackSpec)

/-- 'octroilaw06.BabelpktCuts', WHERE WHAT IT READS IS OF BULK AT MOST 1048576: true; the input reads as it did. -/
def babelpktCutsUptoRow : OpenClaim := { program := "ytcfnliodgoenkaa", sum := "ec3e450195c79252272c77ac0f3f615eb3781af738896819ba60f22e88189849", func := "octroi/octroilaw06.BabelpktCuts", spec := "babelpktCuts", unfollowed := true, recurses := true, apart := false, narrowed := true }
def BabelpktCutsUptoSaid : Prop := babelpktCutsUptoRow.holds Try.pinned (OpenSpec.upto babelpktCutsSpec)

/-- 'octroilaw06.BabelpktAgain', WHERE WHAT IT READS IS OF BULK AT MOST 1048576: true; the input reads as it did. -/
def babelpktAgainUptoRow : OpenClaim := { program := "ytcfnliodgoenkaa", sum := "ec3e450195c79252272c77ac0f3f615eb3781af738896819ba60f22e88189849", func := "octroi/octroilaw06.BabelpktAgain", spec := "babelpktAgain", unfollowed := true, recurses := true, apart := false, narrowed := true }
def BabelpktAgainUptoSaid : Prop := babelpktAgainUptoRow.holds Try.pinned (OpenSpec.upto babelpktAgainSpec)

/-- 'octroilaw06.BabelpktStrange', WHERE WHAT IT READS IS OF BULK AT MOST 1048576: true; the input reads as it did. -/
def babelpktStrangeUptoRow : OpenClaim := { program := "ytcfnliodgoenkaa", sum := "ec3e450195c79252272c77ac0f3f615eb3781af738896819ba60f22e88189849", func := "octroi/octroilaw06.BabelpktStrange", spec := "babelpktStrange", unfollowed := true, recurses := true, apart := false, narrowed := true }
def BabelpktStrangeUptoSaid : Prop := babelpktStrangeUptoRow.holds Try.pinned (OpenSpec.upto babelpktStrangeSpec)

end Rows
end Go.Proofs.Ytcfnliodgoenkaa
