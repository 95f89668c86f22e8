/-
  No cell of these rows narrows 'for every input' (looked for: loops, veiled, ifaces, maps, wideKeys, modest, calm, conditions, laid).
  DERIVED. THE GIVEN ROWS OF THIS SEAT. 7 by the template 'for every input the law returns true; each argument reads behind the call as it read before'; 0 by the template 'total and deterministic' (their statements: YtahllmihgpaaeaaTotals.lean).
  GIVEN WITH THE SEED: the statements are not yours to turn. If you find one false, say at which input.
  Laid BY PROGRAM, IN A SANDBOX (cutbox-rows.mjs): the forced cells as the released guide's own fill.sh prints them over the translation 0f30075365ea9e2e… (all of the seat's roots in one cut). By AI agents, Wed Nov 11 2026. No macro, syntax, notation, axiom, sorry.
-/
import Derived.Test.YtahllmihgpaaeaaChecked
import GoSem.Claim
import GoSem.ClaimJoined
import GoSem.ClaimMapViews
import Derived.JoinedTies
import Derived.KernelRfl
namespace Go.Proofs.Ytahllmihgpaaeaa
/- THE CELL 'sum', in the pinned program and in every row, IS THE sha256 OF THE DUMP (.gsa) THAT YtahllmihgpaaeaaProg.lean LOADS. Nothing in Lean hashes anything: it is a label: what it is worth is what the hold of that sum in a sandbox is worth. -/
noncomputable def Try.pinned : Pinned := { name := "ytahllmihgpaaeaa", sum := "0f30075365ea9e2e54c059c8f0e99b08333c9f8c7aa5d81dcf35a5941e4775b4", checked := Try.checked }
namespace Rows
def none {H : Type} : Left H := { results := [], args := [] }

/-- 'octroilaw05.RippktEncodes': WHATEVER THE INPUT: true; the input reads as it did. -/
def rippktEncodesSpec : ChangeSpec := { name := "rippktEncodes", fn := fun _ => fun
  | [d] => { results := [.lit (.bool true)], args := [d] }
  | _ => none }
def rippktEncodesRow : OpenClaim := { program := "ytahllmihgpaaeaa", sum := "0f30075365ea9e2e54c059c8f0e99b08333c9f8c7aa5d81dcf35a5941e4775b4", func := "octroi/octroilaw05.RippktEncodes", spec := "rippktEncodes", unfollowed := true, recurses := true, apart := false }
def RippktEncodesSaid : Prop := rippktEncodesRow.holds Try.pinned (OpenSpec.ofChange rippktEncodesSpec)

/-- ITS FALSE NEIGHBOUR: 'it returns false'. Refute it at one input. -/
def rippktEncodesWrong : ChangeSpec := { name := "rippktEncodes", fn := fun _ => fun
  | [d] => { results := [.lit (.bool false)], args := [d] }
  | _ => none }
def RippktEncodesWrongFalsely : Prop := rippktEncodesRow.holds Try.pinned (OpenSpec.ofChange rippktEncodesWrong)

/-- 'octroilaw05.RippktEntries': WHATEVER THE INPUT: true; the input reads as it did. -/
def rippktEntriesSpec : ChangeSpec := { name := "rippktEntries", fn := fun _ => fun
  | [d1, d2] => { results := [.lit (.bool true)], args := [d1, d2] }
  | _ => none }
def rippktEntriesRow : OpenClaim := { program := "ytahllmihgpaaeaa", sum := "0f30075365ea9e2e54c059c8f0e99b08333c9f8c7aa5d81dcf35a5941e4775b4", func := "octroi/octroilaw05.RippktEntries", spec := "rippktEntries", unfollowed := true, recurses := true, apart := false }
def RippktEntriesSaid : Prop := rippktEntriesRow.holds Try.pinned (OpenSpec.ofChange rippktEntriesSpec)

/-- ITS FALSE NEIGHBOUR: 'it returns false'. Refute it at one input. -/
def rippktEntriesWrong : ChangeSpec := { name := "rippktEntries", fn := fun _ => fun
  | [d1, d2] => { results := [.lit (.bool false)], args := [d1, d2] }
  | _ => none }
def RippktEntriesWrongFalsely : Prop := rippktEntriesRow.holds Try.pinned (OpenSpec.ofChange rippktEntriesWrong)

/-- 'octroilaw05.RippktDecodes': WHATEVER THE INPUT: true; the input reads as it did. -/
def rippktDecodesSpec : ChangeSpec := { name := "rippktDecodes", fn := fun _ => fun
  | [d] => { results := [.lit (.bool true)], args := [d] }
  | _ => none }
def rippktDecodesRow : OpenClaim := { program := "ytahllmihgpaaeaa", sum := "0f30075365ea9e2e54c059c8f0e99b08333c9f8c7aa5d81dcf35a5941e4775b4", func := "octroi/octroilaw05.RippktDecodes", spec := "rippktDecodes", unfollowed := true, recurses := true, apart := false }
def RippktDecodesSaid : Prop := rippktDecodesRow.holds Try.pinned (OpenSpec.ofChange rippktDecodesSpec)

/-- ITS FALSE NEIGHBOUR: 'it returns false'. Refute it at one input. -/
def rippktDecodesWrong : ChangeSpec := { name := "rippktDecodes", fn := fun _ => fun
  | [d] => { results := [.lit (.bool false)], args := [d] }
  | _ => none }
def RippktDecodesWrongFalsely : Prop := rippktDecodesRow.holds Try.pinned (OpenSpec.ofChange rippktDecodesWrong)

/-- 'octroilaw05.RippktBack': WHATEVER THE INPUT: true; the input reads as it did. -/
def rippktBackSpec : ChangeSpec := { name := "rippktBack", fn := fun _ => fun
  | [d] => { results := [.lit (.bool true)], args := [d] }
  | _ => none }
def rippktBackRow : OpenClaim := { program := "ytahllmihgpaaeaa", sum := "0f30075365ea9e2e54c059c8f0e99b08333c9f8c7aa5d81dcf35a5941e4775b4", func := "octroi/octroilaw05.RippktBack", spec := "rippktBack", unfollowed := true, recurses := true, apart := false }
def RippktBackSaid : Prop := rippktBackRow.holds Try.pinned (OpenSpec.ofChange rippktBackSpec)

/-- ITS FALSE NEIGHBOUR: 'it returns false'. Refute it at one input. -/
def rippktBackWrong : ChangeSpec := { name := "rippktBack", fn := fun _ => fun
  | [d] => { results := [.lit (.bool false)], args := [d] }
  | _ => none }
def RippktBackWrongFalsely : Prop := rippktBackRow.holds Try.pinned (OpenSpec.ofChange rippktBackWrong)

/-- 'octroilaw05.RippktOnce': WHATEVER THE INPUT: true; the input reads as it did. -/
def rippktOnceSpec : ChangeSpec := { name := "rippktOnce", fn := fun _ => fun
  | [d] => { results := [.lit (.bool true)], args := [d] }
  | _ => none }
def rippktOnceRow : OpenClaim := { program := "ytahllmihgpaaeaa", sum := "0f30075365ea9e2e54c059c8f0e99b08333c9f8c7aa5d81dcf35a5941e4775b4", func := "octroi/octroilaw05.RippktOnce", spec := "rippktOnce", unfollowed := true, recurses := true, apart := false }
def RippktOnceSaid : Prop := rippktOnceRow.holds Try.pinned (OpenSpec.ofChange rippktOnceSpec)

/-- ITS FALSE NEIGHBOUR: 'it returns false'. Refute it at one input. -/
def rippktOnceWrong : ChangeSpec := { name := "rippktOnce", fn := fun _ => fun
  | [d] => { results := [.lit (.bool false)], args := [d] }
  | _ => none }
def RippktOnceWrongFalsely : Prop := rippktOnceRow.holds Try.pinned (OpenSpec.ofChange rippktOnceWrong)

/-- 'octroilaw05.RippktCuts': WHATEVER THE INPUT: true; the input reads as it did. -/
def rippktCutsSpec : ChangeSpec := { name := "rippktCuts", fn := fun _ => fun
  | [d1, d2, d3] => { results := [.lit (.bool true)], args := [d1, d2, d3] }
  | _ => none }
def rippktCutsRow : OpenClaim := { program := "ytahllmihgpaaeaa", sum := "0f30075365ea9e2e54c059c8f0e99b08333c9f8c7aa5d81dcf35a5941e4775b4", func := "octroi/octroilaw05.RippktCuts", spec := "rippktCuts", unfollowed := true, recurses := true, apart := false }
def RippktCutsSaid : Prop := rippktCutsRow.holds Try.pinned (OpenSpec.ofChange rippktCutsSpec)

/-- ITS FALSE NEIGHBOUR: 'it returns false'. Refute it at one input. -/
def rippktCutsWrong : ChangeSpec := { name := "rippktCuts", fn := fun _ => fun
  | [d1, d2, d3] => { results := [.lit (.bool false)], args := [d1, d2, d3] }
  | _ => none }
def RippktCutsWrongFalsely : Prop := rippktCutsRow.holds Try.pinned (OpenSpec.ofChange rippktCutsWrong)

/-- 'octroilaw05.RippktWhole': WHATEVER THE INPUT: true; the input reads as it did. -/
def rippktWholeSpec : ChangeSpec := { name := "rippktWhole", fn := fun _ => fun
  | [d] => { results := [.lit (.bool true)], args := [d] }
  | _ => none }
def rippktWholeRow : OpenClaim := { program := "ytahllmihgpaaeaa", sum := "0f30075365ea9e2e54c059c8f0e99b08333c9f8c7aa5d81dcf35a5941e4775b4", func := "octroi/octroilaw05.RippktWhole", spec := "rippktWhole", unfollowed := true, recurses := true, apart := false }
def RippktWholeSaid : Prop := rippktWholeRow.holds Try.pinned (OpenSpec.ofChange rippktWholeSpec)

/-- ITS FALSE NEIGHBOUR: 'it returns false'. Refute it at one input. -/
def rippktWholeWrong : ChangeSpec := { name := "rippktWhole", fn := fun _ => fun
  | [d] => { results := [.lit (.bool false)], args := [d] }
  | _ => none }
def RippktWholeWrongFalsely : Prop := rippktWholeRow.holds Try.pinned (OpenSpec.ofChange rippktWholeWrong)

/- THE SECOND FORM. 'bulk': how many values and letters a reading holds, each counted each time it is reached (what is shared counts as often as it is met; a slice's spare places count too). A statement '..UptoSaid' is the law's where the arguments, and the package variables that the reading takes, are together of bulk at most 1048576: NARROWER than '..Said'. Prove '..Said' where nothing that the law and all that it calls make is longer than what came in: it says more and counts as full. Else prove '..UptoSaid'. A law counts once. -/
mutual
def uptoBulk {H : Type} : DataW H → Nat
  | .lit (.string bytes) => bytes.length + 1
  | .lit _ => 1
  | .nil => 1
  | .ptr d => uptoBulk d + 1
  | .slice elems spare => uptoBulkAll elems + uptoBulkAll spare + 1
  | .agg parts => uptoBulkAll parts + 1
  | .iface _ d => uptoBulk d + 1
  | .map entries => uptoBulkEntries entries + 1
  | .held _ => 1
def uptoBulkAll {H : Type} : List (DataW H) → Nat
  | [] => 0
  | d :: r => uptoBulk d + uptoBulkAll r
def uptoBulkEntries {H : Type} : List (Lit × DataW H) → Nat
  | [] => 0
  | x :: r => uptoBulkEntry x + uptoBulkEntries r
def uptoBulkEntry {H : Type} : Lit × DataW H → Nat
  | (.string bytes, d) => bytes.length + uptoBulk d + 1
  | (_, d) => uptoBulk d + 1
 end
def uptoSmall : (H : Type) → List (DataW H) → Bool := fun _ ds => decide (uptoBulkAll ds ≤ 1048576)
def OpenSpec.upto (s : _root_.Go.ChangeSpec) : _root_.Go.OpenSpec := { _root_.Go.OpenSpec.ofChange s with cond := some uptoSmall }

/-- 'octroilaw05.RippktEncodes', WHERE WHAT IT READS IS OF BULK AT MOST 1048576: true; the input reads as it did. -/
def rippktEncodesUptoRow : OpenClaim := { program := "ytahllmihgpaaeaa", sum := "0f30075365ea9e2e54c059c8f0e99b08333c9f8c7aa5d81dcf35a5941e4775b4", func := "octroi/octroilaw05.RippktEncodes", spec := "rippktEncodes", unfollowed := true, recurses := true, apart := false, narrowed := true }
def RippktEncodesUptoSaid : Prop := rippktEncodesUptoRow.holds Try.pinned (OpenSpec.upto rippktEncodesSpec)

/-- 'octroilaw05.RippktEntries', WHERE WHAT IT READS IS OF BULK AT MOST 1048576: true; the input reads as it did. -/
def rippktEntriesUptoRow : OpenClaim := { program := "ytahllmihgpaaeaa", sum := "0f30075365ea9e2e54c059c8f0e99b08333c9f8c7aa5d81dcf35a5941e4775b4", func := "octroi/octroilaw05.RippktEntries", spec := "rippktEntries", unfollowed := true, recurses := true, apart := false, narrowed := true }
def RippktEntriesUptoSaid : Prop := rippktEntriesUptoRow.holds Try.pinned (OpenSpec.upto rippktEntriesSpec)

/-- 'octroilaw05.RippktDecodes', WHERE WHAT IT READS IS OF BULK AT MOST 1048576: true; the input reads as it did. -/
def rippktDecodesUptoRow : OpenClaim := { program := "ytahllmihgpaaeaa", sum := "0f30075365ea9e2e54c059c8f0e99b08333c9f8c7aa5d81dcf35a5941e4775b4", func := "octroi/octroilaw05.RippktDecodes", spec := "rippktDecodes", unfollowed := true, recurses := true, apart := false, narrowed := true }
def RippktDecodesUptoSaid : Prop := rippktDecodesUptoRow.holds Try.pinned (OpenSpec.upto rippktDecodesSpec)

/-- 'octroilaw05.RippktBack', WHERE WHAT IT READS IS OF BULK AT MOST 1048576: true; the input reads as it did. -/
def rippktBackUptoRow : OpenClaim := { program := "ytahllmihgpaaeaa", sum := "0f30075365ea9e2e54c059c8f0e99b08333c9f8c7aa5d81dcf35a5941e4775b4", func := "octroi/octroilaw05.RippktBack", spec := "rippktBack", unfollowed := true, recurses := true, apart := false, narrowed := true }
def RippktBackUptoSaid : Prop := rippktBackUptoRow.holds Try.pinned (OpenSpec.upto rippktBackSpec)

/-- 'octroilaw05.RippktOnce', WHERE WHAT IT READS IS OF BULK AT MOST 1048576: true; the input reads as it did. -/
def rippktOnceUptoRow : OpenClaim := { program := "ytahllmihgpaaeaa", sum := "0f30075365ea9e2e54c059c8f0e99b08333c9f8c7aa5d81dcf35a5941e4775b4", func := "octroi/octroilaw05.RippktOnce", spec := "rippktOnce", unfollowed := true, recurses := true, apart := false, narrowed := true }
def RippktOnceUptoSaid : Prop := rippktOnceUptoRow.holds Try.pinned (OpenSpec.upto rippktOnceSpec)

/-- 'octroilaw05.RippktCuts', WHERE WHAT IT READS IS OF BULK AT MOST 1048576: true; the input reads as it did. -/
def rippktCutsUptoRow : OpenClaim := { program := "ytahllmihgpaaeaa", sum := "0f30075365ea9e2e54c059c8f0e99b08333c9f8c7aa5d81dcf35a5941e4775b4", func := "octroi/octroilaw05.RippktCuts", spec := "rippktCuts", unfollowed := true, recurses := true, apart := false, narrowed := true }
def RippktCutsUptoSaid : Prop := rippktCutsUptoRow.holds Try.pinned (OpenSpec.upto rippktCutsSpec)

/-- 'octroilaw05.RippktWhole', WHERE WHAT IT READS IS OF BULK AT MOST 1048576: true; the input reads as it did. -/
def rippktWholeUptoRow : OpenClaim := { program := "ytahllmihgpaaeaa", sum := "0f30075365ea9e2e54c059c8f0e99b08333c9f8c7aa5d81dcf35a5941e4775b4", func := "octroi/octroilaw05.RippktWhole", spec := "rippktWhole", unfollowed := true, recurses := true, apart := false, narrowed := true }
def RippktWholeUptoSaid : Prop := rippktWholeUptoRow.holds Try.pinned (OpenSpec.upto rippktWholeSpec)

end Rows
end Go.Proofs.Ytahllmihgpaaeaa
