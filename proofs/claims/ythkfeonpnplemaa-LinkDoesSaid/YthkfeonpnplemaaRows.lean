/-
  No cell of these rows narrows 'for every input' (looked for: loops, veiled, ifaces, maps, wideKeys, modest, calm, conditions, laid).
  DERIVED. THE GIVEN ROWS OF THIS SEAT. 4 by the template 'for every input the law returns true; each argument reads behind the call as it read before'; 0 by the template 'total and deterministic' (their statements: YthkfeonpnplemaaTotals.lean).
  GIVEN WITH THE SEED: the statements are not yours to turn. If you find one false, say at which input.
  Laid BY PROGRAM, IN A SANDBOX (cutbox-rows.mjs): the forced cells as the released guide's own fill.sh prints them over the translation c03fbc53c9f1a2b0… (all of the seat's roots in one cut). By AI agents, Wed Nov 11 2026. No macro, syntax, notation, axiom, sorry.
-/
import Derived.Test.YthkfeonpnplemaaChecked
import GoSem.Claim
import GoSem.ClaimJoined
import GoSem.ClaimMapViews
import Derived.JoinedTies
import Derived.KernelRfl
namespace Go.Proofs.Ythkfeonpnplemaa
/- THE CELL 'sum', in the pinned program and in every row, IS THE sha256 OF THE DUMP (.gsa) THAT YthkfeonpnplemaaProg.lean LOADS. Nothing in Lean hashes anything: it is a label: what it is worth is what the hold of that sum in a sandbox is worth. -/
noncomputable def Try.pinned : Pinned := { name := "ythkfeonpnplemaa", sum := "c03fbc53c9f1a2b08a5237d69d903d394c718d97810891b01e56c1ec297db8d7", checked := Try.checked }
namespace Rows
def none {H : Type} : Left H := { results := [], args := [] }

/-- 'octroilaw20.LinkCuts': WHATEVER THE INPUT: true; the input reads as it did. -/
def linkCutsSpec : ChangeSpec := { name := "linkCuts", fn := fun _ => fun
  | [d1, d2, d3, d4] => { results := [.lit (.bool true)], args := [d1, d2, d3, d4] }
  | _ => none }
def linkCutsRow : OpenClaim := { program := "ythkfeonpnplemaa", sum := "c03fbc53c9f1a2b08a5237d69d903d394c718d97810891b01e56c1ec297db8d7", func := "octroi/octroilaw20.LinkCuts", spec := "linkCuts", unfollowed := true, recurses := true, apart := false }
def LinkCutsSaid : Prop := linkCutsRow.holds Try.pinned (OpenSpec.ofChange linkCutsSpec)

/-- ITS FALSE NEIGHBOUR: 'it returns false'. Refute it at one input. -/
def linkCutsWrong : ChangeSpec := { name := "linkCuts", fn := fun _ => fun
  | [d1, d2, d3, d4] => { results := [.lit (.bool false)], args := [d1, d2, d3, d4] }
  | _ => none }
def LinkCutsWrongFalsely : Prop := linkCutsRow.holds Try.pinned (OpenSpec.ofChange linkCutsWrong)

/-- 'octroilaw20.LinkOrder': WHATEVER THE INPUT: true; the input reads as it did. -/
def linkOrderSpec : ChangeSpec := { name := "linkOrder", fn := fun _ => fun
  | [d] => { results := [.lit (.bool true)], args := [d] }
  | _ => none }
def linkOrderRow : OpenClaim := { program := "ythkfeonpnplemaa", sum := "c03fbc53c9f1a2b08a5237d69d903d394c718d97810891b01e56c1ec297db8d7", func := "octroi/octroilaw20.LinkOrder", spec := "linkOrder", unfollowed := true, recurses := true, apart := false }
def LinkOrderSaid : Prop := linkOrderRow.holds Try.pinned (OpenSpec.ofChange linkOrderSpec)

/-- ITS FALSE NEIGHBOUR: 'it returns false'. Refute it at one input. -/
def linkOrderWrong : ChangeSpec := { name := "linkOrder", fn := fun _ => fun
  | [d] => { results := [.lit (.bool false)], args := [d] }
  | _ => none }
def LinkOrderWrongFalsely : Prop := linkOrderRow.holds Try.pinned (OpenSpec.ofChange linkOrderWrong)

/-- 'octroilaw20.LinkDoes': WHATEVER THE INPUT: true; the input reads as it did. -/
def linkDoesSpec : ChangeSpec := { name := "linkDoes", fn := fun _ => fun
  | [d] => { results := [.lit (.bool true)], args := [d] }
  | _ => none }
def linkDoesRow : OpenClaim := { program := "ythkfeonpnplemaa", sum := "c03fbc53c9f1a2b08a5237d69d903d394c718d97810891b01e56c1ec297db8d7", func := "octroi/octroilaw20.LinkDoes", spec := "linkDoes", unfollowed := true, recurses := true, apart := false }
def LinkDoesSaid : Prop := linkDoesRow.holds Try.pinned (OpenSpec.ofChange linkDoesSpec)

/-- ITS FALSE NEIGHBOUR: 'it returns false'. Refute it at one input. -/
def linkDoesWrong : ChangeSpec := { name := "linkDoes", fn := fun _ => fun
  | [d] => { results := [.lit (.bool false)], args := [d] }
  | _ => none }
def LinkDoesWrongFalsely : Prop := linkDoesRow.holds Try.pinned (OpenSpec.ofChange linkDoesWrong)

/-- 'octroilaw20.LinkSent': WHATEVER THE INPUT: true; the input reads as it did. -/
def linkSentSpec : ChangeSpec := { name := "linkSent", fn := fun _ => fun
  | [d] => { results := [.lit (.bool true)], args := [d] }
  | _ => none }
def linkSentRow : OpenClaim := { program := "ythkfeonpnplemaa", sum := "c03fbc53c9f1a2b08a5237d69d903d394c718d97810891b01e56c1ec297db8d7", func := "octroi/octroilaw20.LinkSent", spec := "linkSent", unfollowed := true, recurses := true, apart := false }
def LinkSentSaid : Prop := linkSentRow.holds Try.pinned (OpenSpec.ofChange linkSentSpec)

/-- ITS FALSE NEIGHBOUR: 'it returns false'. Refute it at one input. -/
def linkSentWrong : ChangeSpec := { name := "linkSent", fn := fun _ => fun
  | [d] => { results := [.lit (.bool false)], args := [d] }
  | _ => none }
def LinkSentWrongFalsely : Prop := linkSentRow.holds Try.pinned (OpenSpec.ofChange linkSentWrong)

/- THE SECOND FORM. 'bulk': how many values and letters a reading holds, each counted each time it is reached (what is shared counts as often as it is met; a slice's spare places count too). A statement '..UptoSaid' is the law's where the arguments, and the package variables that the reading takes, are together of bulk at most 1048576: NARROWER than '..Said'. Prove '..Said' where nothing that the law and all that it calls make is longer than what came in: it says more and counts as full. Else prove '..UptoSaid'. A law counts once. -/
mutual
def uptoBulk {H : Type} : DataW H → Nat
  | .lit (.string bytes) => bytes.length + 1
  | .lit _ => 1
  | .nil => 1
  | .ptr d => uptoBulk d + 1
  | .slice elems spare => uptoBulkAll elems + uptoBulkAll spare + 1
  | .agg parts => uptoBulkAll parts + 1
  | .iface _ d => uptoBulk d + 1
  | .map entries => uptoBulkEntries entries + 1
  | .held _ => 1
def uptoBulkAll {H : Type} : List (DataW H) → Nat
  | [] => 0
  | d :: r => uptoBulk d + uptoBulkAll r
def uptoBulkEntries {H : Type} : List (Lit × DataW H) → Nat
  | [] => 0
  | x :: r => uptoBulkEntry x + uptoBulkEntries r
def uptoBulkEntry {H : Type} : Lit × DataW H → Nat
  | (.string bytes, d) => bytes.length + uptoBulk d + 1
  | (_, d) => uptoBulk d + 1
 end
def uptoSmall : (H : Type) → List (DataW H) → Bool := fun _ ds => decide (uptoBulkAll ds ≤ 1048576)
def OpenSpec.upto (s : _root_.Go.ChangeSpec) : _root_.Go.OpenSpec := { _root_.Go.OpenSpec.ofChange s with cond := some uptoSmall }

/-- 'octroilaw20.LinkCuts', WHERE WHAT IT READS IS OF BULK AT MOST 1048576: true; the input reads as it did. -/
def linkCutsUptoRow : OpenClaim := { program := "ythkfeonpnplemaa", sum := "c03fbc53c9f1a2b08a5237d69d903d394c718d97810891b01e56c1ec297db8d7", func := "octroi/octroilaw20.LinkCuts", spec := "linkCuts", unfollowed := true, recurses := true, apart := false, narrowed := true }
def LinkCutsUptoSaid : Prop := linkCutsUptoRow.holds Try.pinned (OpenSpec.upto linkCutsSpec)

/-- 'octroilaw20.LinkOrder', WHERE WHAT IT READS IS OF BULK AT MOST 1048576: true; the input reads as it did. -/
def linkOrderUptoRow : OpenClaim := { program := "ythkfeonpnplemaa", sum := "c03fbc53c9f1a2b08a5237d69d903d394c718d97810891b01e56c1ec297db8d7", func := "octroi/octroilaw20.LinkOrder", spec := "linkOrder", unfollowed := true, recurses := true, apart := false, narrowed := true }
def LinkOrderUptoSaid : Prop := linkOrderUptoRow.holds Try.pinned (OpenSpec.upto linkOrderSpec)

/-- 'octroilaw20.LinkDoes', WHERE WHAT IT READS IS OF BULK AT MOST 1048576: true; the input reads as it did. -/
def linkDoesUptoRow : OpenClaim := { program := "ythkfeonpnplemaa", sum := "c03fbc53c9f1a2b08a5237d69d903d394c718d97810891b01e56c1ec297db8d7", func := "octroi/octroilaw20.LinkDoes", spec := "linkDoes", unfollowed := true, recurses := true, apart := false, narrowed := true }
def LinkDoesUptoSaid : Prop := linkDoesUptoRow.holds Try.pinned (OpenSpec.upto linkDoesSpec)

/-- 'octroilaw20.LinkSent', WHERE WHAT IT READS IS OF BULK AT MOST 1048576: true; the input reads as it did. -/
def linkSentUptoRow : OpenClaim := { program := "ythkfeonpnplemaa", sum := "c03fbc53c9f1a2b08a5237d69d903d394c718d97810891b01e56c1ec297db8d7", func := "octroi/octroilaw20.LinkSent", spec := "linkSent", unfollowed := true, recurses := true, apart := false, narrowed := true }
def LinkSentUptoSaid : Prop := linkSentUptoRow.holds Try.pinned (OpenSpec.upto linkSentSpec)

end Rows
end Go.Proofs.Ythkfeonpnplemaa
