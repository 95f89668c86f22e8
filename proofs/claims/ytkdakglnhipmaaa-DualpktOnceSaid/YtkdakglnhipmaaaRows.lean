/-
  No cell of these rows narrows 'for every input' (looked for: loops, veiled, ifaces, maps, wideKeys, modest, calm, conditions, laid).
  DERIVED. THE GIVEN ROWS OF THIS SEAT. 6 by the template 'for every input the law returns true; each argument reads behind the call as it read before'; 0 by the template 'total and deterministic' (their statements: YtkdakglnhipmaaaTotals.lean).
  GIVEN WITH THE SEED: the statements are not yours to turn. If you find one false, say at which input.
  Laid BY PROGRAM, IN A SANDBOX (cutbox-rows.mjs): the forced cells as the released guide's own fill.sh prints them over the translation e3c00f4ab32f9b71… (all of the seat's roots in one cut). By AI agents, Wed Nov 11 2026. No macro, syntax, notation, axiom, sorry.
-/
import Derived.Test.YtkdakglnhipmaaaChecked
import GoSem.Claim
import GoSem.ClaimJoined
import GoSem.ClaimMapViews
import Derived.JoinedTies
import Derived.KernelRfl
namespace Go.Proofs.Ytkdakglnhipmaaa
/- THE CELL 'sum', in the pinned program and in every row, IS THE sha256 OF THE DUMP (.gsa) THAT YtkdakglnhipmaaaProg.lean LOADS. Nothing in Lean hashes anything: it is a label: what it is worth is what the hold of that sum in a sandbox is worth. -/
noncomputable def Try.pinned : Pinned := { name := "ytkdakglnhipmaaa", sum := "e3c00f4ab32f9b71ea1e2f15603df25b777382278425521718bdd8e5349f20ca", checked := Try.checked }
namespace Rows
def none {H : Type} : Left H := { results := [], args := [] }

/-- 'octroilaw07.DualpktEncodes': WHATEVER THE INPUT: true; the input reads as it did. -/
def dualpktEncodesSpec : ChangeSpec := { name := "dualpktEncodes", fn := fun _ => fun
  | [d] => { results := [.lit (.bool true)], args := [d] }
  | _ => none }
def dualpktEncodesRow : OpenClaim := { program := "ytkdakglnhipmaaa", sum := "e3c00f4ab32f9b71ea1e2f15603df25b777382278425521718bdd8e5349f20ca", func := "octroi/octroilaw07.DualpktEncodes", spec := "dualpktEncodes", unfollowed := true, recurses := true, apart := false }
def DualpktEncodesSaid : Prop := dualpktEncodesRow.holds Try.pinned (OpenSpec.ofChange dualpktEncodesSpec)

/-- ITS FALSE NEIGHBOUR: 'it returns false'. Refute it at one input. -/
def dualpktEncodesWrong : ChangeSpec := { name := "dualpktEncodes", fn := fun _ => fun
  | [d] => { results := [.lit (.bool false)], args := [d] }
  | _ => none }
def DualpktEncodesWrongFalsely : Prop := dualpktEncodesRow.holds Try.pinned (OpenSpec.ofChange dualpktEncodesWrong)

/-- 'octroilaw07.DualpktApart': WHATEVER THE INPUT: true; the input reads as it did. -/
def dualpktApartSpec : ChangeSpec := { name := "dualpktApart", fn := fun _ => fun
  | [d1, d2] => { results := [.lit (.bool true)], args := [d1, d2] }
  | _ => none }
def dualpktApartRow : OpenClaim := { program := "ytkdakglnhipmaaa", sum := "e3c00f4ab32f9b71ea1e2f15603df25b777382278425521718bdd8e5349f20ca", func := "octroi/octroilaw07.DualpktApart", spec := "dualpktApart", unfollowed := true, recurses := true, apart := false }
def DualpktApartSaid : Prop := dualpktApartRow.holds Try.pinned (OpenSpec.ofChange dualpktApartSpec)

/-- ITS FALSE NEIGHBOUR: 'it returns false'. Refute it at one input. -/
def dualpktApartWrong : ChangeSpec := { name := "dualpktApart", fn := fun _ => fun
  | [d1, d2] => { results := [.lit (.bool false)], args := [d1, d2] }
  | _ => none }
def DualpktApartWrongFalsely : Prop := dualpktApartRow.holds Try.pinned (OpenSpec.ofChange dualpktApartWrong)

/-- 'octroilaw07.DualpktDecodes': WHATEVER THE INPUT: true; the input reads as it did. -/
def dualpktDecodesSpec : ChangeSpec := { name := "dualpktDecodes", fn := fun _ => fun
  | [d] => { results := [.lit (.bool true)], args := [d] }
  | _ => none }
def dualpktDecodesRow : OpenClaim := { program := "ytkdakglnhipmaaa", sum := "e3c00f4ab32f9b71ea1e2f15603df25b777382278425521718bdd8e5349f20ca", func := "octroi/octroilaw07.DualpktDecodes", spec := "dualpktDecodes", unfollowed := true, recurses := true, apart := false }
def DualpktDecodesSaid : Prop := dualpktDecodesRow.holds Try.pinned (OpenSpec.ofChange dualpktDecodesSpec)

/-- ITS FALSE NEIGHBOUR: 'it returns false'. Refute it at one input. -/
def dualpktDecodesWrong : ChangeSpec := { name := "dualpktDecodes", fn := fun _ => fun
  | [d] => { results := [.lit (.bool false)], args := [d] }
  | _ => none }
def DualpktDecodesWrongFalsely : Prop := dualpktDecodesRow.holds Try.pinned (OpenSpec.ofChange dualpktDecodesWrong)

/-- 'octroilaw07.DualpktBack': WHATEVER THE INPUT: true; the input reads as it did. -/
def dualpktBackSpec : ChangeSpec := { name := "dualpktBack", fn := fun _ => fun
  | [d] => { results := [.lit (.bool true)], args := [d] }
  | _ => none }
def dualpktBackRow : OpenClaim := { program := "ytkdakglnhipmaaa", sum := "e3c00f4ab32f9b71ea1e2f15603df25b777382278425521718bdd8e5349f20ca", func := "octroi/octroilaw07.DualpktBack", spec := "dualpktBack", unfollowed := true, recurses := true, apart := false }
def DualpktBackSaid : Prop := dualpktBackRow.holds Try.pinned (OpenSpec.ofChange dualpktBackSpec)

/-- ITS FALSE NEIGHBOUR: 'it returns false'. Refute it at one input. -/
def dualpktBackWrong : ChangeSpec := { name := "dualpktBack", fn := fun _ => fun
  | [d] => { results := [.lit (.bool false)], args := [d] }
  | _ => none }
def DualpktBackWrongFalsely : Prop := dualpktBackRow.holds Try.pinned (OpenSpec.ofChange dualpktBackWrong)

/-- 'octroilaw07.DualpktOnce': WHATEVER THE INPUT: true; the input reads as it did. -/
def dualpktOnceSpec : ChangeSpec := { name := "dualpktOnce", fn := fun _ => fun
  | [d] => { results := [.lit (.bool true)], args := [d] }
  | _ => none }
def dualpktOnceRow : OpenClaim := { program := "ytkdakglnhipmaaa", sum := "e3c00f4ab32f9b71ea1e2f15603df25b777382278425521718bdd8e5349f20ca", func := "octroi/octroilaw07.DualpktOnce", spec := "dualpktOnce", unfollowed := true, recurses := true, apart := false }
def DualpktOnceSaid : Prop := dualpktOnceRow.holds Try.pinned (OpenSpec.ofChange dualpktOnceSpec)

/-- ITS FALSE NEIGHBOUR: 'it returns false'. Refute it at one input. -/
def dualpktOnceWrong : ChangeSpec := { name := "dualpktOnce", fn := fun _ => fun
  | [d] => { results := [.lit (.bool false)], args := [d] }
  | _ => none }
def DualpktOnceWrongFalsely : Prop := dualpktOnceRow.holds Try.pinned (OpenSpec.ofChange dualpktOnceWrong)

/-- 'octroilaw07.DualpktSpoils': WHATEVER THE INPUT: true; the input reads as it did. -/
def dualpktSpoilsSpec : ChangeSpec := { name := "dualpktSpoils", fn := fun _ => fun
  | [d1, d2, d3] => { results := [.lit (.bool true)], args := [d1, d2, d3] }
  | _ => none }
def dualpktSpoilsRow : OpenClaim := { program := "ytkdakglnhipmaaa", sum := "e3c00f4ab32f9b71ea1e2f15603df25b777382278425521718bdd8e5349f20ca", func := "octroi/octroilaw07.DualpktSpoils", spec := "dualpktSpoils", unfollowed := true, recurses := true, apart := false }
def DualpktSpoilsSaid : Prop := dualpktSpoilsRow.holds Try.pinned (OpenSpec.ofChange dualpktSpoilsSpec)

/-- ITS FALSE NEIGHBOUR: 'it returns false'. Refute it at one input. -/
def dualpktSpoilsWrong : ChangeSpec := { name := "dualpktSpoils", fn := fun _ => fun
  | [d1, d2, d3] => { results := [.lit (.bool false)], args := [d1, d2, d3] }
  | _ => none }
def DualpktSpoilsWrongFalsely : Prop := dualpktSpoilsRow.holds Try.pinned (OpenSpec.ofChange dualpktSpoilsWrong)

/- THE SECOND FORM. 'bulk': how many values and letters a reading holds, each counted each time it is reached (what is shared counts as often as it is met; a slice's spare places count too). A statement '..UptoSaid' is the law's where the arguments, and the package variables that the reading takes, are together of bulk at most 1048576: NARROWER than '..Said'. Prove '..Said' where nothing that the law and all that it calls make is longer than what came in: it says more and counts as full. Else prove '..UptoSaid'. A law counts once. -/
mutual
def uptoBulk {H : Type} : DataW H → Nat
  | .lit (.string bytes) => bytes.length + 1
  | .lit _ => 1
  | .nil => 1
  | .ptr d => uptoBulk d + 1
  | .slice elems spare => uptoBulkAll elems + uptoBulkAll spare + 1
  | .agg parts => uptoBulkAll parts + 1
  | .iface _ d => uptoBulk d + 1
  | .map entries => uptoBulkEntries entries + 1
  | .held _ => 1
def uptoBulkAll {H : Type} : List (DataW H) → Nat
  | [] => 0
  | d :: r => uptoBulk d + uptoBulkAll r
def uptoBulkEntries {H : Type} : List (Lit × DataW H) → Nat
  | [] => 0
  | x :: r => uptoBulkEntry x + uptoBulkEntries r
def uptoBulkEntry {H : Type} : Lit × DataW H → Nat
  | (.string bytes, d) => bytes.length + uptoBulk d + 1
  | (_, d) => uptoBulk d + 1
 end
def uptoSmall : (H : Type) → List (DataW H) → Bool := fun _ ds => decide (uptoBulkAll ds ≤ 1048576)
def OpenSpec.upto (s : _root_.Go.ChangeSpec) : _root_.Go.OpenSpec := { _root_.Go.OpenSpec.ofChange s with cond := some uptoSmall }

/-- 'octroilaw07.DualpktEncodes', WHERE WHAT IT READS IS OF BULK AT MOST 1048576: true; the input reads as it did. -/
def dualpktEncodesUptoRow : OpenClaim := { program := "ytkdakglnhipmaaa", sum := "e3c00f4ab32f9b71ea1e2f15603df25b777382278425521718bdd8e5349f20ca", func := "octroi/octroilaw07.DualpktEncodes", spec := "dualpktEncodes", unfollowed := true, recurses := true, apart := false, narrowed := true }
def DualpktEncodesUptoSaid : Prop := dualpktEncodesUptoRow.holds Try.pinned (OpenSpec.upto dualpktEncodesSpec)

/-- 'octroilaw07.DualpktApart', WHERE WHAT IT READS IS OF BULK AT MOST 1048576: true; the input reads as it did. -/
def dualpktApartUptoRow : OpenClaim := { program := "ytkdakglnhipmaaa", sum := "e3c00f4ab32f9b71ea1e2f15603df25b777382278425521718bdd8e5349f20ca", func := "octroi/octroilaw07.DualpktApart", spec := "dualpktApart", unfollowed := true, recurses := true, apart := false, narrowed := true }
def DualpktApartUptoSaid : Prop := dualpktApartUptoRow.holds Try.pinned (OpenSpec.upto dualpktApartSpec)

/-- 'octroilaw07.DualpktDecodes', WHERE WHAT IT READS IS OF BULK AT MOST 1048576: true; the input reads as it did. -/
def dualpktDecodesUptoRow : OpenClaim := { program := "ytkdakglnhipmaaa", sum := "e3c00f4ab32f9b71ea1e2f15603df25b777382278425521718bdd8e5349f20ca", func := "octroi/octroilaw07.DualpktDecodes", spec := "dualpktDecodes", unfollowed := true, recurses := true, apart := false, narrowed := true }
def DualpktDecodesUptoSaid : Prop := dualpktDecodesUptoRow.holds Try.pinned (OpenSpec.upto dualpktDecodesSpec)

/-- 'octroilaw07.DualpktBack', WHERE WHAT IT READS IS OF BULK AT MOST 1048576: true; the input reads as it did. -/
def dualpktBackUptoRow : OpenClaim := { program := "ytkdakglnhipmaaa", sum := "e3c00f4ab32f9b71ea1e2f15603df25b777382278425521718bdd8e5349f20ca", func := "octroi/octroilaw07.DualpktBack", spec := "dualpktBack", unfollowed := true, recurses := true, apart := false, narrowed := true }
def DualpktBackUptoSaid : Prop := dualpktBackUptoRow.holds Try.pinned (OpenSpec.upto dualpktBackSpec)

/-- 'octroilaw07.DualpktOnce', WHERE WHAT IT READS IS OF BULK AT MOST 1048576: true; the input reads as it did. -/
def dualpktOnceUptoRow : OpenClaim := { program := "ytkdakglnhipmaaa", sum := "e3c00f4ab32f9b71ea1e2f15603df25b777382278425521718bdd8e5349f20ca", func := "octroi/octroilaw07.DualpktOnce", spec := "dualpktOnce", unfollowed := true, recurses := true, apart := false, narrowed := true }
def DualpktOnceUptoSaid : Prop := dualpktOnceUptoRow.holds Try.pinned (OpenSpec.upto dualpktOnceSpec)

/-- 'octroilaw07.DualpktSpoils', WHERE WHAT IT READS IS OF BULK AT MOST 1048576: true; the input reads as it did. -/
def dualpktSpoilsUptoRow : OpenClaim := { program := "ytkdakglnhipmaaa", sum := "e3c00f4ab32f9b71ea1e2f15603df25b777382278425521718bdd8e5349f20ca", func := "octroi/octroilaw07.DualpktSpoils", spec := "dualpktSpoils", unfollowed := true, recurses := true, apart := false, narrowed := true }
def DualpktSpoilsUptoSaid : Prop := dualpktSpoilsUptoRow.holds Try.pinned (OpenSpec.upto dualpktSpoilsSpec)

end Rows
end Go.Proofs.Ytkdakglnhipmaaa
